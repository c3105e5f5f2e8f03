/- The memory of a call as a list of pieces apart from one another: making, writing, appending, with all other pieces kept. -/
import Derived.Test.YtpnnedkpbmilkaaVHelp
set_option linter.unusedVariables false
set_option linter.unusedSimpArgs false
namespace Go.VC

/-- A piece of memory: its blocks, and what they hold. -/
structure Pc where
  foot : Nat → Prop
  ok : Heap → Prop
  fr : ∀ {H H' : Heap}, Agr foot H H' → ok H → ok H'
def Dis (p q : Pc) : Prop := ∀ k, p.foot k → ¬ q.foot k
/-- What was there at H0 is as it was; beside it there are these pieces, apart from one another. -/
structure St (H0 H : Heap) (ps : List Pc) : Prop where
  old : Agr (Old H0) H0 H
  oks : ∀ p ∈ ps, p.ok H
  rng : ∀ p ∈ ps, ∀ k, p.foot k → H0.size ≤ k ∧ k < H.size
  dis : ps.Pairwise Dis
section
variable {H0 H H' : Heap} {ps : List Pc} {p q : Pc}
theorem St.nil (H : Heap) : St H H [] := ⟨Agr.refl _ _, (fun _ h => by cases h), (fun _ h => by cases h), List.Pairwise.nil⟩
theorem St.size (st : St H0 H ps) : H0.size ≤ H.size := old_size st.old
theorem St.call (st : St H0 H ps) (h : Agr (Old H) H H') : St H0 H' ps :=
  ⟨st.old.trans (h.mono fun k hk => old_lt st.old hk), fun p hp => p.fr (h.mono fun k hk => (st.rng p hp k hk).2) (st.oks p hp),
    fun p hp k hk => ⟨(st.rng p hp k hk).1, old_lt h (st.rng p hp k hk).2⟩, st.dis⟩
theorem St.at_ (st : St H0 H ps) (i : Nat) (hp : ps[i]? = some p) : p.ok H := st.oks p (List.mem_of_getElem? hp)
theorem St.in_ (st : St H0 H ps) (i : Nat) (hp : ps[i]? = some p) {k : Nat} (hk : p.foot k) : H0.size ≤ k ∧ k < H.size := st.rng p (List.mem_of_getElem? hp) k hk
/-- One piece more. -/
theorem St.add (st : St H0 H ps) (h : Agr (Old H) H H') (p : Pc) (hp : p.ok H') (hf : ∀ k, p.foot k → H.size ≤ k ∧ k < H'.size) : St H0 H' (ps ++ [p]) := by
  have st' := st.call h
  refine ⟨st'.old, fun q hq => ?_, fun q hq k hk => ?_, List.pairwise_append.2 ⟨st.dis, List.pairwise_singleton _ _, fun a ha b hb => ?_⟩⟩
  · rcases List.mem_append.1 hq with hq | hq
    · exact st'.oks q hq
    · rw [List.mem_singleton] at hq; subst hq; exact hp
  · rcases List.mem_append.1 hq with hq | hq
    · exact st'.rng q hq k hk
    · rw [List.mem_singleton] at hq; subst hq
      have := st.size; have := hf k hk; omega
  · rw [List.mem_singleton] at hb; subst hb
    intro k hk hk'
    have := (st.rng a ha k hk).2; have := (hf k hk').1; omega
/-- One piece turned, all others kept. -/
theorem St.upd (st : St H0 H ps) (i : Nat) (hp : ps[i]? = some p) (h : Agr (fun k => k < H.size ∧ ¬ p.foot k) H H') (q : Pc) (hq : q.ok H') (hf : ∀ k, q.foot k → p.foot k ∨ H.size ≤ k) (hl : ∀ k, q.foot k → k < H'.size) (hs : H.size ≤ H'.size) : St H0 H' (ps.set i q) := by
  have hi := (List.getElem?_eq_some_iff.1 hp).1
  have hpi := List.mem_of_getElem? hp
  have key : ∀ (j : Nat) (r : Pc), ps[j]? = some r → j ≠ i → Dis r p := by
    intro j r hr hj k hk hk'
    have hjl := (List.getElem?_eq_some_iff.1 hr).1
    have e1 := (List.getElem?_eq_some_iff.1 hr).2
    have e2 := (List.getElem?_eq_some_iff.1 hp).2
    rcases Nat.lt_or_gt_of_ne hj with hji | hji
    · exact List.pairwise_iff_getElem.1 st.dis j i hjl hi hji k (by rw [e1]; exact hk) (by rw [e2]; exact hk')
    · exact List.pairwise_iff_getElem.1 st.dis i j hi hjl hji k (by rw [e2]; exact hk') (by rw [e1]; exact hk)
  have mem : ∀ r, r ∈ ps.set i q → r = q ∨ ∃ j, j ≠ i ∧ ps[j]? = some r := by
    intro r hr
    obtain ⟨j, hj⟩ := List.getElem?_of_mem hr
    by_cases hji : i = j
    · subst hji
      rw [List.getElem?_set_self hi] at hj
      cases hj; exact .inl rfl
    · rw [List.getElem?_set_ne hji] at hj
      exact .inr ⟨j, Ne.symm hji, hj⟩
  refine ⟨st.old.trans (h.mono fun k hk => ⟨old_lt st.old hk, fun hb => by have := (st.rng p hpi k hb).1; unfold Old at hk; omega⟩), fun r hr => ?_, fun r hr k hk => ?_, ?_⟩
  · rcases mem r hr with rfl | ⟨j, hj, hr⟩
    · exact hq
    · exact r.fr (h.mono fun k hk => ⟨(st.rng r (List.mem_of_getElem? hr) k hk).2, fun hb => key j r hr hj k hk hb⟩) (st.oks r (List.mem_of_getElem? hr))
  · rcases mem r hr with rfl | ⟨j, hj, hr⟩
    · refine ⟨?_, hl k hk⟩
      rcases hf k hk with h1 | h1
      · exact (st.rng p hpi k h1).1
      · have := st.size; omega
    · have := st.rng r (List.mem_of_getElem? hr) k hk
      omega
  · have old : ∀ (j : Nat) (r : Pc), ps[j]? = some r → j ≠ i → Dis r q := by
      intro j r hr hj k hk hk'
      rcases hf k hk' with h1 | h1
      · exact key j r hr hj k hk h1
      · have := (st.rng r (List.mem_of_getElem? hr) k hk).2; omega
    rw [List.pairwise_iff_getElem]
    intro a b ha hb hab
    simp only [List.length_set] at ha hb
    rw [List.getElem_set, List.getElem_set]
    by_cases h1 : i = a
    · subst h1
      rw [if_pos rfl, if_neg (by omega)]
      exact fun k hk hk' => old b _ (List.getElem?_eq_getElem hb) (by omega) k hk' hk
    · rw [if_neg h1]
      by_cases h2 : i = b
      · subst h2
        rw [if_pos rfl]
        exact old a _ (List.getElem?_eq_getElem ha) (by omega)
      · rw [if_neg h2]
        exact List.pairwise_iff_getElem.1 st.dis a b ha hb hab
/-- Some of the pieces, in another order. -/
theorem St.pick (st : St H0 H ps) (is : List Nat) (hn : is.Nodup) : St H0 H (is.filterMap fun i => ps[i]?) := by
  have hm : ∀ r, r ∈ is.filterMap (fun i => ps[i]?) → r ∈ ps := fun r hr => by
    obtain ⟨i, _, hi⟩ := List.mem_filterMap.1 hr
    exact List.mem_of_getElem? hi
  refine ⟨st.old, fun r hr => st.oks r (hm r hr), fun r hr => st.rng r (hm r hr), ?_⟩
  rw [List.pairwise_filterMap]
  refine hn.imp ?_
  intro i j hij a ha b hb k hk hk'
  have hil := (List.getElem?_eq_some_iff.1 ha).1
  have hjl := (List.getElem?_eq_some_iff.1 hb).1
  have e1 := (List.getElem?_eq_some_iff.1 ha).2
  have e2 := (List.getElem?_eq_some_iff.1 hb).2
  rcases Nat.lt_or_gt_of_ne hij with h | h
  · exact List.pairwise_iff_getElem.1 st.dis i j hil hjl h k (by rw [e1]; exact hk) (by rw [e2]; exact hk')
  · exact List.pairwise_iff_getElem.1 st.dis j i hjl hil h k (by rw [e2]; exact hk') (by rw [e1]; exact hk)
/-- A piece said otherwise. -/
theorem St.say (st : St H0 H ps) (i : Nat) (hp : ps[i]? = some p) (q : Pc) (hq : q.ok H) (hf : ∀ k, q.foot k → p.foot k) : St H0 H (ps.set i q) :=
  st.upd i hp (Agr.refl _ _) q hq (fun k hk => .inl (hf k hk)) (fun k hk => (st.in_ i hp (hf k hk)).2) (Nat.le_refl _)
/-- From another beginning: what stands behind it was made later. -/
theorem St.weak {H00 : Heap} (st : St H0 H ps) (h : Agr (Old H00) H00 H0) : St H00 H ps :=
  ⟨h.trans (st.old.mono fun k hk => old_lt h hk), st.oks, fun p hp k hk => by have := st.rng p hp k hk; have := old_size h; omega, st.dis⟩
end

/-! ### blocks -/
/-- A block of values. -/
def pB (e : TypeId) (b : Nat) (l : List Value) : Pc := ⟨fun k => k = b, fun H => Blk H b e l, fun h hp => hp.agr h rfl⟩
section
variable {H0 H H' : Heap} {ps : List Pc} {e : TypeId} {b : Nat} {l : List Value}
theorem St.box (st : St H0 H ps) (hb : b = H.size) (hs : H'.size = b + 1) (hk : Blk H' b e l) (ha : Agr (fun k => k < b) H H') : St H0 H' (ps ++ [pB e b l]) := by
  subst hb
  exact st.add (ha.mono fun k hk => hk) _ hk fun k hk => by have : k = H.size := hk; omega
/-- A block that nobody asks for. -/
theorem St.skip (st : St H0 H ps) (hb : b = H.size) (ha : Agr (fun k => k < b) H H') : St H0 H' ps := by
  subst hb
  exact st.call (ha.mono fun k hk => hk)
theorem St.blk (st : St H0 H ps) (i : Nat) (hp : ps[i]? = some (pB e b l)) : Blk H b e l := st.at_ i hp
theorem st1B {P : Program} {t o : Nat} {v : Value} {K : Heap → Prop} (st : St H0 H ps) (i : Nat) (ht : CellT P t) (hp : ps[i]? = some (pB e b l)) (ho : o < l.length) (hv : v.oneCell' = true)
    (k : ∀ H', St H0 H' (ps.set i (pB e b (l.set o v))) → K H') : VEffU P (Instr.storeAt t (.pointer (some ⟨b, o, none⟩)) v) H K := by
  refine VC.st1 ht (st.at_ i hp) ho hv ?_
  intro H' hb' ha' hs'
  exact k H' (st.upd i hp (ha'.mono fun k hk hkb => hk.2 hkb) _ hb' (fun k hk => .inl hk) (fun k hk => by rw [hs']; exact (st.in_ i hp hk).2) (by omega))
theorem stNB {P : Program} {t o : Nat} {cs : List Value} {K : Heap → Prop} (st : St H0 H ps) (i : Nat) (ht : (P.info? t).map (·.size) = some cs.length) (hp : ps[i]? = some (pB e b l)) (ho : o + cs.length ≤ l.length) (hv : cs.all (·.oneCell') = true)
    (k : ∀ H', St H0 H' (ps.set i (pB e b (splice l o cs))) → K H') : VEffU P (Instr.storeAt t (.pointer (some ⟨b, o, none⟩)) (.agg cs.toArray)) H K := by
  refine VC.stN ht (st.at_ i hp) ho hv ?_
  intro H' hb' ha' hs'
  exact k H' (st.upd i hp (ha'.mono fun k hk hkb => hk.2 hkb) _ hb' (fun k hk => .inl hk) (fun k hk => by rw [hs']; exact (st.in_ i hp hk).2) (by omega))
end

/-! ### slices -/
section
variable {α : Type}
/-- A slice of the call's own whose data lie in S. -/
def pN (T : Ty α) (S : Nat → Prop) (e : TypeId) (a : Option Addr) (n cap : Nat) (xs : List α) : Pc where
  foot k := slB (.slice a n cap) k ∨ S k
  ok H := SlO T S H 0 e (.slice a n cap) xs ∧ ∀ k, S k → ¬ slB (.slice a n cap) k
  fr h hp := ⟨hp.1.agr h (fun _ hb => .inl hb) (fun _ hb => .inr hb), hp.2⟩
def none_ (_ : Nat) : Prop := False
/-- A slice of the call's own, of data without addresses. -/
abbrev pS (T : Ty α) (e : TypeId) (a : Option Addr) (n cap : Nat) (xs : List α) : Pc := pN T none_ e a n cap xs
variable {T : Ty α} {S : Nat → Prop} {e : TypeId} {a : Option Addr} {n cap : Nat} {xs : List α} {H0 H H' : Heap} {ps : List Pc}
theorem SlO.hull {lo : Nat} {v : Value} (h : SlO T S H lo e v xs) : ∃ a cap, v = .slice a xs.length cap := by
  obtain ⟨cs, ⟨h0, h1⟩, h2⟩ := h
  rcases h1 with ⟨rfl, h1⟩ | ⟨b, cap, l, rfl, h4, h5, h6, h7, h8, h9⟩
  · exact ⟨none, 0, by rw [h1]⟩
  · exact ⟨_, _, rfl⟩
theorem SlO.nlen {lo : Nat} (h : SlO T S H lo e (.slice a n cap) xs) : n = xs.length := by
  obtain ⟨a', cap', e⟩ := h.hull
  injection e
theorem SlO.up {lo : Nat} {v : Value} (h : SlO T S H 0 e v xs) (hl : ∀ b, slB v b → lo ≤ b) : SlO T S H lo e v xs := by
  obtain ⟨cs, ⟨h0, h1⟩, h2⟩ := h
  refine ⟨cs, ⟨h0, ?_⟩, h2⟩
  rcases h1 with h1 | ⟨b, cap, l, rfl, r⟩
  · exact .inl h1
  · exact .inr ⟨b, cap, l, rfl, hl b ⟨_, _, _, rfl⟩, r.2⟩
/-- The slice, from H0 on. -/
theorem St.own (st : St H0 H ps) (i : Nat) (hp : ps[i]? = some (pN T S e a n cap xs)) : SlO T S H H0.size e (.slice a n cap) xs :=
  (st.at_ i hp).1.up fun b hb => (st.in_ i hp (.inl hb)).1
theorem St.len (st : St H0 H ps) (i : Nat) (hp : ps[i]? = some (pN T S e a n cap xs)) : n = xs.length := (st.at_ i hp).1.nlen
theorem St.max (st : St H0 H ps) (i : Nat) (hp : ps[i]? = some (pN T S e a n cap xs)) : xs.length ≤ maxLen := (st.at_ i hp).1.len
/-- Its address, where it isn't empty. -/
theorem St.adr (st : St H0 H ps) (i : Nat) (hp : ps[i]? = some (pN T S e a n cap xs)) (hn : 0 < xs.length) : ∃ b, a = some ⟨b, 0, none⟩ := by
  obtain ⟨cs, ⟨h0, h1⟩, h2⟩ := (st.at_ i hp).1
  rcases h1 with ⟨h1, h3⟩ | ⟨b, cap, l, h1, r⟩
  · omega
  · injection h1 with h1
    exact ⟨b, h1⟩
/-- To be read only. -/
theorem St.view (st : St H0 H ps) (i : Nat) (hp : ps[i]? = some (pN T S e a n cap xs)) : SlD T (Old H) H a cap xs := by
  obtain ⟨a', cap', e1, h, -⟩ := (st.at_ i hp).1.view (S' := Old H) (fun b hb => (st.in_ i hp (.inl hb)).2) (fun b hb => (st.in_ i hp (.inr hb)).2)
  injection e1 with e1 e2 e3
  subst e1; subst e3; exact h
theorem St.viewF (st : St H0 H ps) (i : Nat) (hp : ps[i]? = some (pN T S e a n cap xs)) : SlD T (fun k => H0.size ≤ k ∧ k < H.size) H a cap xs := by
  obtain ⟨a', cap', e1, h, -⟩ := (st.at_ i hp).1.view (S' := fun k => H0.size ≤ k ∧ k < H.size) (fun b hb => st.in_ i hp (.inl hb)) (fun b hb => st.in_ i hp (.inr hb))
  injection e1 with e1 e2 e3
  subst e1; subst e3; exact h
/-- The address of an element, to be read. -/
theorem ixO {P : Program} {t by_ j : Nat} {z : Value} {k : IntKind} {x : α} {ji : Int} {S0 : Nat → Prop} {H2 : Heap} {K : Value → Prop} (ht : SlT P t e T.size by_ z) (st : St H0 H ps) (i : Nat) (hp : ps[i]? = some (pN T S e a n cap xs))
    (hx : xs[j]? = some x) (hj : ji = (j : Int)) (hk : ∀ b o c, Old H b → Cells H b o c → T.rep (Old H) H c x → K (.pointer (some ⟨b, o, none⟩))) : VDet P (Instr.indexAt t (.slice a n cap) (.int k ji)) S0 H2 K := by
  have h := st.view i hp
  have hn := st.len i hp
  obtain ⟨b, o, c, rfl, h1, h2, h3⟩ := h.get hx
  subst hj
  have hi := (List.getElem?_eq_some_iff.1 hx).1
  exact ix ht (by omega) (by omega) (by simpa using hk b _ c h1 h2 h3)
/-- A value of one cell is written into the i-th piece at place j. -/
theorem st1O {P : Program} {t b o j : Nat} {v : Value} {x : α} {K : Heap → Prop} (st : St H0 H ps) (i : Nat) (ht : CellT P t) (hp : ps[i]? = some (pN T S t (some ⟨b, 0, none⟩) n cap xs)) (hsz : T.size = 1) (ho : o = j) (hj : j < xs.length)
    (hv : v.oneCell' = true) (hr : ∀ H', Agr S H H' → T.rep S H' [v] x) (k : ∀ H', St H0 H' (ps.set i (pN T S t (some ⟨b, 0, none⟩) n cap (xs.set j x))) → K H') : VEffU P (Instr.storeAt t (.pointer (some ⟨b, o, none⟩)) v) H K := by
  subst ho
  have hok := st.at_ i hp
  obtain ⟨-, -, -, l, hblk, hlen, -, hput⟩ := hok.1.placeS hj
  rw [hsz, Nat.mul_one] at hlen hput
  refine VC.st1 ht hblk (by omega) hv ?_
  intro H' hb' ha' hs'
  have hSH : Agr S H H' := ha'.mono fun k hk hkb => hok.2 k hk (by subst hkb; exact ⟨0, n, cap, rfl⟩)
  have hown := hput H' [v] x (by rw [splice_one (by omega)]; exact hb') hSH (hr H' hSH)
  refine k H' (st.upd i hp (ha'.mono fun k hk hkb => hk.2 (.inl (by subst hkb; exact ⟨0, n, cap, rfl⟩))) _ ⟨hown, hok.2⟩ (fun k hk => .inl hk) (fun k hk => by rw [hs']; exact (st.in_ i hp hk).2) (by omega))
/-- A datum of several cells. -/
theorem stNO {P : Program} {t b o j : Nat} {cs : List Value} {x : α} {K : Heap → Prop} (st : St H0 H ps) (i : Nat) (ht : (P.info? t).map (·.size) = some T.size) (hp : ps[i]? = some (pN T S t (some ⟨b, 0, none⟩) n cap xs)) (ho : o = j * T.size) (hj : j < xs.length)
    (hv : cs.all (·.oneCell') = true) (hr : ∀ H', Agr S H H' → T.rep S H' cs x) (k : ∀ H', St H0 H' (ps.set i (pN T S t (some ⟨b, 0, none⟩) n cap (xs.set j x))) → K H') : VEffU P (Instr.storeAt t (.pointer (some ⟨b, o, none⟩)) (.agg cs.toArray)) H K := by
  subst ho
  have hok := st.at_ i hp
  have hcl := T.len (hr H (Agr.refl _ _))
  obtain ⟨-, -, -, l, hblk, hlen, -, hput⟩ := hok.1.placeS hj
  refine VC.stN (by rw [hcl]; exact ht) hblk (by rw [hcl]; exact hlen) hv ?_
  intro H' hb' ha' hs'
  have hSH : Agr S H H' := ha'.mono fun k hk hkb => hok.2 k hk (by subst hkb; exact ⟨0, n, cap, rfl⟩)
  have hown := hput H' cs x hb' hSH (hr H' hSH)
  refine k H' (st.upd i hp (ha'.mono fun k hk hkb => hk.2 (.inl (by subst hkb; exact ⟨0, n, cap, rfl⟩))) _ ⟨hown, hok.2⟩ (fun k hk => .inl hk) (fun k hk => by rw [hs']; exact (st.in_ i hp hk).2) (by omega))
/-- New memory as a piece. -/
theorem St.new {b : Nat} {l : List Value} (st : St H0 H ps) (hb : b = H.size) (hs : H'.size = b + 1) (hk : Blk H' b e l) (ha : Agr (fun k => k < b) H H') (hr : T.reps none_ H' l xs) (hn : n = xs.length) (hm : n ≤ maxLen) : St H0 H' (ps ++ [pS T e (some ⟨b, 0, none⟩) n n xs]) := by
  subst hb
  refine st.add (ha.mono fun k hk => hk) _ ⟨SlO.ofBlk (Nat.zero_le _) hk hr hn hm, fun k hk => hk.elim⟩ fun k hk => ?_
  rcases hk with ⟨o, n', c, h⟩ | h
  · cases h; omega
  · exact h.elim
/-- The nil slice as a piece. -/
theorem St.nils (st : St H0 H ps) (T : Ty α) (e : TypeId) : St H0 H (ps ++ [pS T e none 0 0 []]) :=
  st.add (Agr.refl _ _) _ ⟨SlO.nil, fun k hk => hk.elim⟩ fun k hk => by
    rcases hk with ⟨o, n', c, h⟩ | h
    · cases h
    · exact h.elim
/-- What a call has returned, as a piece. -/
theorem St.got {v : Value} (st : St H0 H ps) (ha : Agr (Old H) H H') (h : SlO T none_ H' H.size e v xs) : ∃ a cap, v = .slice a xs.length cap ∧ St H0 H' (ps ++ [pS T e a xs.length cap xs]) := by
  obtain ⟨a, cap, rfl⟩ := h.hull
  refine ⟨a, cap, rfl, st.add ha _ ⟨h.lower (Nat.zero_le _), fun k hk => hk.elim⟩ fun k hk => ?_⟩
  rcases hk with hk | hk
  · exact h.lt hk
  · exact hk.elim
/-- append of what lies in new memory, or elsewhere. -/
theorem appO {P : Program} {t ty q o m cap2 by_ : Nat} {z : Value} {ys : List α} {ds : List Value} {K : Value → Heap → Prop} (st : St H0 H ps) (i : Nat) (ht : SlT P t e T.size by_ z) (hp : ps[i]? = some (pS T e a n cap xs))
    (hd : Cells H q o ds) (hy : T.reps none_ H ds ys) (hm : m = ys.length) (h1 : ∀ u ∈ ds, u.oneCell' = true) (h63 : xs.length + ys.length ≤ 4194304) (hby : by_ ≤ 1024)
    (k : ∀ a' cap' H', St H0 H' (ps.set i (pS T e a' (xs.length + ys.length) cap' (xs ++ ys))) → Agr (fun k => k < H.size ∧ ¬ slB (.slice a n cap) k) H H' → K (.slice a' (xs.length + ys.length) cap') H') :
    VEff P (Builtin.append_ #[t, t] ty [.slice a n cap, .slice (some ⟨q, o, none⟩) m cap2].toArray) H K := by
  refine vappendO (T := T) (S := none_) (lo := 0) ht (st.at_ i hp).1 (Nat.zero_le _) (fun k hk => hk.elim) hd hy hm h1 (by unfold maxLen; omega) (by have := Nat.mul_le_mul h63 hby; omega) ?_
  intro v' H' hown hagr hsz hfr
  obtain ⟨a', cap', rfl⟩ := hown.hull
  rw [List.length_append] at hown hfr ⊢
  refine k a' cap' H' (st.upd i hp (hagr.mono fun k hk => ⟨hk.1, fun hb => hk.2 (.inl hb)⟩) _ ⟨hown, fun k hk => hk.elim⟩ (fun k hk => ?_) (fun k hk => ?_) hsz) hagr
  · rcases hk with hk | hk
    · rcases hfr k hk with h | h
      · exact .inl (.inl h)
      · exact .inr h
    · exact hk.elim
  · rcases hk with hk | hk
    · exact (hown.lt hk).2
    · exact hk.elim
/-- append of one value of one cell, that has just been laid into new memory. -/
theorem app1 {P : Program} {t ty q by_ : Nat} {z v : Value} {x : α} {K : Value → Heap → Prop} (st : St H0 H ps) (i : Nat) (ht : SlT P t e T.size by_ z) (hp : ps[i]? = some (pS T e a n cap xs))
    (hd : Blk H q e [v]) (hy : T.rep none_ H [v] x) (hv : v.oneCell' = true) (h63 : xs.length + 1 ≤ 4194304) (hby : by_ ≤ 1024)
    (k : ∀ a' cap' H', St H0 H' (ps.set i (pS T e a' (xs.length + 1) cap' (xs ++ [x]))) → Agr (fun k => k < H.size ∧ ¬ slB (.slice a n cap) k) H H' → K (.slice a' (xs.length + 1) cap') H') :
    VEff P (Builtin.append_ #[t, t] ty [.slice a n cap, .slice (some ⟨q, 0, none⟩) 1 1].toArray) H K :=
  appO (ys := [x]) st i ht hp (hd.cells (fun j v hv => by simpa using hv)) (Ty.reps_one hy) rfl (fun u hu => by cases List.mem_singleton.1 hu; exact hv) (by simpa using h63) hby k
end

/-! ### tables of slices -/
section
variable {α : Type} {T : Ty α} {H0 H H1 : Heap} {ps : List Pc} {e te : TypeId} {nb : Nat} {vs : List Value} {xs : List (List α)}
theorem Tab.hold {S' : Nat → Prop} {lo : Nat} (h : Tab T none_ H lo e nb te vs xs) (k : Agr S' H H1) (hn : S' nb) (hb : ∀ (i : Nat) (v : Value), vs[i]? = some v → ∀ j, slB v j → S' j) : Tab T none_ H1 lo e nb te vs xs :=
  ⟨h.len, h.blk.agr k hn, h.nlo, fun i v x hv hx => (h.own i v x hv hx).agr k (fun b hb' => hb i v hv b hb') (fun b hb => hb.elim), h.apart⟩
def pT (T : Ty α) (e te : TypeId) (nb : Nat) (vs : List Value) (xs : List (List α)) : Pc where
  foot k := k = nb ∨ ∃ (i : Nat) (v : Value), vs[i]? = some v ∧ slB v k
  ok H := Tab T none_ H (nb + 1) e nb te vs xs
  fr h hp := hp.hold h (.inl rfl) fun i v hv j hj => .inr ⟨i, v, hv, hj⟩
theorem St.tab (st : St H0 H ps) (i : Nat) (hp : ps[i]? = some (pT T e te nb vs xs)) : Tab T none_ H (nb + 1) e nb te vs xs := st.at_ i hp
theorem St.tabNew {n : Nat} (st : St H0 H ps) (T : Ty α) (e : TypeId) (hb : nb = H.size) (hs : H1.size = nb + 1) (hk : Blk H1 nb te (List.replicate n (.slice none 0 0))) (ha : Agr (fun k => k < nb) H H1) : St H0 H1 (ps ++ [pT T e te nb (List.replicate n (.slice none 0 0)) (List.replicate n [])]) := by
  subst hb
  refine st.add (ha.mono fun k hk => hk) _ (Tab.new hk (Nat.lt_succ_self _)) fun k hk => ?_
  rcases hk with rfl | ⟨i, v, hv, hk⟩
  · omega
  · rw [List.getElem?_replicate] at hv
    split at hv
    · cases hv; obtain ⟨o, n, c, h⟩ := hk; cases h
    · cases hv
theorem St.row (st : St H0 H ps) (i : Nat) (hp : ps[i]? = some (pT T e te nb vs xs)) {t : Nat} {x : List α} (hx : xs[t]? = some x) : ∃ a cap, vs[t]? = some (.slice a x.length cap) ∧ SlD T (Old H) H a cap x := by
  have tab := st.tab i hp
  have ht := (List.getElem?_eq_some_iff.1 hx).1
  obtain ⟨v, x', hv, hx', hown⟩ := tab.get ht
  rw [hx] at hx'; cases hx'
  obtain ⟨a, cap, rfl, hd, -⟩ := hown.view (S' := Old H) (fun b hb => (hown.lt hb).2) (fun _ f => f.elim)
  exact ⟨a, cap, hv, hd⟩
theorem St.tcell (st : St H0 H ps) (i : Nat) (hp : ps[i]? = some (pT T e te nb vs xs)) {t o : Nat} {v : Value} (hv : vs[t]? = some v) (ho : o = t) : VC.cell H nb o = some v := by
  subst ho
  rw [(st.tab i hp).blk.cell]; exact hv
/-- A row has been appended to, and not yet stored. -/
structure Mid (T : Ty α) (H0 H H1 : Heap) (ps : List Pc) (i : Nat) (e te : TypeId) (nb : Nat) (vs : List Value) (xs : List (List α)) (t : Nat) (v' : Value) (x' : List α) : Prop where
  st : St H0 H ps
  hp : ps[i]? = some (pT T e te nb vs xs)
  own : SlO T none_ H1 (nb + 1) e v' x'
  ex : ∃ v, vs[t]? = some v ∧ Agr (fun k => k < H.size ∧ ¬ slB v k) H H1 ∧ ∀ k, slB v' k → slB v k ∨ H.size ≤ k
  le : H.size ≤ H1.size
theorem Mid.step {i t : Nat} {v' : Value} {x' : List α} {H2 : Heap} (m : Mid T H0 H H1 ps i e te nb vs xs t v' x') (h : Agr (Old H1) H1 H2) : Mid T H0 H H2 ps i e te nb vs xs t v' x' := by
  obtain ⟨v, h1, h2, h3⟩ := m.ex
  exact ⟨m.st, m.hp, m.own.agr h (fun b hb => (m.own.lt hb).2) (fun _ f => f.elim), ⟨v, h1, h2.trans (h.mono fun k hk => Nat.lt_of_lt_of_le hk.1 m.le), h3⟩, Nat.le_trans m.le (old_size h)⟩
theorem appT {P : Program} {tt ty q by_ t : Nat} {z w : Value} {a : Option Addr} {n cap : Nat} {x : List α} {y : α} {K : Value → Heap → Prop} (st : St H0 H ps) (i : Nat) (ht : SlT P tt e T.size by_ z) (hp : ps[i]? = some (pT T e te nb vs xs)) (hv : vs[t]? = some (.slice a n cap)) (hx : xs[t]? = some x)
    (hd : Blk H q e [w]) (hy : T.rep none_ H [w] y) (hw : w.oneCell' = true) (h63 : x.length + 1 ≤ 4194304) (hby : by_ ≤ 1024)
    (k : ∀ a' cap' H1, Mid T H0 H H1 ps i e te nb vs xs t (.slice a' (x.length + 1) cap') (x ++ [y]) → K (.slice a' (x.length + 1) cap') H1) : VEff P (Builtin.append_ #[tt, tt] ty [.slice a n cap, .slice (some ⟨q, 0, none⟩) 1 1].toArray) H K := by
  have tab := st.tab i hp
  have hown := tab.own t _ _ hv hx
  refine vappendO (T := T) (S := none_) (lo := nb + 1) (ys := [y]) ht hown tab.blk.lt (fun k hk => hk.elim) (hd.cells (fun j v hv => by simpa using hv)) (Ty.reps_one hy) rfl (fun u hu => by cases List.mem_singleton.1 hu; exact hw) (by unfold maxLen; simp only [List.length_singleton]; omega) (by have := Nat.mul_le_mul h63 hby; simp only [List.length_singleton]; omega) ?_
  intro v' H1 hown1 hagr hsz hfr
  obtain ⟨a', cap', rfl⟩ := hown1.hull
  rw [List.length_append, List.length_singleton] at hown1 hfr ⊢
  exact k a' cap' H1 ⟨st, hp, hown1, ⟨_, hv, hagr, hfr⟩, hsz⟩
theorem stT {P : Program} {i t o : Nat} {v' : Value} {x' : List α} {K : Heap → Prop} (m : Mid T H0 H H1 ps i e te nb vs xs t v' x') (ht : CellT P te) (ho : o = t)
    (k : ∀ H2, St H0 H2 (ps.set i (pT T e te nb (vs.set t v') (xs.set t x'))) → K H2) : VEffU P (Instr.storeAt te (.pointer (some ⟨nb, o, none⟩)) v') H1 K := by
  subst ho
  obtain ⟨v, hv, hagr, hfr⟩ := m.ex
  have st := m.st
  have tab := st.tab i m.hp
  have hol : o < vs.length := (List.getElem?_eq_some_iff.1 hv).1
  have hox : o < xs.length := by rw [← tab.len]; exact hol
  obtain ⟨x, hx⟩ : ∃ x, xs[o]? = some x := ⟨xs[o], List.getElem?_eq_getElem hox⟩
  have hvo := tab.own o v x hv hx
  have nvb : ¬ slB v nb := fun h => by have := (hvo.lt h).1; omega
  have hblk := tab.blk.agr hagr ⟨tab.blk.lt, nvb⟩
  refine VC.st1 ht hblk hol m.own.one ?_
  intro H2 hb2 ha2 hs2
  have htab : Tab T none_ H2 (nb + 1) e nb te (vs.set o v') (xs.set o x') := tab.push hv m.own hagr hfr hb2 ha2 (fun k hk => hk.elim)
  have hle := m.le
  have hlt2 : ∀ (j : Nat) (w : Value), (vs.set o v')[j]? = some w → ∀ k, slB w k → k < H2.size := fun j w hw k hk => by
    have hjl := (List.getElem?_eq_some_iff.1 hw).1
    have : j < (xs.set o x').length := by rw [← htab.len]; exact hjl
    exact ((htab.own j w _ hw (List.getElem?_eq_getElem this)).lt hk).2
  refine k H2 (st.upd i m.hp (H' := H2) ?_ _ htab ?_ ?_ (by omega))
  · exact (hagr.mono fun k hk => ⟨hk.1, fun hb => hk.2 (.inr ⟨o, v, hv, hb⟩)⟩).trans (ha2.mono fun k hk hkb => hk.2 (.inl hkb))
  · intro k hk
    rcases hk with rfl | ⟨j, w, hw, hk⟩
    · exact .inl (.inl rfl)
    · by_cases hj : o = j
      · subst hj
        rw [List.getElem?_set_self hol] at hw
        cases hw
        rcases hfr k hk with h | h
        · exact .inl (.inr ⟨o, v, hv, h⟩)
        · exact .inr h
      · rw [List.getElem?_set_ne hj] at hw
        exact .inl (.inr ⟨j, w, hw, hk⟩)
  · intro k hk
    rcases hk with rfl | ⟨j, w, hw, hk⟩
    · exact htab.blk.lt
    · exact hlt2 j w hw k hk
/-- The table, to be read only. -/
theorem St.tview (st : St H0 H ps) (i : Nat) (hp : ps[i]? = some (pT T e te nb vs xs)) (hm : xs.length ≤ maxLen) : SlD (tSl T) (Old H) H (some ⟨nb, 0, none⟩) xs.length xs :=
  (st.tab i hp).view rfl hm (fun k _ hk => hk) (fun _ f => f.elim)
end

end Go.VC
