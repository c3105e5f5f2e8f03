/- Appending to an own slice that is used on as it was; pieces in another order, bundled, put aside. -/
import Derived.Test.YtfdlhakfmbdamaaDoorVRange
set_option linter.unusedVariables false
set_option linter.unusedSimpArgs false
namespace Go.VC
theorem vappend2 {P : Program} {t tx ty e : TypeId} {sz by_ : Nat} {z : Value} {H : Heap} {K : Value → Heap → Prop} (ht : SlT P t e sz by_ z) {lo n m : Nat} {v x : Value} {cs news : List Value}
    (hs : Sl H lo e sz v n cs) (hlo : lo ≤ H.size) (hx : ∀ w : World, w.heap = H → Src P sz tx x m news w) (h63 : n + m ≤ maxLen) (hby : (n + m) * by_ ≤ 140737488355328)
    (h : ∀ v' H', Sl H' lo e sz v' (n + m) (cs ++ news) → Agr (fun k => k < H.size ∧ ¬ slB v k) H H' → H.size ≤ H'.size → (∀ k, slB v' k → slB v k ∨ H.size ≤ k) →
      ((∃ b cap, v = .slice (some ⟨b, 0, none⟩) n cap ∧ v' = .slice (some ⟨b, 0, none⟩) (n + m) cap) ∨ (Agr (fun k => k < H.size) H H' ∧ ∀ k, slB v' k → H.size ≤ k)) → K v' H') :
    VEff P (Builtin.append_ #[t, tx] ty [v, x].toArray) H K := by
  refine VEff.mk fun w hw => ?_
  subst hw
  obtain ⟨inf, hi, hsi, hbi, hz⟩ := ht.info
  have hsrc := hx w rfl
  have hsrc' : Src P inf.size tx x m news w := by rw [hsi]; exact hsrc
  have hnl : news.length = m * sz := hsrc.newsLen
  have h63' : n + m ≤ 9223372036854775807 := by simp only [maxLen] at h63; omega
  obtain ⟨hcl, hs2⟩ := hs
  have hlen : (cs ++ news).length = (n + m) * sz := by rw [List.length_append, hcl, hnl, Nat.add_mul]
  have grow : ∀ (base : Option Addr) (cap : Nat), v = .slice base n cap → cap < n + m → (Builtin.firstCells inf.size n (.slice base n cap)).run P w.drew = .ok cs.toArray w.drew →
      ∃ v' w', (Builtin.append_ #[t, tx] ty [v, x].toArray).run P w = .ok v' w' ∧ Env w w' ∧ K v' w'.heap := by
    intro base cap hv hcap hold
    subst hv
    have hr := run_append_grow_src (P := P) w t tx ty e inf z ht.under hi hz base n cap cs hold x m news hsrc' hcap (by omega) (growslice_fits (by omega) (by rw [hbi]; exact hby))
    refine ⟨_, _, hr, ⟨rfl, rfl, rfl⟩, ?_⟩
    have hge := grownCap_ge w (n + m) cap e
    have hle := grownCap_le_maxLen w (n + m) cap e h63
    have hblk : Blk (w.drew.alloc (.cells ((cs ++ news).toArray ++ Builtin.zeroCells z.cells (grownCap w (n + m) cap e - (n + m))) e)).heap w.heap.size e
        ((cs ++ news) ++ (Builtin.zeroCells z.cells (grownCap w (n + m) cap e - (n + m))).toList) := by
      unfold Blk
      have : (w.drew.alloc (.cells ((cs ++ news).toArray ++ Builtin.zeroCells z.cells (grownCap w (n + m) cap e - (n + m))) e)).heap = w.heap.push (.cells ((cs ++ news).toArray ++ Builtin.zeroCells z.cells (grownCap w (n + m) cap e - (n + m))) e) := rfl
      rw [this]
      simp
    refine h _ _ ⟨hlen, .inr ⟨w.heap.size, _, _, rfl, hlo, hblk, hge, hle, ?_, ?_⟩⟩ ?_ ?_ ?_ (.inr ⟨fun k hk => heap_push_old w.heap _ k hk, fun k hk => ?_⟩)
    · rw [List.length_append, hlen, Array.length_toList, size_zeroCells, ht.zsz, ← Nat.add_mul]
      congr 1; omega
    · rw [← hlen, List.take_left']; rfl
    · intro k hk
      exact heap_push_old w.heap _ k hk.1
    · show w.heap.size ≤ (w.heap.push _).size
      simp
    · rintro k ⟨o, n', c, hk⟩
      cases hk
      exact .inr (Nat.le_refl _)
    · obtain ⟨o, n', c, hk⟩ := hk
      cases hk
      exact Nat.le_refl _
  rcases hs2 with ⟨rfl, rfl⟩ | ⟨b, cap, l, rfl, hlob, hb, hnc, hcm, hll, htake⟩
  · have hcs : cs = [] := List.eq_nil_of_length_eq_zero (by simpa using hcl)
    subst hcs
    by_cases hm : m = 0
    · subst hm
      have hn : news = [] := List.eq_nil_of_length_eq_zero (by simpa using hnl)
      subst hn
      refine ⟨.slice none 0 0, w, ?_, Env.refl w, h _ _ (Sl.nil _ _ _ _) (Agr.refl _ _) (Nat.le_refl _) (fun k hk => .inl hk) (.inr ⟨Agr.refl _ _, fun k ⟨_, _, _, h⟩ => by cases h⟩)⟩
      rcases hsrc'.kind with ⟨e', hk⟩ | hk <;> simp [Builtin.append_, run_underlying ht.under, run_underlying hk, sizeOf, typeInfo, hi, hsrc'.len, hsrc'.cells]
    · exact grow none 0 rfl (by omega) (by simp [Builtin.firstCells])
  · by_cases hroom : n + m ≤ cap
    · have hfit : n * sz + news.length ≤ l.length := by rw [hnl, hll, ← Nat.add_mul]; exact Nat.mul_le_mul_right _ hroom
      have hr := run_append_room_src (P := P) w t tx ty e inf ht.under hi b 0 n cap x m news hsrc' hroom
        (fun j hj => by rw [cell_w, hb.cell]; simp [hsi]; omega) (fun j hj => frozen_blk hb)
      obtain ⟨h1, h2, h3, h4⟩ := setCells_blk news (0 + n * inf.size) l w hb (by rw [hsi]; omega)
      refine ⟨_, _, hr, h4, h _ _ ⟨hlen, .inr ⟨b, cap, _, rfl, hlob, h1, hroom, hcm, ?_, ?_⟩⟩ (h2.mono fun k hk => ?_) (by omega) ?_ (.inl ⟨b, cap, rfl, rfl⟩)⟩
      · rw [splice_length (by rw [hsi]; omega)]; exact hll
      · rw [hsi, Nat.zero_add]
        unfold splice
        rw [htake, ← hlen, List.take_left']; rfl
      · intro hkb; subst hkb; exact hk.2 ⟨0, n, cap, rfl⟩
      · rintro k ⟨o, n', c, hk⟩
        cases hk
        exact .inl ⟨0, n, cap, rfl⟩
    · refine grow (some ⟨b, 0, none⟩) cap rfl (by omega) ?_
      have hc : Cells w.heap b 0 cs := hb.cells fun j v hv => by
        rw [← htake, List.getElem?_take] at hv
        split at hv
        · simpa using hv
        · cases hv
      have := run_firstCells_some (P := P) w.drew inf.size n ⟨b, 0, none⟩ n cap cs (by rw [hsi]; exact hcl) (fun j v hv => by
        rw [Addr.add_mid]
        have := range_w (w := w.drew) (H := w.heap) hc rfl j v hv
        exact this)
      exact this
section
variable {B : Nat → Prop} {H0 H : Heap} {ps qs : List Pc} {p : Pc}
theorem StB.perm (st : StB B H0 H ps) (h : ps.Perm qs) : StB B H0 H qs :=
  ⟨st.old, st.lt0, st.size, fun p hp => st.oks p (h.mem_iff.2 hp), fun p hp => st.rng p (h.mem_iff.2 hp), (h.pairwise_iff fun {x y} hxy k hk hk' => hxy k hk' hk).1 st.dis⟩
theorem StB.sub (st : StB B H0 H ps) (h : qs.Sublist ps) : StB B H0 H qs :=
  ⟨st.old, st.lt0, st.size, fun p hp => st.oks p (h.subset hp), fun p hp => st.rng p (h.subset hp), st.dis.sublist h⟩
/-- Pieces as one. -/
def pAll (qs : List Pc) : Pc where
  foot k := ∃ q ∈ qs, q.foot k
  ok H := (∀ q ∈ qs, q.ok H) ∧ qs.Pairwise Dis
  fr h hp := ⟨fun q hq => q.fr (h.mono fun k hk => ⟨q, hq, hk⟩) (hp.1 q hq), hp.2⟩
/-- The bundle looked at by itself. -/
theorem StB.open_ (st : StB B H0 H ps) (i : Nat) (hp : ps[i]? = some (pAll qs)) : StB (fun k => k < H.size ∧ ¬ (pAll qs).foot k) H H qs := by
  obtain ⟨h1, h2⟩ := st.at_ i hp
  exact ⟨Agr.refl _ _, fun k hk => hk.1, Nat.le_refl _, h1, fun q hq k hk => ⟨fun h => h.2 ⟨q, hq, hk⟩, (st.in_ i hp ⟨q, hq, hk⟩).2⟩, h2⟩
theorem StB.close {H' : Heap} {qs' : List Pc} (st : StB B H0 H ps) (i : Nat) (hp : ps[i]? = some (pAll qs)) (st' : StB (fun k => k < H.size ∧ ¬ (pAll qs).foot k) H H' qs') : StB B H0 H' (ps.set i (pAll qs')) := by
  refine st.upd i hp st'.old _ ⟨st'.oks, st'.dis⟩ (fun k hk => ?_) (fun k hk => ?_) st'.size
  · obtain ⟨q, hq, hk⟩ := hk
    have := (st'.rng q hq k hk).1
    by_cases h1 : k < H.size
    · by_cases h2 : (pAll qs).foot k
      · exact .inl h2
      · exact absurd ⟨h1, h2⟩ this
    · exact .inr (by omega)
  · obtain ⟨q, hq, hk⟩ := hk
    exact (st'.rng q hq k hk).2
/-- The first pieces bundled. -/
theorem StB.bundle {rs : List Pc} (st : StB B H0 H (qs ++ rs)) : StB B H0 H (pAll qs :: rs) := by
  obtain ⟨d1, d2, d3⟩ := List.pairwise_append.1 st.dis
  refine ⟨st.old, st.lt0, st.size, fun p hp => ?_, fun p hp k hk => ?_, List.pairwise_cons.2 ⟨fun r hr k hk hk' => ?_, d2⟩⟩
  · rcases List.mem_cons.1 hp with rfl | hp
    · exact ⟨fun q hq => st.oks q (List.mem_append.2 (.inl hq)), d1⟩
    · exact st.oks p (List.mem_append.2 (.inr hp))
  · rcases List.mem_cons.1 hp with rfl | hp
    · obtain ⟨q, hq, hk⟩ := hk
      exact st.rng q (List.mem_append.2 (.inl hq)) k hk
    · exact st.rng p (List.mem_append.2 (.inr hp)) k hk
  · obtain ⟨q, hq, hk⟩ := hk
    exact d3 q hq r hr k hk hk'
theorem StB.unbundle {rs : List Pc} (st : StB B H0 H (pAll qs :: rs)) : StB B H0 H (qs ++ rs) := by
  obtain ⟨d1, d2⟩ := List.pairwise_cons.1 st.dis
  have h0 := st.oks _ (List.mem_cons_self ..)
  refine ⟨st.old, st.lt0, st.size, fun p hp => ?_, fun p hp k hk => ?_, List.pairwise_append.2 ⟨h0.2, d2, fun q hq r hr k hk hk' => d1 r hr k ⟨q, hq, hk⟩ hk'⟩⟩
  · rcases List.mem_append.1 hp with hp | hp
    · exact h0.1 p hp
    · exact st.oks p (List.mem_cons.2 (.inr hp))
  · rcases List.mem_append.1 hp with hp | hp
    · exact st.rng _ (List.mem_cons_self ..) k ⟨p, hp, hk⟩
    · exact st.rng p (List.mem_cons.2 (.inr hp)) k hk
end
section
variable {α : Type} {T : Ty α} {e : TypeId} {a : Option Addr} {n cap : Nat} {xs : List α} {B : Nat → Prop} {H0 H : Heap} {p1 p2 : Pc} {rest : List Pc}
/-- One element more, in place or in a new block; the slice as it was is to be used on. -/
theorem push1 {P : Program} {t ty q by_ : Nat} {z v : Value} {x : α} {K : Value → Heap → Prop} (st : StB B H0 H (p1 :: p2 :: pS T e a n cap xs :: rest)) (ht : SlT P t e T.size by_ z)
    (hd : Blk H q e [v]) (hy : T.rep none_ H [v] x) (hv : v.oneCell' = true) (h63 : xs.length + 1 ≤ 4194304) (hby : by_ ≤ 1024)
    (k1 : ∀ H', StB B H0 H' (p1 :: p2 :: pS T e a (n + 1) cap (xs ++ [x]) :: rest) → K (.slice a (n + 1) cap) H')
    (k2 : ∀ a' cap' H', StB B H0 H' (p1 :: p2 :: pS T e a' (n + 1) cap' (xs ++ [x]) :: pS T e a n cap xs :: rest) → K (.slice a' (n + 1) cap') H') :
    VEff P (Builtin.append_ #[t, t] ty [.slice a n cap, .slice (some ⟨q, 0, none⟩) 1 1].toArray) H K := by
  have hp : (p1 :: p2 :: pS T e a n cap xs :: rest)[2]? = some (pS T e a n cap xs) := rfl
  obtain ⟨cs, hsl, hr⟩ := (st.at_ 2 hp).1
  have hn := st.len 2 hp
  subst hn
  refine vappend2 (m := 1) (news := [v]) (lo := 0) ht hsl (Nat.zero_le _) (fun w hw => ?_) (by unfold maxLen; omega) (by have := Nat.mul_le_mul h63 hby; omega) ?_
  · refine Src.ofSlice w ht.under ⟨q, 0, none⟩ 1 1 [v] (by have := T.len hy; simpa using this) (fun j u hu => ?_) (fun u hu => by rw [List.mem_singleton] at hu; subst hu; exact hv)
    rw [Addr.add_mid]
    subst hw
    rw [cell_w, hd.cell, Nat.zero_add]
    exact hu
  · intro v' H' hsl' hagr hsz hbb hcase
    have hrr : T.reps none_ H' (cs ++ [v]) (xs ++ [x]) := Ty.reps_append (Ty.reps_frame (hagr.mono fun k hk => hk.elim) hr) (Ty.reps_frame (hagr.mono fun k hk => hk.elim) (Ty.reps_one hy))
    rcases hcase with ⟨b, c, e1, rfl⟩ | ⟨hall, hnew⟩
    · injection e1 with e2 _ e3
      subst e2; subst e3
      refine k1 H' (st.upd 2 hp (hagr.mono fun k hk => ⟨hk.1, fun hb => hk.2 (.inl hb)⟩) _ ⟨⟨_, by rw [List.length_append]; exact hsl', hrr⟩, fun k hk => hk.elim⟩ (fun k hk => ?_) (fun k hk => ?_) hsz)
      · rcases hk with ⟨o, n', c', hk⟩ | hk
        · cases hk; exact .inl (.inl ⟨0, _, _, rfl⟩)
        · exact hk.elim
      · rcases hk with ⟨o, n', c', hk⟩ | hk
        · cases hk
          have := (st.in_ 2 hp (.inl ⟨0, _, _, rfl⟩)).2
          omega
        · exact hk.elim
    · have hown : SlO T none_ H' 0 e v' (xs ++ [x]) := ⟨_, by rw [List.length_append]; exact hsl', hrr⟩
      have hup : SlO T none_ H' H.size e v' (xs ++ [x]) := hown.up hnew
      obtain ⟨a', cap', rfl, st'⟩ := st.got hall hup
      rw [List.length_append] at st' ⊢
      exact k2 a' cap' H' (st'.perm (((List.perm_append_singleton (pS T e a' (xs.length + 1) cap' (xs ++ [x])) (pS T e a xs.length cap xs :: rest)).cons p2).cons p1))
/-- And back. -/
theorem StB.pop1 {m : Nat} {x : α} (st : StB B H0 H (p1 :: p2 :: pS T e a m cap (xs ++ [x]) :: rest)) : StB B H0 H (p1 :: p2 :: pS T e a xs.length cap xs :: rest) := by
  have hp : (p1 :: p2 :: pS T e a m cap (xs ++ [x]) :: rest)[2]? = some (pS T e a m cap (xs ++ [x])) := rfl
  refine st.say 2 hp (pS T e a xs.length cap xs) ⟨(st.at_ 2 hp).1.pop, fun k hk => hk.elim⟩ (fun k hk => ?_)
  rcases hk with ⟨o, n', c', hk⟩ | hk
  · cases hk; exact .inl ⟨o, _, _, rfl⟩
  · exact hk.elim
end
end Go.VC
