/- Search by breadth in a graph, bytes in ascending order: the first end that is found has the first word; plain law. -/
import Derived.Test.YtpnnedkpbmilkaaPGr
set_option linter.unusedVariables false
set_option linter.unusedSimpArgs false
namespace Go.Proofs.Ytpnnedkpbmilkaa
/-- Shorter, or as long and no later in order. -/
def leL (u v : List Nat) : Prop := u.length < v.length ∨ (u.length = v.length ∧ lexL u v)
theorem leL_refl (u : List Nat) : leL u u := .inr ⟨rfl, lexL_refl u⟩
theorem leL_trans {u v w : List Nat} (h : leL u v) (k : leL v w) : leL u w := by
  rcases h with h | ⟨h1, h2⟩ <;> rcases k with k | ⟨k1, k2⟩
  · exact .inl (by omega)
  · exact .inl (by omega)
  · exact .inl (by omega)
  · exact .inr ⟨by omega, lexL_trans h1 k1 h2 k2⟩
theorem leL_snoc {u v : List Nat} (b : Nat) (h : leL u v) : leL (u ++ [b]) (v ++ [b]) := by
  rcases h with h | ⟨h1, h2⟩
  · exact .inl (by simpa using h)
  · exact .inr ⟨by simp [h1], lexL_snoc b h1 h2⟩
theorem lexL_last : ∀ (u : List Nat) {b c : Nat}, b ≤ c → lexL (u ++ [b]) (u ++ [c])
  | [], b, c, h => by
    show lexL [b] [c]
    unfold lexL
    rcases Nat.lt_or_eq_of_le h with h | h
    · exact .inl h
    · exact .inr ⟨h, lexL_refl _⟩
  | a :: u, b, c, h => by
    show lexL (a :: (u ++ [b])) (a :: (u ++ [c]))
    unfold lexL
    exact .inr ⟨rfl, lexL_last u h⟩
theorem lexL_wide : ∀ {u v : List Nat} (b c : Nat), u.length = v.length → lexL u v → u ≠ v → lexL (u ++ [b]) (v ++ [c])
  | [], [], _, _, _, _, h => absurd rfl h
  | [], _ :: _, _, _, h, _, _ => by simp at h
  | _ :: _, [], _, _, h, _, _ => by simp at h
  | a :: u, d :: v, b, c, h, h1, h2 => by
    unfold lexL at h1
    show lexL (a :: (u ++ [b])) (d :: (v ++ [c]))
    unfold lexL
    rcases h1 with h1 | ⟨rfl, h1⟩
    · exact .inl h1
    · exact .inr ⟨rfl, lexL_wide b c (by simpa using h) h1 fun e => h2 (by rw [e])⟩
theorem leL_wide {u v : List Nat} (b c : Nat) (h : leL u v) (hne : u ≠ v) : leL (u ++ [b]) (v ++ [c]) := by
  rcases h with h | ⟨h1, h2⟩
  · exact .inl (by simpa using h)
  · exact .inr ⟨by simp [h1], lexL_wide b c h1 h2 hne⟩
/-- i have been looked at whole; of the next one what holds of d. -/
structure BfsOk (g : Gr) (by_ : List Nat) (a : Nd) (F : List NW) (i : Nat) (k : Nat) : Prop where
  zero : F[0]? = some (a, [])
  nd : (F.map (·.1)).Nodup
  ok : ∀ x ∈ F, (∀ b ∈ x.2, b ∈ by_) ∧ To g x.2 a x.1
  up : ∀ (j l : Nat) (x y : NW), j < l → F[j]? = some x → F[l]? = some y → leL x.2 y.2 ∧ x.2 ≠ y.2
  closed : ∀ (j l : Nat) (x : NW) (b : Nat) (t : Nd), F[j]? = some x → by_[l]? = some b → t ∈ g.next x.1 b → (j < i ∨ (j = i ∧ l < k)) → ∃ y ∈ F, y.1 = t ∧ leL y.2 (x.2 ++ [b])
  par : ∀ (m : Nat) (y : NW), F[m]? = some y → m = 0 ∨ ∃ (j l b : Nat) (x : NW), F[j]? = some x ∧ by_[l]? = some b ∧ y.2 = x.2 ++ [b] ∧ (j < i ∨ (j = i ∧ l < k))
section
variable {g : Gr} {by_ : List Nat} {a t : Nd} {F F' : List NW} {i k : Nat}
theorem BfsOk.start : BfsOk g by_ a [(a, [])] 0 0 := by
  refine ⟨rfl, by simp, fun x hx => ?_, fun j l x y hj hx hy => ?_, fun j l x b t hx hb ht h => by omega, fun m y hy => .inl ?_⟩
  · rw [List.mem_singleton] at hx
    subst hx
    exact ⟨fun b hb => (by cases hb), rfl⟩
  · have := (List.getElem?_eq_some_iff.1 hy).1
    simp at this
    omega
  · have := (List.getElem?_eq_some_iff.1 hy).1
    simp at this
    omega
theorem BfsOk.turn (h : BfsOk g by_ a F i k) (hk : by_.length ≤ k) : BfsOk g by_ a F (i + 1) 0 := by
  refine ⟨h.zero, h.nd, h.ok, h.up, fun j l x b t hx hb ht hj => h.closed j l x b t hx hb ht ?_, fun m y hy => ?_⟩
  · have := (List.getElem?_eq_some_iff.1 hb).1
    omega
  · rcases h.par m y hy with h0 | ⟨j, l, b, x, h1, h2, h3, h4⟩
    · exact .inl h0
    · exact .inr ⟨j, l, b, x, h1, h2, h3, by omega⟩
/-- All that has been found comes no later than what is looked at next. -/
theorem BfsOk.ahead (h : BfsOk g by_ a F i k) (hup : by_.Pairwise (· < ·)) {x : NW} (hx : F[i]? = some x) {b : Nat} (hb : by_[k]? = some b) {m : Nat} {y : NW} (hy : F[m]? = some y) : leL y.2 (x.2 ++ [b]) ∧ y.2 ≠ x.2 ++ [b] := by
  rcases h.par m y hy with rfl | ⟨j, l, c, z, hz, hc, e, hj⟩
  · rw [h.zero] at hy
    cases hy
    exact ⟨.inl (by simp), fun e => by simp at e⟩
  · rw [e]
    rcases hj with hj | ⟨rfl, hlk⟩
    · obtain ⟨u1, u2⟩ := h.up j i z x hj hz hx
      exact ⟨leL_wide c b u1 u2, fun e => u2 (List.append_inj' e rfl).1⟩
    · rw [hx] at hz; cases hz
      have hcb : c < b := by
        obtain ⟨p1, p2⟩ := List.getElem?_eq_some_iff.1 hc
        obtain ⟨q1, q2⟩ := List.getElem?_eq_some_iff.1 hb
        have := List.pairwise_iff_getElem.1 hup l k p1 q1 hlk
        rw [p2, q2] at this
        exact this
      refine ⟨.inr ⟨by simp, lexL_last _ (Nat.le_of_lt hcb)⟩, fun e => ?_⟩
      have := List.append_inj' e rfl
      simp at this
      omega
theorem BfsOk.add (h : BfsOk g by_ a F i k) (hup : by_.Pairwise (· < ·)) {x : NW} (hx : F[i]? = some x) {b : Nat} (hb : by_[k]? = some b) (ht : g.next x.1 b = [t])
    (hF : ((∃ y ∈ F, y.1 = t) ∧ F' = F) ∨ ((∀ y ∈ F, y.1 ≠ t) ∧ F' = F ++ [(t, x.2 ++ [b])])) : BfsOk g by_ a F' i (k + 1) := by
  have hil := (List.getElem?_eq_some_iff.1 hx).1
  rcases hF with ⟨⟨z, hz, hzt⟩, rfl⟩ | ⟨hno, rfl⟩
  · refine ⟨h.zero, h.nd, h.ok, h.up, fun j l y c u hy hc hu hj => ?_, fun m y hy => ?_⟩
    · by_cases hold : j < i ∨ (j = i ∧ l < k)
      · exact h.closed j l y c u hy hc hu hold
      · obtain ⟨rfl, rfl⟩ : j = i ∧ l = k := by omega
        rw [hx] at hy; cases hy
        rw [hb] at hc; cases hc
        rw [ht, List.mem_singleton] at hu
        subst hu
        obtain ⟨m, hm⟩ := List.getElem?_of_mem hz
        exact ⟨z, hz, hzt, (h.ahead hup hx hb hm).1⟩
    · rcases h.par m y hy with h0 | ⟨j, l, c, x', h1, h2, h3, h4⟩
      · exact .inl h0
      · exact .inr ⟨j, l, c, x', h1, h2, h3, by omega⟩
  · have hgt : ∀ (m : Nat) (y : NW), (F ++ [(t, x.2 ++ [b])])[m]? = some y → F[m]? = some y ∨ (m = F.length ∧ y = (t, x.2 ++ [b])) := fun m y hy => by
      by_cases hm : m < F.length
      · rw [List.getElem?_append_left hm] at hy; exact .inl hy
      · have hm2 := (List.getElem?_eq_some_iff.1 hy).1
        simp only [List.length_append, List.length_singleton] at hm2
        obtain rfl : m = F.length := by omega
        simp at hy
        exact .inr ⟨rfl, hy.symm⟩
    have old : ∀ {m : Nat} {y : NW}, F[m]? = some y → (F ++ [(t, x.2 ++ [b])])[m]? = some y := fun {m y} hy => by
      rw [List.getElem?_append_left (List.getElem?_eq_some_iff.1 hy).1]; exact hy
    have hback : ∀ {j : Nat} {y : NW}, j ≤ i → (F ++ [(t, x.2 ++ [b])])[j]? = some y → F[j]? = some y := fun {j y} hj hy => by
      rw [List.getElem?_append_left (by omega)] at hy; exact hy
    refine ⟨old h.zero, ?_, fun y hy => ?_, fun j l y z hj hy hz => ?_, fun j l y c u hy hc hu hj => ?_, fun m y hy => ?_⟩
    · rw [List.map_append]
      refine List.nodup_append.2 ⟨h.nd, by simp, fun y hy z hz => ?_⟩
      simp only [List.map_cons, List.map_nil, List.mem_singleton] at hz
      subst hz
      obtain ⟨p, hp, rfl⟩ := List.mem_map.1 hy
      exact hno p hp
    · rcases List.mem_append.1 hy with hy | hy
      · exact h.ok y hy
      · rw [List.mem_singleton] at hy
        subst hy
        obtain ⟨k1, k2⟩ := h.ok x (List.mem_of_getElem? hx)
        refine ⟨fun c hc => ?_, to_snoc.2 ⟨_, k2, by rw [ht]; exact List.mem_singleton.2 rfl⟩⟩
        rcases List.mem_append.1 hc with hc | hc
        · exact k1 c hc
        · rw [List.mem_singleton] at hc
          subst hc
          exact List.mem_of_getElem? hb
    · rcases hgt l z hz with hz | ⟨rfl, rfl⟩
      · exact h.up j l y z hj (by rcases hgt j y hy with hy | ⟨rfl, -⟩
                                  · exact hy
                                  · have := (List.getElem?_eq_some_iff.1 hz).1; omega) hz
      · rcases hgt j y hy with hy | ⟨rfl, -⟩
        · exact h.ahead hup hx hb hy
        · omega
    · by_cases hold : j < i ∨ (j = i ∧ l < k)
      · obtain ⟨z, hz, e, hl⟩ := h.closed j l y c u (hback (by omega) hy) hc hu hold
        exact ⟨z, List.mem_append.2 (.inl hz), e, hl⟩
      · obtain ⟨rfl, rfl⟩ : j = i ∧ l = k := by omega
        have hy := hback (Nat.le_refl _) hy
        rw [hx] at hy; cases hy
        rw [hb] at hc; cases hc
        rw [ht, List.mem_singleton] at hu
        subst hu
        exact ⟨_, List.mem_append.2 (.inr (List.mem_singleton.2 rfl)), rfl, leL_refl _⟩
    · rcases hgt m y hy with hy | ⟨rfl, rfl⟩
      · rcases h.par m y hy with h0 | ⟨j, l, c, x', h1, h2, h3, h4⟩
        · exact .inl h0
        · exact .inr ⟨j, l, c, x', old h1, h2, h3, by omega⟩
      · exact .inr ⟨i, k, b, x, old hx, hb, rfl, by omega⟩
/-- Where a word leads: to one that has been looked at, and whose word is no later; or the word is no earlier than the one that is looked at. -/
theorem BfsOk.covers (h : BfsOk g by_ a F i 0) : ∀ (n : Nat) {u : List Nat} {t : Nd}, u.length = n → (∀ b ∈ u, b ∈ by_) → To g u a t → (∃ (j : Nat) (x : NW), j < i ∧ F[j]? = some x ∧ x.1 = t ∧ leL x.2 u) ∨ ∃ x, F[i]? = some x ∧ leL x.2 u
  | 0, u, t, hu, _, ht => by
    obtain rfl := List.eq_nil_of_length_eq_zero hu
    obtain rfl : a = t := ht
    cases i with
    | zero => exact .inr ⟨_, h.zero, leL_refl _⟩
    | succ i => exact .inl ⟨0, _, by omega, h.zero, rfl, leL_refl _⟩
  | n + 1, u, t, hu, hb, ht => by
    obtain ⟨w, b, rfl⟩ : ∃ w b, u = w ++ [b] := ⟨u.dropLast, u.getLast (by rintro rfl; simp at hu), (List.dropLast_concat_getLast _).symm⟩
    rw [List.length_append, List.length_singleton, Nat.add_right_cancel_iff] at hu
    obtain ⟨p, hp, hpt⟩ := to_snoc.1 ht
    rcases h.covers n hu (fun c hc => hb c (List.mem_append.2 (.inl hc))) hp with ⟨j, x, hj, hx, rfl, hl⟩ | ⟨x, hx, hl⟩
    · obtain ⟨l, hl2⟩ := List.getElem?_of_mem (hb b (by simp))
      obtain ⟨y, hy, e, hyl⟩ := h.closed j l x b t hx hl2 hpt (.inl hj)
      have hyu := leL_trans hyl (leL_snoc b hl)
      obtain ⟨m, hm⟩ := List.getElem?_of_mem hy
      rcases Nat.lt_trichotomy m i with hmi | rfl | hmi
      · exact .inl ⟨m, y, hmi, hm, e, hyu⟩
      · exact .inr ⟨y, hm, hyu⟩
      · have hil : i < F.length := by have := (List.getElem?_eq_some_iff.1 hm).1; omega
        exact .inr ⟨_, List.getElem?_eq_getElem hil, leL_trans (h.up i m _ y hmi (List.getElem?_eq_getElem hil) hm).1 hyu⟩
    · exact .inr ⟨x, hx, leL_trans hl (.inl (by simp))⟩
variable (hby : ∀ c, c < 256 → ∃ r ∈ by_, r ≤ c ∧ ∀ n, g.next n r = g.next n c)
include hby
theorem BfsOk.found (hby2 : ∀ b ∈ by_, b < 256) (h : BfsOk g by_ a F i 0) {x : NW} (hx : F[i]? = some x) (he : g.ends x.1 = true) (hno : ∀ (j : Nat) (y : NW), j < i → F[j]? = some y → g.ends y.1 = false) : FirstW g (· = a) x.2 := by
  have key : ∀ u, bytes_ u → LeadsP g (· = a) u → leL x.2 u := fun u hu hul => by
    obtain ⟨n, rfl, hn⟩ := hul
    obtain ⟨v, h1, h2, h3, h4⟩ := leads_less hby hu hn
    obtain ⟨t, h5, h6⟩ := leads_to.1 h3
    rcases h.covers _ rfl h2 h5 with ⟨j, y, hj, hy, rfl, -⟩ | ⟨y, hy, hl⟩
    · rw [hno j y hj hy] at h6; cases h6
    · rw [hx] at hy; cases hy
      exact leL_trans hl (.inr ⟨h1, h4⟩)
  obtain ⟨k1, k2⟩ := h.ok x (List.mem_of_getElem? hx)
  refine ⟨⟨rfl, fun b hb => hby2 b (k1 b hb), ⟨a, rfl, leads_to.2 ⟨_, k2, he⟩⟩, fun u hul hub hl => ?_⟩, fun u hub hl => ?_⟩
  · rcases key u hub hl with h | ⟨-, h⟩
    · omega
    · exact h
  · rcases key u hub hl with h | ⟨h, -⟩ <;> omega
theorem BfsOk.none (h : BfsOk g by_ a F F.length 0) (hno : ∀ y ∈ F, g.ends y.1 = false) : ∀ u, bytes_ u → ¬ LeadsP g (· = a) u := by
  rintro u hu ⟨n, rfl, hn⟩
  obtain ⟨v, h1, h2, h3, h4⟩ := leads_less hby hu hn
  obtain ⟨t, h5, h6⟩ := leads_to.1 h3
  rcases h.covers _ rfl h2 h5 with ⟨j, y, hj, hy, rfl, -⟩ | ⟨y, hy, hl⟩
  · rw [hno y (List.mem_of_getElem? hy)] at h6; cases h6
  · rw [List.getElem?_eq_none (Nat.le_refl _)] at hy; cases hy
end
end Go.Proofs.Ytpnnedkpbmilkaa
