import Derived.Test.YtpnnedkpbmilkaaPNode
import Derived.Test.YtpnnedkpbmilkaaPBits
/- Graphs of nodes with ends: the least word that leads to an end; plain law. -/
set_option linter.unusedVariables false
set_option linter.unusedSimpArgs false
namespace Go.Proofs.Ytpnnedkpbmilkaa

structure Gr where
  next : Nd → Nat → List Nd
  ends : Nd → Bool
/-- The word w leads from n to an end. -/
def Leads (g : Gr) : List Nat → Nd → Prop
  | [], n => g.ends n = true
  | b :: w, n => ∃ t, t ∈ g.next n b ∧ Leads g w t
/-- .. from some node of P. -/
def LeadsP (g : Gr) (P : Nd → Prop) (w : List Nat) : Prop := ∃ n, P n ∧ Leads g w n
def stepP (g : Gr) (P : Nd → Prop) (b : Nat) : Nd → Prop := fun t => ∃ n, P n ∧ t ∈ g.next n b
theorem leadsP_cons {g : Gr} {P : Nd → Prop} {b : Nat} {w : List Nat} : LeadsP g P (b :: w) ↔ LeadsP g (stepP g P b) w :=
  ⟨fun ⟨n, hn, t, ht, hw⟩ => ⟨t, ⟨n, hn, ht⟩, hw⟩, fun ⟨t, ⟨n, hn, ht⟩, hw⟩ => ⟨n, hn, t, ht, hw⟩⟩
/-- Words of one length: no later in order. -/
def lexL : List Nat → List Nat → Prop
  | a :: s, b :: t => a < b ∨ (a = b ∧ lexL s t)
  | _, _ => True
theorem lexL_anti : ∀ {s t : List Nat}, s.length = t.length → lexL s t → lexL t s → s = t
  | [], [], _, _, _ => rfl
  | [], _ :: _, h, _, _ => by simp at h
  | _ :: _, [], h, _, _ => by simp at h
  | a :: s, b :: t, h, h1, h2 => by
    simp only [List.length_cons, Nat.add_right_cancel_iff] at h
    rcases h1 with h1 | ⟨h1, h3⟩ <;> rcases h2 with h2 | ⟨h2, h4⟩
    · omega
    · omega
    · omega
    · rw [h1, lexL_anti h h3 h4]
def bytes_ (w : List Nat) : Prop := ∀ b ∈ w, b < 256
/-- Of the words of k bytes that lead from P to an end w is the first. -/
def FirstOf (g : Gr) (P : Nd → Prop) (k : Nat) (w : List Nat) : Prop := w.length = k ∧ bytes_ w ∧ LeadsP g P w ∧ ∀ u, u.length = k → bytes_ u → LeadsP g P u → lexL w u
theorem FirstOf.nil {g : Gr} {P : Nd → Prop} {n : Nd} (hn : P n) (he : g.ends n = true) : FirstOf g P 0 [] :=
  ⟨rfl, (fun b hb => by cases hb), ⟨n, hn, he⟩, fun u hu _ _ => by unfold lexL; cases u <;> trivial⟩
theorem FirstOf.cons {g : Gr} {P : Nd → Prop} {k b : Nat} {w : List Nat} (hb : b < 256) (h : FirstOf g (stepP g P b) k w) (hno : ∀ c, c < b → ∀ u, u.length = k → bytes_ u → ¬ LeadsP g (stepP g P c) u) : FirstOf g P (k + 1) (b :: w) := by
  obtain ⟨h1, h2, h3, h4⟩ := h
  refine ⟨by rw [List.length_cons, h1], fun c hc => ?_, leadsP_cons.2 h3, fun u hu hub hul => ?_⟩
  · rcases List.mem_cons.1 hc with rfl | hc
    · exact hb
    · exact h2 c hc
  · cases u with
    | nil => simp at hu
    | cons c u =>
      have hu' : u.length = k := by simpa using hu
      have hub' : bytes_ u := fun d hd => hub d (List.mem_cons_of_mem _ hd)
      have hul' := leadsP_cons.1 hul
      unfold lexL
      rcases Nat.lt_trichotomy b c with h | h | h
      · exact .inl h
      · subst h; exact .inr ⟨rfl, h4 u hu' hub' hul'⟩
      · exact absurd hul' (hno c h u hu' hub')
/-- The first word of all: the shortest ones come first. -/
def FirstW (g : Gr) (P : Nd → Prop) (w : List Nat) : Prop := FirstOf g P w.length w ∧ ∀ u, bytes_ u → LeadsP g P u → w.length ≤ u.length
theorem FirstW.uniq {g : Gr} {P : Nd → Prop} {w v : List Nat} (h : FirstW g P w) (k : FirstW g P v) : w = v := by
  obtain ⟨⟨h1, h2, h3, h4⟩, h5⟩ := h
  obtain ⟨⟨k1, k2, k3, k4⟩, k5⟩ := k
  have e : w.length = v.length := Nat.le_antisymm (h5 v k2 k3) (k5 w h2 h3)
  exact lexL_anti e (h4 v e.symm k2 k3) (k4 w e h2 h3)
/-- Where bytes step as the least ones of their kind do, words over these tell all. -/
theorem leads_reps {g : Gr} {by_ : List Nat} (hby : ∀ c, c < 256 → ∃ r ∈ by_, r ≤ c ∧ ∀ n, g.next n r = g.next n c) : ∀ {w : List Nat} {n : Nd}, bytes_ w → Leads g w n → ∃ v, v.length = w.length ∧ (∀ b ∈ v, b ∈ by_) ∧ Leads g v n
  | [], n, _, h => ⟨[], rfl, (fun b hb => by cases hb), h⟩
  | c :: w, n, hb, ⟨t, ht, hw⟩ => by
    obtain ⟨v, h1, h2, h3⟩ := leads_reps hby (fun d hd => hb d (List.mem_cons_of_mem _ hd)) hw
    obtain ⟨r, hr, -, hs⟩ := hby c (hb c List.mem_cons_self)
    exact ⟨r :: v, by simp [h1], fun d hd => by
      rcases List.mem_cons.1 hd with rfl | hd
      · exact hr
      · exact h2 d hd, t, by rw [hs]; exact ht, h3⟩
end Go.Proofs.Ytpnnedkpbmilkaa

/- Graphs of nodes: how far it is to an end; plain law. -/
set_option linter.unusedVariables false
set_option linter.unusedSimpArgs false
namespace Go.Proofs.Ytpnnedkpbmilkaa

/-- What can be reached from a by the bytes of by_. -/
inductive Reach (g : Gr) (by_ : List Nat) (a : Nd) : Nd → Prop
  | refl : Reach g by_ a a
  | step {n t : Nd} {b : Nat} (h : Reach g by_ a n) (hb : b ∈ by_) (ht : t ∈ g.next n b) : Reach g by_ a t
/-- The distances to an end, of all that can be reached. -/
structure DistOk (g : Gr) (by_ : List Nat) (a : Nd) (left : Nd → Option Nat) : Prop where
  ends : ∀ n, Reach g by_ a n → g.ends n = true → left n = some 0
  pred : ∀ n k, left n = some k → ∀ p b, Reach g by_ a p → b ∈ by_ → n ∈ g.next p b → ∃ j, j ≤ k + 1 ∧ left p = some j
  word : ∀ n k, left n = some k → Reach g by_ a n ∧ ∃ w, w.length = k ∧ (∀ b ∈ w, b ∈ by_) ∧ Leads g w n
section
variable {g : Gr} {by_ : List Nat} {a : Nd} {left : Nd → Option Nat}
theorem DistOk.le (h : DistOk g by_ a left) : ∀ {w : List Nat} {n : Nd}, Reach g by_ a n → (∀ b ∈ w, b ∈ by_) → Leads g w n → ∃ j, j ≤ w.length ∧ left n = some j
  | [], n, hr, _, hl => ⟨0, Nat.le_refl _, h.ends n hr hl⟩
  | b :: w, n, hr, hb, ⟨t, ht, hl⟩ => by
    have hbb := hb b List.mem_cons_self
    obtain ⟨j, hj, hlt⟩ := DistOk.le h (hr.step hbb ht) (fun c hc => hb c (List.mem_cons_of_mem _ hc)) hl
    obtain ⟨i, hi, hln⟩ := h.pred t j hlt n b hr hbb ht
    exact ⟨i, by rw [List.length_cons]; omega, hln⟩
variable (hby : ∀ c, c < 256 → ∃ r ∈ by_, r ≤ c ∧ ∀ n, g.next n r = g.next n c)
include hby
/-- .. over all bytes. -/
theorem DistOk.bytes (h : DistOk g by_ a left) {w : List Nat} {n : Nd} (hr : Reach g by_ a n) (hb : bytes_ w) (hl : Leads g w n) : ∃ j, j ≤ w.length ∧ left n = some j := by
  obtain ⟨v, h1, h2, h3⟩ := leads_reps hby hb hl
  rw [← h1]
  exact h.le hr h2 h3
/-- Among nodes at distance k + 1: by b one comes to a node from which k bytes lead to an end just where one comes to a node at distance k. -/
theorem DistOk.fwd (h : DistOk g by_ a left) (hby2 : ∀ b ∈ by_, b < 256) {P : Nd → Prop} {k b : Nat} (hP : ∀ n, P n → left n = some (k + 1)) (hb : b ∈ by_) : (∃ u, u.length = k ∧ bytes_ u ∧ LeadsP g (stepP g P b) u) ↔ ∃ t, stepP g P b t ∧ left t = some k := by
  have hr : ∀ t, stepP g P b t → Reach g by_ a t := fun t ⟨n, hn, ht⟩ => (h.word n _ (hP n hn)).1.step hb ht
  constructor
  · rintro ⟨u, hu, hub, t, ht, hl⟩
    obtain ⟨j, hj, hlt⟩ := h.bytes hby (hr t ht) hub hl
    obtain ⟨n, hn, htn⟩ := ht
    obtain ⟨i, hi, hln⟩ := h.pred t j hlt n b (h.word n _ (hP n hn)).1 hb htn
    rw [hP n hn] at hln
    injection hln with hln
    have : j = k := by omega
    exact ⟨t, ⟨n, hn, htn⟩, this ▸ hlt⟩
  · rintro ⟨t, ht, hlt⟩
    obtain ⟨-, w, h1, h2, h3⟩ := h.word t k hlt
    exact ⟨w, h1, fun c hc => hby2 c (h2 c hc), t, ht, h3⟩
/-- The first word from a node at distance k has k bytes. -/
theorem DistOk.first (h : DistOk g by_ a left) {k : Nat} {w : List Nat} (hl : left a = some k) (hw : FirstOf g (· = a) k w) : FirstW g (· = a) w := by
  obtain ⟨h1, h2, h3, h4⟩ := hw
  subst h1
  refine ⟨⟨rfl, h2, h3, h4⟩, fun u hu hul => ?_⟩
  obtain ⟨n, rfl, hn⟩ := hul
  obtain ⟨j, hj, hlj⟩ := h.bytes hby .refl hu hn
  rw [hl] at hlj
  injection hlj with hlj
  omega
theorem DistOk.none (h : DistOk g by_ a left) (hl : left a = none) : ∀ u, bytes_ u → ¬ LeadsP g (· = a) u := by
  rintro u hu ⟨n, rfl, hn⟩
  obtain ⟨j, -, hlj⟩ := h.bytes hby .refl hu hn
  rw [hl] at hlj
  cases hlj
end
end Go.Proofs.Ytpnnedkpbmilkaa

/- Distances to an end by a queue, from the ends back; plain law. -/
set_option linter.unusedVariables false
set_option linter.unusedSimpArgs false
namespace Go.Proofs.Ytpnnedkpbmilkaa
open Go.VC
/-- What leads to n. -/
def PredsOk (g : Gr) (by_ : List Nat) (a n : Nd) (left : Nd → Option Nat) (k : Nat) : Prop := ∀ p b, Reach g by_ a p → b ∈ by_ → n ∈ g.next p b → ∃ j, j ≤ k + 1 ∧ left p = some j
/-- The queue, no element out; k is the least distance that it may still hold. -/
structure BInv (g : Gr) (by_ : List Nat) (a : Nd) (left : Nd → Option Nat) (todo : List Nd) (k : Nat) : Prop where
  ends : ∀ n, Reach g by_ a n → g.ends n = true → left n = some 0
  word : ∀ n j, left n = some j → Reach g by_ a n ∧ ∃ w, w.length = j ∧ (∀ b ∈ w, b ∈ by_) ∧ Leads g w n
  q : ∀ n ∈ todo, ∃ j, left n = some j ∧ k ≤ j
  up : ∀ n j, left n = some j → j ≤ k + 1
  sorted : todo.Pairwise fun n p => ∀ i j, left n = some i → left p = some j → i ≤ j
  done : ∀ n j, left n = some j → n ∉ todo → PredsOk g by_ a n left j
/-- .. element n, at distance k, is out; those that lead to it are gone through: what holds of d is done. -/
structure BMid (g : Gr) (by_ : List Nat) (a : Nd) (left : Nd → Option Nat) (todo : List Nd) (n : Nd) (k : Nat) (d : Nd → Prop) : Prop where
  ends : ∀ n, Reach g by_ a n → g.ends n = true → left n = some 0
  word : ∀ n j, left n = some j → Reach g by_ a n ∧ ∃ w, w.length = j ∧ (∀ b ∈ w, b ∈ by_) ∧ Leads g w n
  here : left n = some k
  q : ∀ n ∈ todo, ∃ j, left n = some j ∧ k ≤ j
  up : ∀ n j, left n = some j → j ≤ k + 1
  sorted : todo.Pairwise fun n p => ∀ i j, left n = some i → left p = some j → i ≤ j
  done : ∀ m j, left m = some j → m ∉ todo → m ≠ n → PredsOk g by_ a m left j
  now : ∀ p, d p → ∃ j, j ≤ k + 1 ∧ left p = some j
section
variable {g : Gr} {by_ : List Nat} {a n p : Nd} {left : Nd → Option Nat} {todo : List Nd} {k : Nat} {d : Nd → Prop}
theorem BInv.end_ (h : BInv g by_ a left [] k) : DistOk g by_ a left := ⟨h.ends, fun n j hj => h.done n j hj (by simp), h.word⟩
theorem BInv.take (h : BInv g by_ a left (n :: todo) k) : ∃ j, left n = some j ∧ BMid g by_ a left todo n j fun _ => False := by
  obtain ⟨j, hj, hkj⟩ := h.q n List.mem_cons_self
  obtain ⟨s1, s2⟩ := List.pairwise_cons.1 h.sorted
  refine ⟨j, hj, h.ends, h.word, hj, fun m hm => ?_, fun m i hi => by have := h.up m i hi; omega, s2, fun m i hi hm hne => h.done m i hi fun hm' => ?_, fun p hp => hp.elim⟩
  · obtain ⟨i, hi, -⟩ := h.q m (List.mem_cons_of_mem _ hm)
    exact ⟨i, hi, s1 m hm j i hj hi⟩
  · rcases List.mem_cons.1 hm' with h | h
    · exact hne h
    · exact hm h
theorem BMid.skip (h : BMid g by_ a left todo n k d) (hp : (left p).isSome = true) : BMid g by_ a left todo n k fun x => d x ∨ x = p := by
  refine ⟨h.ends, h.word, h.here, h.q, h.up, h.sorted, h.done, fun x hx => ?_⟩
  rcases hx with hx | rfl
  · exact h.now x hx
  · obtain ⟨j, hj⟩ := Option.isSome_iff_exists.1 hp
    exact ⟨j, h.up _ j hj, hj⟩
theorem BMid.push {left' : Nd → Option Nat} (h : BMid g by_ a left todo n k d) (hp : left p = none) (hr : Reach g by_ a p) {b : Nat} (hb : b ∈ by_) (hn : n ∈ g.next p b) (hl : ∀ m, left' m = if m = p then some (k + 1) else left m) : BMid g by_ a left' (todo ++ [p]) n k fun x => d x ∨ x = p := by
  have old : ∀ m j, left m = some j → left' m = some j := fun m j hj => by
    rw [hl, if_neg (fun e => by rw [e, hp] at hj; cases hj)]; exact hj
  have hpp : left' p = some (k + 1) := by rw [hl, if_pos rfl]
  have new : ∀ m j, left' m = some j → (m = p ∧ j = k + 1) ∨ left m = some j := fun m j hj => by
    rw [hl] at hj
    split at hj
    · rename_i e; injection hj with hj; exact .inl ⟨e, hj.symm⟩
    · exact .inr hj
  have pk : ∀ m j, PredsOk g by_ a m left j → PredsOk g by_ a m left' j := fun m j hm q c h1 h2 h3 => by
    obtain ⟨i, hi, hq⟩ := hm q c h1 h2 h3
    exact ⟨i, hi, old q i hq⟩
  refine ⟨fun m h1 h2 => old m 0 (h.ends m h1 h2), fun m j hj => ?_, old n k h.here, fun m hm => ?_, fun m j hj => ?_, ?_, fun m j hj hm hne => ?_, fun x hx => ?_⟩
  · rcases new m j hj with ⟨rfl, rfl⟩ | hj
    · obtain ⟨-, w, h1, h2, h3⟩ := h.word n k h.here
      exact ⟨hr, b :: w, by simp [h1], fun c hc => by
        rcases List.mem_cons.1 hc with rfl | hc
        · exact hb
        · exact h2 c hc, n, hn, h3⟩
    · exact h.word m j hj
  · rcases List.mem_append.1 hm with hm | hm
    · obtain ⟨j, hj, hk⟩ := h.q m hm
      exact ⟨j, old m j hj, hk⟩
    · rw [List.mem_singleton] at hm
      subst hm
      exact ⟨k + 1, hpp, by omega⟩
  · rcases new m j hj with ⟨-, rfl⟩ | hj
    · exact Nat.le_refl _
    · exact h.up m j hj
  · refine List.pairwise_append.2 ⟨?_, List.pairwise_singleton _ _, fun m hm m' hm' i j hi hj => ?_⟩
    · refine (List.Pairwise.and_mem.1 h.sorted).imp fun {m m'} hmm i j hi hj => ?_
      obtain ⟨hm, hm', hs⟩ := hmm
      obtain ⟨i', hi', -⟩ := h.q m hm
      obtain ⟨j', hj', -⟩ := h.q m' hm'
      have e1 := old m i' hi'
      have e2 := old m' j' hj'
      rw [hi] at e1; rw [hj] at e2
      injection e1 with e1; injection e2 with e2
      subst e1; subst e2
      exact hs i j hi' hj'
    · rw [List.mem_singleton] at hm'
      subst hm'
      rw [hpp] at hj
      injection hj with hj
      subst hj
      obtain ⟨i', hi', -⟩ := h.q m hm
      have e1 := old m i' hi'
      rw [hi] at e1
      injection e1 with e1
      subst e1
      exact h.up m i hi'
  · rcases new m j hj with ⟨rfl, rfl⟩ | hj
    · exact absurd (List.mem_append.2 (.inr (List.mem_singleton.2 rfl))) hm
    · exact pk m j (h.done m j hj (fun hm' => hm (List.mem_append.2 (.inl hm'))) hne)
  · rcases hx with hx | rfl
    · obtain ⟨j, h1, h2⟩ := h.now x hx
      exact ⟨j, h1, old x j h2⟩
    · exact ⟨k + 1, Nat.le_refl _, hpp⟩
theorem BMid.end_ (h : BMid g by_ a left todo n k d) (hall : ∀ p b, Reach g by_ a p → b ∈ by_ → n ∈ g.next p b → d p) : BInv g by_ a left todo k := by
  refine ⟨h.ends, h.word, h.q, h.up, h.sorted, fun m j hj hm => ?_⟩
  by_cases hmn : m = n
  · subst hmn
    rw [h.here] at hj
    injection hj with hj
    subst hj
    exact fun p b h1 h2 h3 => h.now p (hall p b h1 h2 h3)
  · exact h.done m j hj hm hmn
/-- The beginning: the ends are in the queue. -/
theorem BInv.start (h1 : ∀ n, left n = if n ∈ todo then some 0 else none) (h2 : ∀ n, n ∈ todo ↔ Reach g by_ a n ∧ g.ends n = true) : BInv g by_ a left todo 0 := by
  have e : ∀ n j, left n = some j → n ∈ todo ∧ j = 0 := fun n j hj => by
    rw [h1] at hj
    split at hj
    · rename_i h; injection hj with hj; exact ⟨h, hj.symm⟩
    · cases hj
  refine ⟨fun n hr he => by rw [h1, if_pos ((h2 n).2 ⟨hr, he⟩)], fun n j hj => ?_, fun n hn => ⟨0, by rw [h1, if_pos hn], Nat.le_refl _⟩, fun n j hj => by rw [(e n j hj).2]; omega, List.pairwise_of_forall fun n p i j hi hj => by rw [(e n i hi).2]; omega, fun n j hj hn => absurd (e n j hj).1 hn⟩
  obtain ⟨hn, rfl⟩ := e n j hj
  exact ⟨((h2 n).1 hn).1, [], rfl, (fun b hb => by cases hb), ((h2 n).1 hn).2⟩
end
end Go.Proofs.Ytpnnedkpbmilkaa

/- All that can be reached, in the order in which it is found, and what leads to it; plain law. -/
set_option linter.unusedVariables false
set_option linter.unusedSimpArgs false
namespace Go.Proofs.Ytpnnedkpbmilkaa
/-- The nodes found so far; bk t p: p is listed as one that leads to t; what holds of d has been gone through. -/
structure RInv (g : Gr) (by_ : List Nat) (a : Nd) (order : List Nd) (bk : Nd → Nd → Prop) (d : Nd → Nat → Nd → Prop) : Prop where
  first : order[0]? = some a
  nodup : order.Nodup
  reach : ∀ n ∈ order, Reach g by_ a n
  back : ∀ t p, bk t p → Reach g by_ a p ∧ ∃ b, b ∈ by_ ∧ t ∈ g.next p b
  done : ∀ n b t, d n b t → t ∈ order ∧ bk t n
section
variable {g : Gr} {by_ : List Nat} {a n t : Nd} {b : Nat} {order : List Nd} {bk bk' : Nd → Nd → Prop} {d : Nd → Nat → Nd → Prop}
theorem RInv.start : RInv g by_ a [a] (fun _ _ => False) fun _ _ _ => False :=
  ⟨rfl, by simp, fun n hn => by rw [List.mem_singleton] at hn; subst hn; exact .refl, fun _ _ h => h.elim, fun _ _ _ h => h.elim⟩
/-- One that was there, or is new. -/
theorem RInv.see (h : RInv g by_ a order bk d) (hn : n ∈ order) (hb : b ∈ by_) (ht : t ∈ g.next n b) (hk : ∀ x p, bk' x p ↔ bk x p ∨ (x = t ∧ p = n)) : ∀ order', (t ∈ order ∧ order' = order) ∨ (t ∉ order ∧ order' = order ++ [t]) → RInv g by_ a order' bk' fun m c x => d m c x ∨ (m = n ∧ c = b ∧ x = t) := by
  intro order' ho
  have sub : ∀ x, x ∈ order → x ∈ order' := fun x hx => by
    rcases ho with ⟨-, rfl⟩ | ⟨-, rfl⟩
    · exact hx
    · exact List.mem_append.2 (.inl hx)
  have hin : t ∈ order' := by
    rcases ho with ⟨h, rfl⟩ | ⟨-, rfl⟩
    · exact h
    · simp
  refine ⟨?_, ?_, fun x hx => ?_, fun x p hp => ?_, fun m c x hx => ?_⟩
  · rcases ho with ⟨-, rfl⟩ | ⟨-, rfl⟩
    · exact h.first
    · rw [List.getElem?_append_left (List.getElem?_eq_some_iff.1 h.first).1]; exact h.first
  · rcases ho with ⟨-, rfl⟩ | ⟨hno, rfl⟩
    · exact h.nodup
    · refine List.nodup_append.2 ⟨h.nodup, by simp, fun x hx y hy => ?_⟩
      rw [List.mem_singleton] at hy
      subst hy
      exact fun e => hno (e ▸ hx)
  · rcases ho with ⟨-, rfl⟩ | ⟨-, rfl⟩
    · exact h.reach x hx
    · rcases List.mem_append.1 hx with hx | hx
      · exact h.reach x hx
      · rw [List.mem_singleton] at hx
        subst hx
        exact (h.reach n hn).step hb ht
  · rcases (hk x p).1 hp with hp | ⟨rfl, rfl⟩
    · exact h.back x p hp
    · exact ⟨h.reach p hn, b, hb, ht⟩
  · rcases hx with hx | ⟨rfl, rfl, rfl⟩
    · obtain ⟨h1, h2⟩ := h.done m c x hx
      exact ⟨sub x h1, (hk x m).2 (.inl h2)⟩
    · exact ⟨hin, (hk x m).2 (.inr ⟨rfl, rfl⟩)⟩
theorem RInv.weak {d' : Nd → Nat → Nd → Prop} (h : RInv g by_ a order bk d) (k : ∀ n b t, d' n b t → d n b t) : RInv g by_ a order bk d' :=
  ⟨h.first, h.nodup, h.reach, h.back, fun n b t hd => h.done n b t (k n b t hd)⟩
/-- All is found. -/
theorem RInv.all (h : RInv g by_ a order bk d) (hall : ∀ n b t, n ∈ order → b ∈ by_ → t ∈ g.next n b → d n b t) : (∀ n, n ∈ order ↔ Reach g by_ a n) ∧ ∀ t p, bk t p ↔ Reach g by_ a p ∧ ∃ b, b ∈ by_ ∧ t ∈ g.next p b := by
  have key : ∀ n, Reach g by_ a n → n ∈ order := fun n hn => by
    induction hn with
    | refl => exact List.mem_of_getElem? h.first
    | step hr hb ht ih => exact (h.done _ _ _ (hall _ _ _ ih hb ht)).1
  exact ⟨fun n => ⟨h.reach n, key n⟩, fun t p => ⟨h.back t p, fun ⟨hp, b, hb, ht⟩ => (h.done p b t (hall p b t (key p hp) hb ht)).2⟩⟩
end
end Go.Proofs.Ytpnnedkpbmilkaa

/- Rows of nodes, each with the least word of one length that leads to it; plain law. -/
set_option linter.unusedVariables false
set_option linter.unusedSimpArgs false
namespace Go.Proofs.Ytpnnedkpbmilkaa

/-! ### the order -/
theorem lexL_refl : ∀ u : List Nat, lexL u u
  | [] => by unfold lexL; trivial
  | a :: u => by unfold lexL; exact .inr ⟨rfl, lexL_refl u⟩
theorem lexL_trans : ∀ {u v w : List Nat}, u.length = v.length → v.length = w.length → lexL u v → lexL v w → lexL u w
  | [], _, _, _, _, _, _ => by unfold lexL; trivial
  | a :: u, [], _, h, _, _, _ => by simp at h
  | a :: u, b :: v, [], _, h, _, _ => by simp at h
  | a :: u, b :: v, c :: w, h1, h2, h3, h4 => by
    simp only [List.length_cons, Nat.add_right_cancel_iff] at h1 h2
    unfold lexL at h3 h4 ⊢
    rcases h3 with h3 | ⟨rfl, h3⟩ <;> rcases h4 with h4 | ⟨rfl, h4⟩
    · exact .inl (Nat.lt_trans h3 h4)
    · exact .inl h3
    · exact .inl h4
    · exact .inr ⟨rfl, lexL_trans h1 h2 h3 h4⟩
theorem lexL_total : ∀ {u v : List Nat}, ¬ lexL u v → lexL v u
  | [], v, h => absurd (by unfold lexL; trivial) h
  | a :: u, [], _ => by unfold lexL; trivial
  | a :: u, b :: v, h => by
    unfold lexL at h ⊢
    rcases Nat.lt_trichotomy a b with k | k | k
    · exact absurd (.inl k) h
    · exact .inr ⟨k.symm, lexL_total fun hh => h (.inr ⟨k, hh⟩)⟩
    · exact .inl k
theorem lexL_snoc : ∀ {u v : List Nat} (b : Nat), u.length = v.length → lexL u v → lexL (u ++ [b]) (v ++ [b])
  | [], [], b, _, _ => lexL_refl _
  | [], _ :: _, _, h, _ => by simp at h
  | _ :: _, [], _, h, _ => by simp at h
  | a :: u, c :: v, b, h, h1 => by
    unfold lexL at h1
    show lexL (a :: (u ++ [b])) (c :: (v ++ [b]))
    unfold lexL
    rcases h1 with h1 | ⟨rfl, h1⟩
    · exact .inl h1
    · exact .inr ⟨rfl, lexL_snoc b (by simpa using h) h1⟩

/-! ### ways -/
/-- w leads from n to t. -/
def To (g : Gr) : List Nat → Nd → Nd → Prop
  | [], n, t => n = t
  | b :: w, n, t => ∃ m, m ∈ g.next n b ∧ To g w m t
theorem to_snoc {g : Gr} {b : Nat} {t : Nd} : ∀ {w : List Nat} {n : Nd}, To g (w ++ [b]) n t ↔ ∃ m, To g w n m ∧ t ∈ g.next m b
  | [], n => by
    constructor
    · rintro ⟨m, hm, h⟩
      obtain rfl : m = t := h
      exact ⟨n, rfl, hm⟩
    · rintro ⟨m, h, ht⟩
      obtain rfl : n = m := h
      exact ⟨t, ht, rfl⟩
  | c :: w, n => by
    constructor
    · rintro ⟨m, hm, h⟩
      obtain ⟨p, h1, h2⟩ := to_snoc.1 h
      exact ⟨p, ⟨m, hm, h1⟩, h2⟩
    · rintro ⟨p, ⟨m, hm, h1⟩, h2⟩
      exact ⟨m, hm, to_snoc.2 ⟨p, h1, h2⟩⟩
theorem leads_to {g : Gr} : ∀ {w : List Nat} {n : Nd}, Leads g w n ↔ ∃ t, To g w n t ∧ g.ends t = true
  | [], n => ⟨fun h => ⟨n, rfl, h⟩, fun ⟨t, h, k⟩ => by obtain rfl : n = t := h; exact k⟩
  | b :: w, n => by
    constructor
    · rintro ⟨m, hm, h⟩
      obtain ⟨t, h1, h2⟩ := leads_to.1 h
      exact ⟨t, ⟨m, hm, h1⟩, h2⟩
    · rintro ⟨t, ⟨m, hm, h1⟩, h2⟩
      exact ⟨m, hm, leads_to.2 ⟨t, h1, h2⟩⟩
theorem reach_to {g : Gr} {by_ : List Nat} {a n : Nd} (h : Reach g by_ a n) : ∃ w, (∀ b ∈ w, b ∈ by_) ∧ To g w a n := by
  induction h with
  | refl => exact ⟨[], (fun b hb => by cases hb), rfl⟩
  | step hr hb ht ih =>
    rename_i n t b
    obtain ⟨w, h1, h2⟩ := ih
    refine ⟨w ++ [b], fun c hc => ?_, to_snoc.2 ⟨n, h2, ht⟩⟩
    rcases List.mem_append.1 hc with hc | hc
    · exact h1 c hc
    · rw [List.mem_singleton] at hc; subst hc; exact hb
theorem to_reach {g : Gr} {by_ : List Nat} {a t : Nd} : ∀ {w : List Nat} {n : Nd}, Reach g by_ a n → (∀ b ∈ w, b ∈ by_) → To g w n t → Reach g by_ a t
  | [], n, hr, _, h => by obtain rfl : n = t := h; exact hr
  | b :: w, n, hr, hb, ⟨m, hm, h⟩ => to_reach (hr.step (hb b List.mem_cons_self) hm) (fun c hc => hb c (List.mem_cons_of_mem _ hc)) h
/-- Over the least bytes of their kinds a word is no later. -/
theorem leads_less {g : Gr} {by_ : List Nat} (hby : ∀ c, c < 256 → ∃ r ∈ by_, r ≤ c ∧ ∀ n, g.next n r = g.next n c) : ∀ {w : List Nat} {n : Nd}, bytes_ w → Leads g w n → ∃ v, v.length = w.length ∧ (∀ b ∈ v, b ∈ by_) ∧ Leads g v n ∧ lexL v w
  | [], n, _, h => ⟨[], rfl, (fun b hb => by cases hb), h, lexL_refl _⟩
  | c :: w, n, hb, ⟨t, ht, hw⟩ => by
    obtain ⟨v, h1, h2, h3, h4⟩ := leads_less hby (fun d hd => hb d (List.mem_cons_of_mem _ hd)) hw
    obtain ⟨r, hr, hrc, hs⟩ := hby c (hb c List.mem_cons_self)
    refine ⟨r :: v, by simp [h1], fun d hd => ?_, ⟨t, by rw [hs]; exact ht, h3⟩, ?_⟩
    · rcases List.mem_cons.1 hd with rfl | hd
      · exact hr
      · exact h2 d hd
    · unfold lexL
      rcases Nat.lt_or_eq_of_le hrc with h | h
      · exact .inl h
      · exact .inr ⟨h, h4⟩

/-! ### rows -/
abbrev NW := Nd × List Nat
structure RowOk (g : Gr) (by_ : List Nat) (a : Nd) (L : Nat) (F : List NW) : Prop where
  nd : (F.map (·.1)).Nodup
  ok : ∀ x ∈ F, x.2.length = L ∧ (∀ b ∈ x.2, b ∈ by_) ∧ To g x.2 a x.1
  all : ∀ w t, w.length = L → (∀ b ∈ w, b ∈ by_) → To g w a t → ∃ x ∈ F, x.1 = t ∧ lexL x.2 w
/-- The row of words of one byte more, while it is made: what holds of d has been put in. -/
structure RowMid (g : Gr) (by_ : List Nat) (a : Nd) (L : Nat) (F : List NW) (d : Nd → List Nat → Prop) : Prop where
  nd : (F.map (·.1)).Nodup
  ok : ∀ x ∈ F, x.2.length = L ∧ (∀ b ∈ x.2, b ∈ by_) ∧ To g x.2 a x.1
  all : ∀ t w, d t w → w.length = L → ∃ x ∈ F, x.1 = t ∧ lexL x.2 w
/-- n, with the word w, is put into F; r tells if n is new. -/
def Put (F : List NW) (n : Nd) (w : List Nat) (F' : List NW) (r : Bool) : Prop :=
  (∃ (i : Nat) (u : List Nat), F[i]? = some (n, u) ∧ r = false ∧ ((lexL u w ∧ F' = F) ∨ (¬ lexL u w ∧ F' = F.set i (n, w)))) ∨ ((∀ x ∈ F, x.1 ≠ n) ∧ r = true ∧ F' = F ++ [(n, w)])
section
variable {g : Gr} {by_ : List Nat} {a n t : Nd} {L : Nat} {F F' : List NW} {d d' : Nd → List Nat → Prop} {w : List Nat} {r : Bool}
theorem RowMid.start : RowMid g by_ a L [] fun _ _ => False := ⟨List.nodup_nil, (fun x hx => by cases hx), fun _ _ h _ => h.elim⟩
theorem RowMid.weak (h : RowMid g by_ a L F d) (k : ∀ t w, d' t w → d t w) : RowMid g by_ a L F d' := ⟨h.nd, h.ok, fun t w hd hL => h.all t w (k t w hd) hL⟩
theorem Put.fst (h : Put F n w F' r) : F'.map (·.1) = if r then F.map (·.1) ++ [n] else F.map (·.1) := by
  rcases h with ⟨i, u, hi, rfl, ⟨-, rfl⟩ | ⟨-, rfl⟩⟩ | ⟨-, rfl, rfl⟩
  · rfl
  · rw [List.map_set, if_neg (by decide)]
    apply List.ext_getElem?
    intro j
    by_cases hj : i = j
    · subst hj
      rw [List.getElem?_set_self (by rw [List.length_map]; exact (List.getElem?_eq_some_iff.1 hi).1), List.getElem?_map, hi]; rfl
    · rw [List.getElem?_set_ne hj]
  · simp
theorem RowMid.put (h : RowMid g by_ a L F d) (hw : w.length = L) (hb : ∀ b ∈ w, b ∈ by_) (ht : To g w a t) (hp : Put F t w F' r) : RowMid g by_ a L F' fun x u => d x u ∨ (x = t ∧ u = w) := by
  have hnd : (F'.map (·.1)).Nodup := by
    rw [hp.fst]
    split
    · rename_i hr
      subst hr
      rcases hp with ⟨i, u, -, hr, -⟩ | ⟨hno, -, -⟩
      · cases hr
      · refine List.nodup_append.2 ⟨h.nd, by simp, fun x hx y hy => ?_⟩
        rw [List.mem_singleton] at hy
        subst hy
        obtain ⟨z, hz, rfl⟩ := List.mem_map.1 hx
        exact hno z hz
    · exact h.nd
  rcases hp with ⟨i, u, hi, rfl, ⟨hl, rfl⟩ | ⟨hl, rfl⟩⟩ | ⟨hno, rfl, rfl⟩
  · refine ⟨hnd, h.ok, fun x v hv hvL => ?_⟩
    rcases hv with hv | ⟨rfl, rfl⟩
    · exact h.all x v hv hvL
    · exact ⟨_, List.mem_of_getElem? hi, rfl, hl⟩
  · have hil := (List.getElem?_eq_some_iff.1 hi).1
    have hul := (h.ok _ (List.mem_of_getElem? hi)).1
    have hin : (t, w) ∈ F.set i (t, w) := List.mem_of_getElem? (i := i) (List.getElem?_set_self hil)
    refine ⟨hnd, fun x hx => ?_, fun x v hv hvL => ?_⟩
    · obtain ⟨j, hj⟩ := List.getElem?_of_mem hx
      by_cases hij : i = j
      · subst hij
        rw [List.getElem?_set_self hil] at hj
        cases hj
        exact ⟨hw, hb, ht⟩
      · rw [List.getElem?_set_ne hij] at hj
        exact h.ok x (List.mem_of_getElem? hj)
    · rcases hv with hv | ⟨rfl, rfl⟩
      · obtain ⟨y, hy, e, hlv⟩ := h.all x v hv hvL
        obtain ⟨j, hj⟩ := List.getElem?_of_mem hy
        by_cases hij : i = j
        · subst hij
          rw [hi] at hj
          cases hj
          obtain rfl : t = x := e
          exact ⟨_, hin, rfl, lexL_trans (by rw [hw, hul]) (by rw [hul, hvL]) (lexL_total hl) hlv⟩
        · exact ⟨y, List.mem_of_getElem? (i := j) (by rw [List.getElem?_set_ne hij]; exact hj), e, hlv⟩
      · exact ⟨_, hin, rfl, lexL_refl _⟩
  · refine ⟨hnd, fun x hx => ?_, fun x v hv hvL => ?_⟩
    · rcases List.mem_append.1 hx with hx | hx
      · exact h.ok x hx
      · rw [List.mem_singleton] at hx
        subst hx
        exact ⟨hw, hb, ht⟩
    · rcases hv with hv | ⟨rfl, rfl⟩
      · obtain ⟨y, hy, e, hl⟩ := h.all x v hv hvL
        exact ⟨y, List.mem_append.2 (.inl hy), e, hl⟩
      · exact ⟨_, List.mem_append.2 (.inr (List.mem_singleton.2 rfl)), rfl, lexL_refl _⟩
theorem RowOk.start : RowOk g by_ a 0 [(a, [])] := by
  refine ⟨by simp, fun x hx => ?_, fun w t hw _ ht => ?_⟩
  · rw [List.mem_singleton] at hx
    subst hx
    exact ⟨rfl, fun b hb => (by cases hb), rfl⟩
  · obtain rfl := List.eq_nil_of_length_eq_zero hw
    obtain rfl : a = t := ht
    exact ⟨_, List.mem_singleton.2 rfl, rfl, lexL_refl _⟩
theorem RowOk.next (h : RowOk g by_ a L F) (m : RowMid g by_ a (L + 1) F' fun t u => ∃ x ∈ F, ∃ b ∈ by_, t ∈ g.next x.1 b ∧ u = x.2 ++ [b]) : RowOk g by_ a (L + 1) F' := by
  refine ⟨m.nd, m.ok, fun w t hw hb ht => ?_⟩
  obtain ⟨u, b, rfl⟩ : ∃ u b, w = u ++ [b] := ⟨w.dropLast, w.getLast (by rintro rfl; simp at hw), (List.dropLast_concat_getLast _).symm⟩
  rw [List.length_append, List.length_singleton, Nat.add_right_cancel_iff] at hw
  obtain ⟨n, hn, hnt⟩ := to_snoc.1 ht
  obtain ⟨x, hx, rfl, hl⟩ := h.all u n hw (fun c hc => hb c (List.mem_append.2 (.inl hc))) hn
  have hxl := (h.ok x hx).1
  obtain ⟨y, hy, e, hy2⟩ := m.all t (x.2 ++ [b]) ⟨x, hx, b, hb b (by simp), hnt, rfl⟩ (by simp [hxl])
  refine ⟨y, hy, e, lexL_trans (by rw [(m.ok y hy).1]; simp [hxl]) (by simp [hxl, hw]) hy2 (lexL_snoc b (by rw [hxl, hw]) hl)⟩
/-- No word of fewer bytes leads to an end. -/
def Dry (g : Gr) (a : Nd) (L : Nat) : Prop := ∀ u, bytes_ u → u.length < L → ¬ Leads g u a
variable (hby : ∀ c, c < 256 → ∃ r ∈ by_, r ≤ c ∧ ∀ n, g.next n r = g.next n c)
include hby
theorem RowOk.dry (h : RowOk g by_ a L F) (hd : Dry g a L) (hno : ∀ x ∈ F, g.ends x.1 = false) : Dry g a (L + 1) := by
  intro u hu hul hl
  by_cases hL : u.length < L
  · exact hd u hu hL hl
  · obtain ⟨v, h1, h2, h3, -⟩ := leads_less hby hu hl
    obtain ⟨t, h4, h5⟩ := leads_to.1 h3
    obtain ⟨x, hx, rfl, -⟩ := h.all v t (by omega) h2 h4
    rw [hno x hx] at h5; cases h5
theorem RowOk.found (hby2 : ∀ b ∈ by_, b < 256) (h : RowOk g by_ a L F) (hd : Dry g a L) {x : NW} (hx : x ∈ F) (he : g.ends x.1 = true) (hbest : ∀ y ∈ F, g.ends y.1 = true → lexL x.2 y.2) : FirstW g (· = a) x.2 := by
  obtain ⟨k1, k2, k3⟩ := h.ok x hx
  refine ⟨⟨rfl, fun b hb => hby2 b (k2 b hb), ⟨a, rfl, leads_to.2 ⟨_, k3, he⟩⟩, fun u hu hub hul => ?_⟩, fun u hub hul => ?_⟩
  · obtain ⟨n, rfl, hn⟩ := hul
    obtain ⟨v, h1, h2, h3, h4⟩ := leads_less hby hub hn
    obtain ⟨t, h5, h6⟩ := leads_to.1 h3
    obtain ⟨y, hy, rfl, hl⟩ := h.all v t (by omega) h2 h5
    exact lexL_trans (by rw [k1, (h.ok y hy).1]) (by rw [(h.ok y hy).1]; omega) (hbest y hy h6) (lexL_trans (by rw [(h.ok y hy).1]; omega) h1 hl h4)
  · obtain ⟨n, rfl, hn⟩ := hul
    apply Classical.byContradiction
    intro hlt
    exact hd u hub (by omega) hn
end
end Go.Proofs.Ytpnnedkpbmilkaa

/- The graphs of Meets, Cat and Iter, and what their words say; plain law. -/
set_option linter.unusedVariables false
set_option linter.unusedSimpArgs false
namespace Go.Proofs.Ytpnnedkpbmilkaa
open Go.VC
/-- Where a word leads. -/
def runL (o : Option AM) (w : List Nat) (q : Int) : Int := w.foldl (fun q b => stepM o q b) q
theorem runL_cons (o : Option AM) (c : Nat) (w : List Nat) (q : Int) : runL o (c :: w) q = runL o w (stepM o q c) := rfl
theorem runL_append (o : Option AM) (u w : List Nat) (q : Int) : runL o (u ++ w) q = runL o w (runL o u q) := by unfold runL; rw [List.foldl_append]
def accL (o : Option AM) (w : List Nat) : Bool := finM o (runL o w 0)
def root : Nd := ⟨0, 0, 0⟩

def meetG (a b : Option AM) : Gr := ⟨fun n c => [⟨0, stepM a n.x c, stepM b n.y c⟩], fun n => finM a n.x && finM b n.y⟩
theorem meet_leads (a b : Option AM) : ∀ (w : List Nat) (s x y : Int), Leads (meetG a b) w ⟨s, x, y⟩ ↔ finM a (runL a w x) = true ∧ finM b (runL b w y) = true
  | [], s, x, y => by
    show (finM a x && finM b y) = true ↔ _
    rw [Bool.and_eq_true]; rfl
  | c :: w, s, x, y => by
    rw [runL_cons, runL_cons, ← meet_leads a b w 0]
    constructor
    · rintro ⟨t, ht, h⟩
      obtain rfl := List.mem_singleton.1 ht
      exact h
    · exact fun h => ⟨_, List.mem_singleton.2 rfl, h⟩
theorem meet_root (a b : Option AM) (w : List Nat) : Leads (meetG a b) w root ↔ accL a w = true ∧ accL b w = true := meet_leads a b w 0 0 0

def catNext (a b : Option AM) (n : Nd) (c : Nat) : List Nd :=
  if n.s = 0 then ⟨0, stepM a n.x c, 0⟩ :: (if finM a n.x then [⟨1, stepM b 0 c, stepM a n.x c⟩] else [])
  else if n.s = 1 then ⟨1, stepM b n.x c, stepM a n.y c⟩ :: (if finM a n.y then [⟨2, stepM b n.x c, stepM b 0 c⟩] else [])
  else [⟨2, stepM b n.x c, stepM b n.y c⟩]
def catEnds (a b : Option AM) (n : Nd) : Bool := if n.s = 1 then finM b n.x && finM a n.y && finM b 0 else if n.s = 2 then finM b n.x && finM b n.y else false
def catG (a b : Option AM) : Gr := ⟨catNext a b, catEnds a b⟩
/-- w is cut behind i bytes. -/
def CutL (a b : Option AM) (w : List Nat) (x : Int) (i : Nat) : Prop := finM a (runL a (w.take i) x) = true ∧ finM b (runL b (w.drop i) 0) = true
theorem cutL_succ (a b : Option AM) (c : Nat) (w : List Nat) (x : Int) (i : Nat) : CutL a b (c :: w) x (i + 1) ↔ CutL a b w (stepM a x c) i := Iff.rfl
theorem cutL_zero (a b : Option AM) (w : List Nat) (x : Int) : CutL a b w x 0 ↔ finM a x = true ∧ finM b (runL b w 0) = true := Iff.rfl
section
variable {a b : Option AM}
theorem cat_next0 {x y : Int} {c : Nat} {t : Nd} : t ∈ (catG a b).next ⟨0, x, y⟩ c ↔ t = ⟨0, stepM a x c, 0⟩ ∨ (finM a x = true ∧ t = ⟨1, stepM b 0 c, stepM a x c⟩) := by
  show t ∈ catNext a b ⟨0, x, y⟩ c ↔ _
  unfold catNext
  rw [if_pos rfl, List.mem_cons]
  cases h : finM a x <;> simp
theorem cat_next1 {x y : Int} {c : Nat} {t : Nd} : t ∈ (catG a b).next ⟨1, x, y⟩ c ↔ t = ⟨1, stepM b x c, stepM a y c⟩ ∨ (finM a y = true ∧ t = ⟨2, stepM b x c, stepM b 0 c⟩) := by
  show t ∈ catNext a b ⟨1, x, y⟩ c ↔ _
  unfold catNext
  rw [if_neg (show ¬ (1 : Int) = 0 by decide), if_pos rfl, List.mem_cons]
  cases h : finM a y <;> simp
theorem cat_next2 {x y : Int} {c : Nat} {t : Nd} : t ∈ (catG a b).next ⟨2, x, y⟩ c ↔ t = ⟨2, stepM b x c, stepM b y c⟩ := by
  show t ∈ catNext a b ⟨2, x, y⟩ c ↔ _
  unfold catNext
  rw [if_neg (show ¬ (2 : Int) = 0 by decide), if_neg (show ¬ (2 : Int) = 1 by decide), List.mem_singleton]
theorem cat_leads2 : ∀ (w : List Nat) (x y : Int), Leads (catG a b) w ⟨2, x, y⟩ ↔ finM b (runL b w x) = true ∧ finM b (runL b w y) = true
  | [], x, y => by
    show catEnds a b ⟨2, x, y⟩ = true ↔ _
    unfold catEnds
    rw [if_neg (show ¬ (2 : Int) = 1 by decide), if_pos rfl, Bool.and_eq_true]; rfl
  | c :: w, x, y => by
    rw [runL_cons, runL_cons, ← cat_leads2 w]
    constructor
    · rintro ⟨t, ht, h⟩
      obtain rfl := cat_next2.1 ht
      exact h
    · exact fun h => ⟨_, cat_next2.2 rfl, h⟩
theorem cat_leads1 : ∀ (w : List Nat) (x y : Int), Leads (catG a b) w ⟨1, x, y⟩ ↔ finM b (runL b w x) = true ∧ ∃ j, j ≤ w.length ∧ CutL a b w y j
  | [], x, y => by
    show catEnds a b ⟨1, x, y⟩ = true ↔ _
    unfold catEnds
    rw [if_pos rfl, Bool.and_eq_true, Bool.and_eq_true]
    constructor
    · rintro ⟨⟨h1, h2⟩, h3⟩
      exact ⟨h1, 0, Nat.le_refl _, h2, h3⟩
    · rintro ⟨h1, j, hj, h2⟩
      obtain rfl : j = 0 := by simpa using hj
      exact ⟨⟨h1, h2.1⟩, h2.2⟩
  | c :: w, x, y => by
    rw [runL_cons]
    constructor
    · rintro ⟨t, ht, h⟩
      rcases cat_next1.1 ht with rfl | ⟨hf, rfl⟩
      · obtain ⟨h1, j, hj, h2⟩ := (cat_leads1 w _ _).1 h
        exact ⟨h1, j + 1, by simpa using hj, h2⟩
      · obtain ⟨h1, h2⟩ := (cat_leads2 w _ _).1 h
        exact ⟨h1, 0, Nat.zero_le _, hf, h2⟩
    · rintro ⟨h1, j, hj, h2⟩
      cases j with
      | zero => exact ⟨_, cat_next1.2 (.inr ⟨h2.1, rfl⟩), (cat_leads2 w _ _).2 ⟨h1, h2.2⟩⟩
      | succ j => exact ⟨_, cat_next1.2 (.inl rfl), (cat_leads1 w _ _).2 ⟨h1, j, by simpa using hj, h2⟩⟩
theorem cat_leads0 : ∀ (w : List Nat) (x y : Int), Leads (catG a b) w ⟨0, x, y⟩ ↔ ∃ i j, i < j ∧ j ≤ w.length ∧ CutL a b w x i ∧ CutL a b w x j
  | [], x, y => by
    show catEnds a b ⟨0, x, y⟩ = true ↔ _
    unfold catEnds
    rw [if_neg (show ¬ (0 : Int) = 1 by decide), if_neg (show ¬ (0 : Int) = 2 by decide)]
    constructor
    · exact fun h => by cases h
    · rintro ⟨i, j, h1, h2, -⟩
      simp at h2
      omega
  | c :: w, x, y => by
    constructor
    · rintro ⟨t, ht, h⟩
      rcases cat_next0.1 ht with rfl | ⟨hf, rfl⟩
      · obtain ⟨i, j, h1, h2, h3, h4⟩ := (cat_leads0 w _ _).1 h
        exact ⟨i + 1, j + 1, by omega, by simpa using h2, h3, h4⟩
      · obtain ⟨h1, j, hj, h2⟩ := (cat_leads1 w _ _).1 h
        exact ⟨0, j + 1, by omega, by simpa using hj, ⟨hf, h1⟩, h2⟩
    · rintro ⟨i, j, h1, h2, h3, h4⟩
      obtain ⟨j, rfl⟩ : ∃ k, j = k + 1 := ⟨j - 1, by omega⟩
      cases i with
      | zero => exact ⟨_, cat_next0.2 (.inr ⟨h3.1, rfl⟩), (cat_leads1 w _ _).2 ⟨h3.2, j, by simpa using h2, h4⟩⟩
      | succ i => exact ⟨_, cat_next0.2 (.inl rfl), (cat_leads0 w _ _).2 ⟨i, j, by omega, by simpa using h2, h3, h4⟩⟩
end
theorem cat_root (a b : Option AM) (w : List Nat) : Leads (catG a b) w root ↔ ∃ i j, i < j ∧ j ≤ w.length ∧ CutL a b w 0 i ∧ CutL a b w 0 j := cat_leads0 w 0 0

def moves (a : Option AM) (q : Int) (c : Nat) : List Int := stepM a q c :: (if finM a q then [stepM a 0 c] else [])
def iterNext (a : Option AM) (n : Nd) (c : Nat) : List Nd :=
  if n.s = 0 then ⟨0, stepM a n.x c, 0⟩ :: (if finM a n.x then [⟨1, stepM a 0 c, stepM a n.x c⟩] else [])
  else (moves a n.x c).flatMap fun x => (moves a n.y c).map fun y => ⟨1, x, y⟩
def iterEnds (a : Option AM) (n : Nd) : Bool := n.s == 1 && finM a n.x && finM a n.y
def iterG (a : Option AM) : Gr := ⟨iterNext a, iterEnds a⟩
/-- From state q on w ends a list of members. -/
def StarL (a : Option AM) : List Nat → Int → Prop
  | [], q => finM a q = true
  | c :: w, q => StarL a w (stepM a q c) ∨ (finM a q = true ∧ StarL a w (stepM a 0 c))
section
variable {a : Option AM}
theorem mem_moves {q : Int} {c : Nat} {t : Int} : t ∈ moves a q c ↔ t = stepM a q c ∨ (finM a q = true ∧ t = stepM a 0 c) := by
  unfold moves
  rw [List.mem_cons]
  cases h : finM a q <;> simp
theorem star_cons {c : Nat} {w : List Nat} {q : Int} : StarL a (c :: w) q ↔ ∃ t ∈ moves a q c, StarL a w t := by
  constructor
  · rintro (h | ⟨h1, h2⟩)
    · exact ⟨_, mem_moves.2 (.inl rfl), h⟩
    · exact ⟨_, mem_moves.2 (.inr ⟨h1, rfl⟩), h2⟩
  · rintro ⟨t, ht, h⟩
    rcases mem_moves.1 ht with rfl | ⟨h1, rfl⟩
    · exact .inl h
    · exact .inr ⟨h1, h⟩
theorem iter_next0 {x y : Int} {c : Nat} {t : Nd} : t ∈ (iterG a).next ⟨0, x, y⟩ c ↔ t = ⟨0, stepM a x c, 0⟩ ∨ (finM a x = true ∧ t = ⟨1, stepM a 0 c, stepM a x c⟩) := by
  show t ∈ iterNext a ⟨0, x, y⟩ c ↔ _
  unfold iterNext
  rw [if_pos rfl, List.mem_cons]
  cases h : finM a x <;> simp
theorem iter_next1 {x y : Int} {c : Nat} {t : Nd} : t ∈ (iterG a).next ⟨1, x, y⟩ c ↔ ∃ p ∈ moves a x c, ∃ q ∈ moves a y c, t = ⟨1, p, q⟩ := by
  show t ∈ iterNext a ⟨1, x, y⟩ c ↔ _
  unfold iterNext
  rw [if_neg (show ¬ (1 : Int) = 0 by decide), List.mem_flatMap]
  simp only [List.mem_map]
  constructor
  · rintro ⟨p, hp, q, hq, e⟩; exact ⟨p, hp, q, hq, e.symm⟩
  · rintro ⟨p, hp, q, hq, e⟩; exact ⟨p, hp, q, hq, e.symm⟩
theorem iter_leads1 : ∀ (w : List Nat) (x y : Int), Leads (iterG a) w ⟨1, x, y⟩ ↔ StarL a w x ∧ StarL a w y
  | [], x, y => by
    show iterEnds a ⟨1, x, y⟩ = true ↔ finM a x = true ∧ finM a y = true
    unfold iterEnds
    simp
  | c :: w, x, y => by
    rw [star_cons, star_cons]
    constructor
    · rintro ⟨t, ht, h⟩
      obtain ⟨p, hp, q, hq, rfl⟩ := iter_next1.1 ht
      obtain ⟨h1, h2⟩ := (iter_leads1 w _ _).1 h
      exact ⟨⟨p, hp, h1⟩, q, hq, h2⟩
    · rintro ⟨⟨p, hp, h1⟩, q, hq, h2⟩
      exact ⟨_, iter_next1.2 ⟨p, hp, q, hq, rfl⟩, (iter_leads1 w _ _).2 ⟨h1, h2⟩⟩
theorem iter_leads0 : ∀ (w : List Nat) (x y : Int), Leads (iterG a) w ⟨0, x, y⟩ ↔ ∃ i c r, w.drop i = c :: r ∧ finM a (runL a (w.take i) x) = true ∧ StarL a r (stepM a 0 c) ∧ StarL a r (stepM a (runL a (w.take i) x) c)
  | [], x, y => by
    show iterEnds a ⟨0, x, y⟩ = true ↔ _
    unfold iterEnds
    constructor
    · exact fun h => by simp at h
    · rintro ⟨i, c, r, h, -⟩; simp at h
  | d :: w, x, y => by
    constructor
    · rintro ⟨t, ht, h⟩
      rcases iter_next0.1 ht with rfl | ⟨hf, rfl⟩
      · obtain ⟨i, c, r, h1, h2, h3, h4⟩ := (iter_leads0 w _ _).1 h
        exact ⟨i + 1, c, r, h1, h2, h3, h4⟩
      · obtain ⟨h1, h2⟩ := (iter_leads1 w _ _).1 h
        exact ⟨0, d, w, rfl, hf, h1, h2⟩
    · rintro ⟨i, c, r, h1, h2, h3, h4⟩
      cases i with
      | zero =>
        obtain ⟨rfl, rfl⟩ : d = c ∧ w = r := by simpa using h1
        exact ⟨_, iter_next0.2 (.inr ⟨h2, rfl⟩), (iter_leads1 w _ _).2 ⟨h3, h4⟩⟩
      | succ i => exact ⟨_, iter_next0.2 (.inl rfl), (iter_leads0 w _ _).2 ⟨i, c, r, h1, h2, h3, h4⟩⟩
end
end Go.Proofs.Ytpnnedkpbmilkaa
