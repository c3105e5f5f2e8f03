/- Parts of the proof: PGr, PFst, PAmbC, PCatI, PCel2, PBoth, PGam0, PMeg, PDDt, PAtEq -/
import Derived.Test.YthomdogheamfpaaDoorKS6
import Derived.Test.YthomdogheamfpaaDoorKS4
import Derived.Test.YthomdogheamfpaaDoorKS2
import Derived.Test.YthomdogheamfpaaDoorKS1
import Derived.Test.YthomdogheamfpaaDoorKS5
/- Graphs of nodes with ends: the least word that leads to an end; plain law. -/
set_option linter.unusedVariables false
set_option linter.unusedSimpArgs false
namespace Go.Proofs.YthomdogheamfpaaDoor

structure Gr where
  next : Nd → Nat → List Nd
  ends : Nd → Bool
/-- The word w leads from n to an end. -/
def Leads (g : Gr) : List Nat → Nd → Prop
  | [], n => g.ends n = true
  | b :: w, n => ∃ t, t ∈ g.next n b ∧ Leads g w t
/-- .. from some node of P. -/
def LeadsP (g : Gr) (P : Nd → Prop) (w : List Nat) : Prop := ∃ n, P n ∧ Leads g w n
def stepP (g : Gr) (P : Nd → Prop) (b : Nat) : Nd → Prop := fun t => ∃ n, P n ∧ t ∈ g.next n b
theorem leadsP_cons {g : Gr} {P : Nd → Prop} {b : Nat} {w : List Nat} : LeadsP g P (b :: w) ↔ LeadsP g (stepP g P b) w :=
  ⟨fun ⟨n, hn, t, ht, hw⟩ => ⟨t, ⟨n, hn, ht⟩, hw⟩, fun ⟨t, ⟨n, hn, ht⟩, hw⟩ => ⟨n, hn, t, ht, hw⟩⟩
/-- Words of one length: no later in order. -/
def lexL : List Nat → List Nat → Prop
  | a :: s, b :: t => a < b ∨ (a = b ∧ lexL s t)
  | _, _ => True
theorem lexL_anti : ∀ {s t : List Nat}, s.length = t.length → lexL s t → lexL t s → s = t
  | [], [], _, _, _ => rfl
  | [], _ :: _, h, _, _ => by simp at h
  | _ :: _, [], h, _, _ => by simp at h
  | a :: s, b :: t, h, h1, h2 => by
    simp only [List.length_cons, Nat.add_right_cancel_iff] at h
    rcases h1 with h1 | ⟨h1, h3⟩ <;> rcases h2 with h2 | ⟨h2, h4⟩
    · omega
    · omega
    · omega
    · rw [h1, lexL_anti h h3 h4]
def bytes_ (w : List Nat) : Prop := ∀ b ∈ w, b < 256
/-- Of the words of k bytes that lead from P to an end w is the first. -/
def FirstOf (g : Gr) (P : Nd → Prop) (k : Nat) (w : List Nat) : Prop := w.length = k ∧ bytes_ w ∧ LeadsP g P w ∧ ∀ u, u.length = k → bytes_ u → LeadsP g P u → lexL w u
theorem FirstOf.nil {g : Gr} {P : Nd → Prop} {n : Nd} (hn : P n) (he : g.ends n = true) : FirstOf g P 0 [] :=
  ⟨rfl, (fun b hb => by cases hb), ⟨n, hn, he⟩, fun u hu _ _ => by unfold lexL; cases u <;> trivial⟩
theorem FirstOf.cons {g : Gr} {P : Nd → Prop} {k b : Nat} {w : List Nat} (hb : b < 256) (h : FirstOf g (stepP g P b) k w) (hno : ∀ c, c < b → ∀ u, u.length = k → bytes_ u → ¬ LeadsP g (stepP g P c) u) : FirstOf g P (k + 1) (b :: w) := by
  obtain ⟨h1, h2, h3, h4⟩ := h
  refine ⟨by rw [List.length_cons, h1], fun c hc => ?_, leadsP_cons.2 h3, fun u hu hub hul => ?_⟩
  · rcases List.mem_cons.1 hc with rfl | hc
    · exact hb
    · exact h2 c hc
  · cases u with
    | nil => simp at hu
    | cons c u =>
      have hu' : u.length = k := by simpa using hu
      have hub' : bytes_ u := fun d hd => hub d (List.mem_cons_of_mem _ hd)
      have hul' := leadsP_cons.1 hul
      unfold lexL
      rcases Nat.lt_trichotomy b c with h | h | h
      · exact .inl h
      · subst h; exact .inr ⟨rfl, h4 u hu' hub' hul'⟩
      · exact absurd hul' (hno c h u hu' hub')
/-- The first word of all: the shortest ones come first. -/
def FirstW (g : Gr) (P : Nd → Prop) (w : List Nat) : Prop := FirstOf g P w.length w ∧ ∀ u, bytes_ u → LeadsP g P u → w.length ≤ u.length
theorem FirstW.uniq {g : Gr} {P : Nd → Prop} {w v : List Nat} (h : FirstW g P w) (k : FirstW g P v) : w = v := by
  obtain ⟨⟨h1, h2, h3, h4⟩, h5⟩ := h
  obtain ⟨⟨k1, k2, k3, k4⟩, k5⟩ := k
  have e : w.length = v.length := Nat.le_antisymm (h5 v k2 k3) (k5 w h2 h3)
  exact lexL_anti e (h4 v e.symm k2 k3) (k4 w e h2 h3)
/-- Where bytes step as the least ones of their kind do, words over these tell all. -/
theorem leads_reps {g : Gr} {by_ : List Nat} (hby : ∀ c, c < 256 → ∃ r ∈ by_, r ≤ c ∧ ∀ n, g.next n r = g.next n c) : ∀ {w : List Nat} {n : Nd}, bytes_ w → Leads g w n → ∃ v, v.length = w.length ∧ (∀ b ∈ v, b ∈ by_) ∧ Leads g v n
  | [], n, _, h => ⟨[], rfl, (fun b hb => by cases hb), h⟩
  | c :: w, n, hb, ⟨t, ht, hw⟩ => by
    obtain ⟨v, h1, h2, h3⟩ := leads_reps hby (fun d hd => hb d (List.mem_cons_of_mem _ hd)) hw
    obtain ⟨r, hr, -, hs⟩ := hby c (hb c List.mem_cons_self)
    exact ⟨r :: v, by simp [h1], fun d hd => by
      rcases List.mem_cons.1 hd with rfl | hd
      · exact hr
      · exact h2 d hd, t, by rw [hs]; exact ht, h3⟩
end Go.Proofs.YthomdogheamfpaaDoor

/- Graphs of nodes: how far it is to an end; plain law. -/
set_option linter.unusedVariables false
set_option linter.unusedSimpArgs false
namespace Go.Proofs.YthomdogheamfpaaDoor

/-- What can be reached from a by the bytes of by_. -/
inductive Reach (g : Gr) (by_ : List Nat) (a : Nd) : Nd → Prop
  | refl : Reach g by_ a a
  | step {n t : Nd} {b : Nat} (h : Reach g by_ a n) (hb : b ∈ by_) (ht : t ∈ g.next n b) : Reach g by_ a t
/-- The distances to an end, of all that can be reached. -/
structure DistOk (g : Gr) (by_ : List Nat) (a : Nd) (left : Nd → Option Nat) : Prop where
  ends : ∀ n, Reach g by_ a n → g.ends n = true → left n = some 0
  pred : ∀ n k, left n = some k → ∀ p b, Reach g by_ a p → b ∈ by_ → n ∈ g.next p b → ∃ j, j ≤ k + 1 ∧ left p = some j
  word : ∀ n k, left n = some k → Reach g by_ a n ∧ ∃ w, w.length = k ∧ (∀ b ∈ w, b ∈ by_) ∧ Leads g w n
section
variable {g : Gr} {by_ : List Nat} {a : Nd} {left : Nd → Option Nat}
theorem DistOk.le (h : DistOk g by_ a left) : ∀ {w : List Nat} {n : Nd}, Reach g by_ a n → (∀ b ∈ w, b ∈ by_) → Leads g w n → ∃ j, j ≤ w.length ∧ left n = some j
  | [], n, hr, _, hl => ⟨0, Nat.le_refl _, h.ends n hr hl⟩
  | b :: w, n, hr, hb, ⟨t, ht, hl⟩ => by
    have hbb := hb b List.mem_cons_self
    obtain ⟨j, hj, hlt⟩ := DistOk.le h (hr.step hbb ht) (fun c hc => hb c (List.mem_cons_of_mem _ hc)) hl
    obtain ⟨i, hi, hln⟩ := h.pred t j hlt n b hr hbb ht
    exact ⟨i, by rw [List.length_cons]; omega, hln⟩
variable (hby : ∀ c, c < 256 → ∃ r ∈ by_, r ≤ c ∧ ∀ n, g.next n r = g.next n c)
include hby
/-- .. over all bytes. -/
theorem DistOk.bytes (h : DistOk g by_ a left) {w : List Nat} {n : Nd} (hr : Reach g by_ a n) (hb : bytes_ w) (hl : Leads g w n) : ∃ j, j ≤ w.length ∧ left n = some j := by
  obtain ⟨v, h1, h2, h3⟩ := leads_reps hby hb hl
  rw [← h1]
  exact h.le hr h2 h3
/-- Among nodes at distance k + 1: by b one comes to a node from which k bytes lead to an end just where one comes to a node at distance k. -/
theorem DistOk.fwd (h : DistOk g by_ a left) (hby2 : ∀ b ∈ by_, b < 256) {P : Nd → Prop} {k b : Nat} (hP : ∀ n, P n → left n = some (k + 1)) (hb : b ∈ by_) : (∃ u, u.length = k ∧ bytes_ u ∧ LeadsP g (stepP g P b) u) ↔ ∃ t, stepP g P b t ∧ left t = some k := by
  have hr : ∀ t, stepP g P b t → Reach g by_ a t := fun t ⟨n, hn, ht⟩ => (h.word n _ (hP n hn)).1.step hb ht
  constructor
  · rintro ⟨u, hu, hub, t, ht, hl⟩
    obtain ⟨j, hj, hlt⟩ := h.bytes hby (hr t ht) hub hl
    obtain ⟨n, hn, htn⟩ := ht
    obtain ⟨i, hi, hln⟩ := h.pred t j hlt n b (h.word n _ (hP n hn)).1 hb htn
    rw [hP n hn] at hln
    injection hln with hln
    have : j = k := by omega
    exact ⟨t, ⟨n, hn, htn⟩, this ▸ hlt⟩
  · rintro ⟨t, ht, hlt⟩
    obtain ⟨-, w, h1, h2, h3⟩ := h.word t k hlt
    exact ⟨w, h1, fun c hc => hby2 c (h2 c hc), t, ht, h3⟩
/-- The first word from a node at distance k has k bytes. -/
theorem DistOk.first (h : DistOk g by_ a left) {k : Nat} {w : List Nat} (hl : left a = some k) (hw : FirstOf g (· = a) k w) : FirstW g (· = a) w := by
  obtain ⟨h1, h2, h3, h4⟩ := hw
  subst h1
  refine ⟨⟨rfl, h2, h3, h4⟩, fun u hu hul => ?_⟩
  obtain ⟨n, rfl, hn⟩ := hul
  obtain ⟨j, hj, hlj⟩ := h.bytes hby .refl hu hn
  rw [hl] at hlj
  injection hlj with hlj
  omega
theorem DistOk.none (h : DistOk g by_ a left) (hl : left a = none) : ∀ u, bytes_ u → ¬ LeadsP g (· = a) u := by
  rintro u hu ⟨n, rfl, hn⟩
  obtain ⟨j, -, hlj⟩ := h.bytes hby .refl hu hn
  rw [hl] at hlj
  cases hlj
end
end Go.Proofs.YthomdogheamfpaaDoor

/- Distances to an end by a queue, from the ends back; plain law. -/
set_option linter.unusedVariables false
set_option linter.unusedSimpArgs false
namespace Go.Proofs.YthomdogheamfpaaDoor
open Go.VC
/-- What leads to n. -/
def PredsOk (g : Gr) (by_ : List Nat) (a n : Nd) (left : Nd → Option Nat) (k : Nat) : Prop := ∀ p b, Reach g by_ a p → b ∈ by_ → n ∈ g.next p b → ∃ j, j ≤ k + 1 ∧ left p = some j
/-- The queue, no element out; k is the least distance that it may still hold. -/
structure BInv (g : Gr) (by_ : List Nat) (a : Nd) (left : Nd → Option Nat) (todo : List Nd) (k : Nat) : Prop where
  ends : ∀ n, Reach g by_ a n → g.ends n = true → left n = some 0
  word : ∀ n j, left n = some j → Reach g by_ a n ∧ ∃ w, w.length = j ∧ (∀ b ∈ w, b ∈ by_) ∧ Leads g w n
  q : ∀ n ∈ todo, ∃ j, left n = some j ∧ k ≤ j
  up : ∀ n j, left n = some j → j ≤ k + 1
  sorted : todo.Pairwise fun n p => ∀ i j, left n = some i → left p = some j → i ≤ j
  done : ∀ n j, left n = some j → n ∉ todo → PredsOk g by_ a n left j
/-- .. element n, at distance k, is out; those that lead to it are gone through: what holds of d is done. -/
structure BMid (g : Gr) (by_ : List Nat) (a : Nd) (left : Nd → Option Nat) (todo : List Nd) (n : Nd) (k : Nat) (d : Nd → Prop) : Prop where
  ends : ∀ n, Reach g by_ a n → g.ends n = true → left n = some 0
  word : ∀ n j, left n = some j → Reach g by_ a n ∧ ∃ w, w.length = j ∧ (∀ b ∈ w, b ∈ by_) ∧ Leads g w n
  here : left n = some k
  q : ∀ n ∈ todo, ∃ j, left n = some j ∧ k ≤ j
  up : ∀ n j, left n = some j → j ≤ k + 1
  sorted : todo.Pairwise fun n p => ∀ i j, left n = some i → left p = some j → i ≤ j
  done : ∀ m j, left m = some j → m ∉ todo → m ≠ n → PredsOk g by_ a m left j
  now : ∀ p, d p → ∃ j, j ≤ k + 1 ∧ left p = some j
section
variable {g : Gr} {by_ : List Nat} {a n p : Nd} {left : Nd → Option Nat} {todo : List Nd} {k : Nat} {d : Nd → Prop}
theorem BInv.end_ (h : BInv g by_ a left [] k) : DistOk g by_ a left := ⟨h.ends, fun n j hj => h.done n j hj (by simp), h.word⟩
theorem BInv.take (h : BInv g by_ a left (n :: todo) k) : ∃ j, left n = some j ∧ BMid g by_ a left todo n j fun _ => False := by
  obtain ⟨j, hj, hkj⟩ := h.q n List.mem_cons_self
  obtain ⟨s1, s2⟩ := List.pairwise_cons.1 h.sorted
  refine ⟨j, hj, h.ends, h.word, hj, fun m hm => ?_, fun m i hi => by have := h.up m i hi; omega, s2, fun m i hi hm hne => h.done m i hi fun hm' => ?_, fun p hp => hp.elim⟩
  · obtain ⟨i, hi, -⟩ := h.q m (List.mem_cons_of_mem _ hm)
    exact ⟨i, hi, s1 m hm j i hj hi⟩
  · rcases List.mem_cons.1 hm' with h | h
    · exact hne h
    · exact hm h
theorem BMid.skip (h : BMid g by_ a left todo n k d) (hp : (left p).isSome = true) : BMid g by_ a left todo n k fun x => d x ∨ x = p := by
  refine ⟨h.ends, h.word, h.here, h.q, h.up, h.sorted, h.done, fun x hx => ?_⟩
  rcases hx with hx | rfl
  · exact h.now x hx
  · obtain ⟨j, hj⟩ := Option.isSome_iff_exists.1 hp
    exact ⟨j, h.up _ j hj, hj⟩
theorem BMid.push {left' : Nd → Option Nat} (h : BMid g by_ a left todo n k d) (hp : left p = none) (hr : Reach g by_ a p) {b : Nat} (hb : b ∈ by_) (hn : n ∈ g.next p b) (hl : ∀ m, left' m = if m = p then some (k + 1) else left m) : BMid g by_ a left' (todo ++ [p]) n k fun x => d x ∨ x = p := by
  have old : ∀ m j, left m = some j → left' m = some j := fun m j hj => by
    rw [hl, if_neg (fun e => by rw [e, hp] at hj; cases hj)]; exact hj
  have hpp : left' p = some (k + 1) := by rw [hl, if_pos rfl]
  have new : ∀ m j, left' m = some j → (m = p ∧ j = k + 1) ∨ left m = some j := fun m j hj => by
    rw [hl] at hj
    split at hj
    · rename_i e; injection hj with hj; exact .inl ⟨e, hj.symm⟩
    · exact .inr hj
  have pk : ∀ m j, PredsOk g by_ a m left j → PredsOk g by_ a m left' j := fun m j hm q c h1 h2 h3 => by
    obtain ⟨i, hi, hq⟩ := hm q c h1 h2 h3
    exact ⟨i, hi, old q i hq⟩
  refine ⟨fun m h1 h2 => old m 0 (h.ends m h1 h2), fun m j hj => ?_, old n k h.here, fun m hm => ?_, fun m j hj => ?_, ?_, fun m j hj hm hne => ?_, fun x hx => ?_⟩
  · rcases new m j hj with ⟨rfl, rfl⟩ | hj
    · obtain ⟨-, w, h1, h2, h3⟩ := h.word n k h.here
      exact ⟨hr, b :: w, by simp [h1], fun c hc => by
        rcases List.mem_cons.1 hc with rfl | hc
        · exact hb
        · exact h2 c hc, n, hn, h3⟩
    · exact h.word m j hj
  · rcases List.mem_append.1 hm with hm | hm
    · obtain ⟨j, hj, hk⟩ := h.q m hm
      exact ⟨j, old m j hj, hk⟩
    · rw [List.mem_singleton] at hm
      subst hm
      exact ⟨k + 1, hpp, by omega⟩
  · rcases new m j hj with ⟨-, rfl⟩ | hj
    · exact Nat.le_refl _
    · exact h.up m j hj
  · refine List.pairwise_append.2 ⟨?_, List.pairwise_singleton _ _, fun m hm m' hm' i j hi hj => ?_⟩
    · refine (List.Pairwise.and_mem.1 h.sorted).imp fun {m m'} hmm i j hi hj => ?_
      obtain ⟨hm, hm', hs⟩ := hmm
      obtain ⟨i', hi', -⟩ := h.q m hm
      obtain ⟨j', hj', -⟩ := h.q m' hm'
      have e1 := old m i' hi'
      have e2 := old m' j' hj'
      rw [hi] at e1; rw [hj] at e2
      injection e1 with e1; injection e2 with e2
      subst e1; subst e2
      exact hs i j hi' hj'
    · rw [List.mem_singleton] at hm'
      subst hm'
      rw [hpp] at hj
      injection hj with hj
      subst hj
      obtain ⟨i', hi', -⟩ := h.q m hm
      have e1 := old m i' hi'
      rw [hi] at e1
      injection e1 with e1
      subst e1
      exact h.up m i hi'
  · rcases new m j hj with ⟨rfl, rfl⟩ | hj
    · exact absurd (List.mem_append.2 (.inr (List.mem_singleton.2 rfl))) hm
    · exact pk m j (h.done m j hj (fun hm' => hm (List.mem_append.2 (.inl hm'))) hne)
  · rcases hx with hx | rfl
    · obtain ⟨j, h1, h2⟩ := h.now x hx
      exact ⟨j, h1, old x j h2⟩
    · exact ⟨k + 1, Nat.le_refl _, hpp⟩
theorem BMid.end_ (h : BMid g by_ a left todo n k d) (hall : ∀ p b, Reach g by_ a p → b ∈ by_ → n ∈ g.next p b → d p) : BInv g by_ a left todo k := by
  refine ⟨h.ends, h.word, h.q, h.up, h.sorted, fun m j hj hm => ?_⟩
  by_cases hmn : m = n
  · subst hmn
    rw [h.here] at hj
    injection hj with hj
    subst hj
    exact fun p b h1 h2 h3 => h.now p (hall p b h1 h2 h3)
  · exact h.done m j hj hm hmn
/-- The beginning: the ends are in the queue. -/
theorem BInv.start (h1 : ∀ n, left n = if n ∈ todo then some 0 else none) (h2 : ∀ n, n ∈ todo ↔ Reach g by_ a n ∧ g.ends n = true) : BInv g by_ a left todo 0 := by
  have e : ∀ n j, left n = some j → n ∈ todo ∧ j = 0 := fun n j hj => by
    rw [h1] at hj
    split at hj
    · rename_i h; injection hj with hj; exact ⟨h, hj.symm⟩
    · cases hj
  refine ⟨fun n hr he => by rw [h1, if_pos ((h2 n).2 ⟨hr, he⟩)], fun n j hj => ?_, fun n hn => ⟨0, by rw [h1, if_pos hn], Nat.le_refl _⟩, fun n j hj => by rw [(e n j hj).2]; omega, List.pairwise_of_forall fun n p i j hi hj => by rw [(e n i hi).2]; omega, fun n j hj hn => absurd (e n j hj).1 hn⟩
  obtain ⟨hn, rfl⟩ := e n j hj
  exact ⟨((h2 n).1 hn).1, [], rfl, (fun b hb => by cases hb), ((h2 n).1 hn).2⟩
end
end Go.Proofs.YthomdogheamfpaaDoor

/- All that can be reached, in the order in which it is found, and what leads to it; plain law. -/
set_option linter.unusedVariables false
set_option linter.unusedSimpArgs false
namespace Go.Proofs.YthomdogheamfpaaDoor
/-- The nodes found so far; bk t p: p is listed as one that leads to t; what holds of d has been gone through. -/
structure RInv (g : Gr) (by_ : List Nat) (a : Nd) (order : List Nd) (bk : Nd → Nd → Prop) (d : Nd → Nat → Nd → Prop) : Prop where
  first : order[0]? = some a
  nodup : order.Nodup
  reach : ∀ n ∈ order, Reach g by_ a n
  back : ∀ t p, bk t p → Reach g by_ a p ∧ ∃ b, b ∈ by_ ∧ t ∈ g.next p b
  done : ∀ n b t, d n b t → t ∈ order ∧ bk t n
section
variable {g : Gr} {by_ : List Nat} {a n t : Nd} {b : Nat} {order : List Nd} {bk bk' : Nd → Nd → Prop} {d : Nd → Nat → Nd → Prop}
theorem RInv.start : RInv g by_ a [a] (fun _ _ => False) fun _ _ _ => False :=
  ⟨rfl, by simp, fun n hn => by rw [List.mem_singleton] at hn; subst hn; exact .refl, fun _ _ h => h.elim, fun _ _ _ h => h.elim⟩
/-- One that was there, or is new. -/
theorem RInv.see (h : RInv g by_ a order bk d) (hn : n ∈ order) (hb : b ∈ by_) (ht : t ∈ g.next n b) (hk : ∀ x p, bk' x p ↔ bk x p ∨ (x = t ∧ p = n)) : ∀ order', (t ∈ order ∧ order' = order) ∨ (t ∉ order ∧ order' = order ++ [t]) → RInv g by_ a order' bk' fun m c x => d m c x ∨ (m = n ∧ c = b ∧ x = t) := by
  intro order' ho
  have sub : ∀ x, x ∈ order → x ∈ order' := fun x hx => by
    rcases ho with ⟨-, rfl⟩ | ⟨-, rfl⟩
    · exact hx
    · exact List.mem_append.2 (.inl hx)
  have hin : t ∈ order' := by
    rcases ho with ⟨h, rfl⟩ | ⟨-, rfl⟩
    · exact h
    · simp
  refine ⟨?_, ?_, fun x hx => ?_, fun x p hp => ?_, fun m c x hx => ?_⟩
  · rcases ho with ⟨-, rfl⟩ | ⟨-, rfl⟩
    · exact h.first
    · rw [List.getElem?_append_left (List.getElem?_eq_some_iff.1 h.first).1]; exact h.first
  · rcases ho with ⟨-, rfl⟩ | ⟨hno, rfl⟩
    · exact h.nodup
    · refine List.nodup_append.2 ⟨h.nodup, by simp, fun x hx y hy => ?_⟩
      rw [List.mem_singleton] at hy
      subst hy
      exact fun e => hno (e ▸ hx)
  · rcases ho with ⟨-, rfl⟩ | ⟨-, rfl⟩
    · exact h.reach x hx
    · rcases List.mem_append.1 hx with hx | hx
      · exact h.reach x hx
      · rw [List.mem_singleton] at hx
        subst hx
        exact (h.reach n hn).step hb ht
  · rcases (hk x p).1 hp with hp | ⟨rfl, rfl⟩
    · exact h.back x p hp
    · exact ⟨h.reach p hn, b, hb, ht⟩
  · rcases hx with hx | ⟨rfl, rfl, rfl⟩
    · obtain ⟨h1, h2⟩ := h.done m c x hx
      exact ⟨sub x h1, (hk x m).2 (.inl h2)⟩
    · exact ⟨hin, (hk x m).2 (.inr ⟨rfl, rfl⟩)⟩
theorem RInv.weak {d' : Nd → Nat → Nd → Prop} (h : RInv g by_ a order bk d) (k : ∀ n b t, d' n b t → d n b t) : RInv g by_ a order bk d' :=
  ⟨h.first, h.nodup, h.reach, h.back, fun n b t hd => h.done n b t (k n b t hd)⟩
/-- All is found. -/
theorem RInv.all (h : RInv g by_ a order bk d) (hall : ∀ n b t, n ∈ order → b ∈ by_ → t ∈ g.next n b → d n b t) : (∀ n, n ∈ order ↔ Reach g by_ a n) ∧ ∀ t p, bk t p ↔ Reach g by_ a p ∧ ∃ b, b ∈ by_ ∧ t ∈ g.next p b := by
  have key : ∀ n, Reach g by_ a n → n ∈ order := fun n hn => by
    induction hn with
    | refl => exact List.mem_of_getElem? h.first
    | step hr hb ht ih => exact (h.done _ _ _ (hall _ _ _ ih hb ht)).1
  exact ⟨fun n => ⟨h.reach n, key n⟩, fun t p => ⟨h.back t p, fun ⟨hp, b, hb, ht⟩ => (h.done p b t (hall p b t (key p hp) hb ht)).2⟩⟩
end
end Go.Proofs.YthomdogheamfpaaDoor

/- Rows of nodes, each with the least word of one length that leads to it; plain law. -/
set_option linter.unusedVariables false
set_option linter.unusedSimpArgs false
namespace Go.Proofs.YthomdogheamfpaaDoor

/-! ### the order -/
theorem lexL_refl : ∀ u : List Nat, lexL u u
  | [] => by unfold lexL; trivial
  | a :: u => by unfold lexL; exact .inr ⟨rfl, lexL_refl u⟩
theorem lexL_trans : ∀ {u v w : List Nat}, u.length = v.length → v.length = w.length → lexL u v → lexL v w → lexL u w
  | [], _, _, _, _, _, _ => by unfold lexL; trivial
  | a :: u, [], _, h, _, _, _ => by simp at h
  | a :: u, b :: v, [], _, h, _, _ => by simp at h
  | a :: u, b :: v, c :: w, h1, h2, h3, h4 => by
    simp only [List.length_cons, Nat.add_right_cancel_iff] at h1 h2
    unfold lexL at h3 h4 ⊢
    rcases h3 with h3 | ⟨rfl, h3⟩ <;> rcases h4 with h4 | ⟨rfl, h4⟩
    · exact .inl (Nat.lt_trans h3 h4)
    · exact .inl h3
    · exact .inl h4
    · exact .inr ⟨rfl, lexL_trans h1 h2 h3 h4⟩
theorem lexL_total : ∀ {u v : List Nat}, ¬ lexL u v → lexL v u
  | [], v, h => absurd (by unfold lexL; trivial) h
  | a :: u, [], _ => by unfold lexL; trivial
  | a :: u, b :: v, h => by
    unfold lexL at h ⊢
    rcases Nat.lt_trichotomy a b with k | k | k
    · exact absurd (.inl k) h
    · exact .inr ⟨k.symm, lexL_total fun hh => h (.inr ⟨k, hh⟩)⟩
    · exact .inl k
theorem lexL_snoc : ∀ {u v : List Nat} (b : Nat), u.length = v.length → lexL u v → lexL (u ++ [b]) (v ++ [b])
  | [], [], b, _, _ => lexL_refl _
  | [], _ :: _, _, h, _ => by simp at h
  | _ :: _, [], _, h, _ => by simp at h
  | a :: u, c :: v, b, h, h1 => by
    unfold lexL at h1
    show lexL (a :: (u ++ [b])) (c :: (v ++ [b]))
    unfold lexL
    rcases h1 with h1 | ⟨rfl, h1⟩
    · exact .inl h1
    · exact .inr ⟨rfl, lexL_snoc b (by simpa using h) h1⟩

/-! ### ways -/
/-- w leads from n to t. -/
def To (g : Gr) : List Nat → Nd → Nd → Prop
  | [], n, t => n = t
  | b :: w, n, t => ∃ m, m ∈ g.next n b ∧ To g w m t
theorem to_snoc {g : Gr} {b : Nat} {t : Nd} : ∀ {w : List Nat} {n : Nd}, To g (w ++ [b]) n t ↔ ∃ m, To g w n m ∧ t ∈ g.next m b
  | [], n => by
    constructor
    · rintro ⟨m, hm, h⟩
      obtain rfl : m = t := h
      exact ⟨n, rfl, hm⟩
    · rintro ⟨m, h, ht⟩
      obtain rfl : n = m := h
      exact ⟨t, ht, rfl⟩
  | c :: w, n => by
    constructor
    · rintro ⟨m, hm, h⟩
      obtain ⟨p, h1, h2⟩ := to_snoc.1 h
      exact ⟨p, ⟨m, hm, h1⟩, h2⟩
    · rintro ⟨p, ⟨m, hm, h1⟩, h2⟩
      exact ⟨m, hm, to_snoc.2 ⟨p, h1, h2⟩⟩
theorem leads_to {g : Gr} : ∀ {w : List Nat} {n : Nd}, Leads g w n ↔ ∃ t, To g w n t ∧ g.ends t = true
  | [], n => ⟨fun h => ⟨n, rfl, h⟩, fun ⟨t, h, k⟩ => by obtain rfl : n = t := h; exact k⟩
  | b :: w, n => by
    constructor
    · rintro ⟨m, hm, h⟩
      obtain ⟨t, h1, h2⟩ := leads_to.1 h
      exact ⟨t, ⟨m, hm, h1⟩, h2⟩
    · rintro ⟨t, ⟨m, hm, h1⟩, h2⟩
      exact ⟨m, hm, leads_to.2 ⟨t, h1, h2⟩⟩
theorem reach_to {g : Gr} {by_ : List Nat} {a n : Nd} (h : Reach g by_ a n) : ∃ w, (∀ b ∈ w, b ∈ by_) ∧ To g w a n := by
  induction h with
  | refl => exact ⟨[], (fun b hb => by cases hb), rfl⟩
  | step hr hb ht ih =>
    rename_i n t b
    obtain ⟨w, h1, h2⟩ := ih
    refine ⟨w ++ [b], fun c hc => ?_, to_snoc.2 ⟨n, h2, ht⟩⟩
    rcases List.mem_append.1 hc with hc | hc
    · exact h1 c hc
    · rw [List.mem_singleton] at hc; subst hc; exact hb
theorem to_reach {g : Gr} {by_ : List Nat} {a t : Nd} : ∀ {w : List Nat} {n : Nd}, Reach g by_ a n → (∀ b ∈ w, b ∈ by_) → To g w n t → Reach g by_ a t
  | [], n, hr, _, h => by obtain rfl : n = t := h; exact hr
  | b :: w, n, hr, hb, ⟨m, hm, h⟩ => to_reach (hr.step (hb b List.mem_cons_self) hm) (fun c hc => hb c (List.mem_cons_of_mem _ hc)) h
/-- Over the least bytes of their kinds a word is no later. -/
theorem leads_less {g : Gr} {by_ : List Nat} (hby : ∀ c, c < 256 → ∃ r ∈ by_, r ≤ c ∧ ∀ n, g.next n r = g.next n c) : ∀ {w : List Nat} {n : Nd}, bytes_ w → Leads g w n → ∃ v, v.length = w.length ∧ (∀ b ∈ v, b ∈ by_) ∧ Leads g v n ∧ lexL v w
  | [], n, _, h => ⟨[], rfl, (fun b hb => by cases hb), h, lexL_refl _⟩
  | c :: w, n, hb, ⟨t, ht, hw⟩ => by
    obtain ⟨v, h1, h2, h3, h4⟩ := leads_less hby (fun d hd => hb d (List.mem_cons_of_mem _ hd)) hw
    obtain ⟨r, hr, hrc, hs⟩ := hby c (hb c List.mem_cons_self)
    refine ⟨r :: v, by simp [h1], fun d hd => ?_, ⟨t, by rw [hs]; exact ht, h3⟩, ?_⟩
    · rcases List.mem_cons.1 hd with rfl | hd
      · exact hr
      · exact h2 d hd
    · unfold lexL
      rcases Nat.lt_or_eq_of_le hrc with h | h
      · exact .inl h
      · exact .inr ⟨h, h4⟩

/-! ### rows -/
abbrev NW := Nd × List Nat
structure RowOk (g : Gr) (by_ : List Nat) (a : Nd) (L : Nat) (F : List NW) : Prop where
  nd : (F.map (·.1)).Nodup
  ok : ∀ x ∈ F, x.2.length = L ∧ (∀ b ∈ x.2, b ∈ by_) ∧ To g x.2 a x.1
  all : ∀ w t, w.length = L → (∀ b ∈ w, b ∈ by_) → To g w a t → ∃ x ∈ F, x.1 = t ∧ lexL x.2 w
/-- The row of words of one byte more, while it is made: what holds of d has been put in. -/
structure RowMid (g : Gr) (by_ : List Nat) (a : Nd) (L : Nat) (F : List NW) (d : Nd → List Nat → Prop) : Prop where
  nd : (F.map (·.1)).Nodup
  ok : ∀ x ∈ F, x.2.length = L ∧ (∀ b ∈ x.2, b ∈ by_) ∧ To g x.2 a x.1
  all : ∀ t w, d t w → w.length = L → ∃ x ∈ F, x.1 = t ∧ lexL x.2 w
/-- n, with the word w, is put into F; r tells if n is new. -/
def Put (F : List NW) (n : Nd) (w : List Nat) (F' : List NW) (r : Bool) : Prop :=
  (∃ (i : Nat) (u : List Nat), F[i]? = some (n, u) ∧ r = false ∧ ((lexL u w ∧ F' = F) ∨ (¬ lexL u w ∧ F' = F.set i (n, w)))) ∨ ((∀ x ∈ F, x.1 ≠ n) ∧ r = true ∧ F' = F ++ [(n, w)])
section
variable {g : Gr} {by_ : List Nat} {a n t : Nd} {L : Nat} {F F' : List NW} {d d' : Nd → List Nat → Prop} {w : List Nat} {r : Bool}
theorem RowMid.start : RowMid g by_ a L [] fun _ _ => False := ⟨List.nodup_nil, (fun x hx => by cases hx), fun _ _ h _ => h.elim⟩
theorem RowMid.weak (h : RowMid g by_ a L F d) (k : ∀ t w, d' t w → d t w) : RowMid g by_ a L F d' := ⟨h.nd, h.ok, fun t w hd hL => h.all t w (k t w hd) hL⟩
theorem Put.fst (h : Put F n w F' r) : F'.map (·.1) = if r then F.map (·.1) ++ [n] else F.map (·.1) := by
  rcases h with ⟨i, u, hi, rfl, ⟨-, rfl⟩ | ⟨-, rfl⟩⟩ | ⟨-, rfl, rfl⟩
  · rfl
  · rw [List.map_set, if_neg (by decide)]
    apply List.ext_getElem?
    intro j
    by_cases hj : i = j
    · subst hj
      rw [List.getElem?_set_self (by rw [List.length_map]; exact (List.getElem?_eq_some_iff.1 hi).1), List.getElem?_map, hi]; rfl
    · rw [List.getElem?_set_ne hj]
  · simp
theorem RowMid.put (h : RowMid g by_ a L F d) (hw : w.length = L) (hb : ∀ b ∈ w, b ∈ by_) (ht : To g w a t) (hp : Put F t w F' r) : RowMid g by_ a L F' fun x u => d x u ∨ (x = t ∧ u = w) := by
  have hnd : (F'.map (·.1)).Nodup := by
    rw [hp.fst]
    split
    · rename_i hr
      subst hr
      rcases hp with ⟨i, u, -, hr, -⟩ | ⟨hno, -, -⟩
      · cases hr
      · refine List.nodup_append.2 ⟨h.nd, by simp, fun x hx y hy => ?_⟩
        rw [List.mem_singleton] at hy
        subst hy
        obtain ⟨z, hz, rfl⟩ := List.mem_map.1 hx
        exact hno z hz
    · exact h.nd
  rcases hp with ⟨i, u, hi, rfl, ⟨hl, rfl⟩ | ⟨hl, rfl⟩⟩ | ⟨hno, rfl, rfl⟩
  · refine ⟨hnd, h.ok, fun x v hv hvL => ?_⟩
    rcases hv with hv | ⟨rfl, rfl⟩
    · exact h.all x v hv hvL
    · exact ⟨_, List.mem_of_getElem? hi, rfl, hl⟩
  · have hil := (List.getElem?_eq_some_iff.1 hi).1
    have hul := (h.ok _ (List.mem_of_getElem? hi)).1
    have hin : (t, w) ∈ F.set i (t, w) := List.mem_of_getElem? (i := i) (List.getElem?_set_self hil)
    refine ⟨hnd, fun x hx => ?_, fun x v hv hvL => ?_⟩
    · obtain ⟨j, hj⟩ := List.getElem?_of_mem hx
      by_cases hij : i = j
      · subst hij
        rw [List.getElem?_set_self hil] at hj
        cases hj
        exact ⟨hw, hb, ht⟩
      · rw [List.getElem?_set_ne hij] at hj
        exact h.ok x (List.mem_of_getElem? hj)
    · rcases hv with hv | ⟨rfl, rfl⟩
      · obtain ⟨y, hy, e, hlv⟩ := h.all x v hv hvL
        obtain ⟨j, hj⟩ := List.getElem?_of_mem hy
        by_cases hij : i = j
        · subst hij
          rw [hi] at hj
          cases hj
          obtain rfl : t = x := e
          exact ⟨_, hin, rfl, lexL_trans (by rw [hw, hul]) (by rw [hul, hvL]) (lexL_total hl) hlv⟩
        · exact ⟨y, List.mem_of_getElem? (i := j) (by rw [List.getElem?_set_ne hij]; exact hj), e, hlv⟩
      · exact ⟨_, hin, rfl, lexL_refl _⟩
  · refine ⟨hnd, fun x hx => ?_, fun x v hv hvL => ?_⟩
    · rcases List.mem_append.1 hx with hx | hx
      · exact h.ok x hx
      · rw [List.mem_singleton] at hx
        subst hx
        exact ⟨hw, hb, ht⟩
    · rcases hv with hv | ⟨rfl, rfl⟩
      · obtain ⟨y, hy, e, hl⟩ := h.all x v hv hvL
        exact ⟨y, List.mem_append.2 (.inl hy), e, hl⟩
      · exact ⟨_, List.mem_append.2 (.inr (List.mem_singleton.2 rfl)), rfl, lexL_refl _⟩
theorem RowOk.start : RowOk g by_ a 0 [(a, [])] := by
  refine ⟨by simp, fun x hx => ?_, fun w t hw _ ht => ?_⟩
  · rw [List.mem_singleton] at hx
    subst hx
    exact ⟨rfl, fun b hb => (by cases hb), rfl⟩
  · obtain rfl := List.eq_nil_of_length_eq_zero hw
    obtain rfl : a = t := ht
    exact ⟨_, List.mem_singleton.2 rfl, rfl, lexL_refl _⟩
theorem RowOk.next (h : RowOk g by_ a L F) (m : RowMid g by_ a (L + 1) F' fun t u => ∃ x ∈ F, ∃ b ∈ by_, t ∈ g.next x.1 b ∧ u = x.2 ++ [b]) : RowOk g by_ a (L + 1) F' := by
  refine ⟨m.nd, m.ok, fun w t hw hb ht => ?_⟩
  obtain ⟨u, b, rfl⟩ : ∃ u b, w = u ++ [b] := ⟨w.dropLast, w.getLast (by rintro rfl; simp at hw), (List.dropLast_concat_getLast _).symm⟩
  rw [List.length_append, List.length_singleton, Nat.add_right_cancel_iff] at hw
  obtain ⟨n, hn, hnt⟩ := to_snoc.1 ht
  obtain ⟨x, hx, rfl, hl⟩ := h.all u n hw (fun c hc => hb c (List.mem_append.2 (.inl hc))) hn
  have hxl := (h.ok x hx).1
  obtain ⟨y, hy, e, hy2⟩ := m.all t (x.2 ++ [b]) ⟨x, hx, b, hb b (by simp), hnt, rfl⟩ (by simp [hxl])
  refine ⟨y, hy, e, lexL_trans (by rw [(m.ok y hy).1]; simp [hxl]) (by simp [hxl, hw]) hy2 (lexL_snoc b (by rw [hxl, hw]) hl)⟩
/-- No word of fewer bytes leads to an end. -/
def Dry (g : Gr) (a : Nd) (L : Nat) : Prop := ∀ u, bytes_ u → u.length < L → ¬ Leads g u a
variable (hby : ∀ c, c < 256 → ∃ r ∈ by_, r ≤ c ∧ ∀ n, g.next n r = g.next n c)
include hby
theorem RowOk.dry (h : RowOk g by_ a L F) (hd : Dry g a L) (hno : ∀ x ∈ F, g.ends x.1 = false) : Dry g a (L + 1) := by
  intro u hu hul hl
  by_cases hL : u.length < L
  · exact hd u hu hL hl
  · obtain ⟨v, h1, h2, h3, -⟩ := leads_less hby hu hl
    obtain ⟨t, h4, h5⟩ := leads_to.1 h3
    obtain ⟨x, hx, rfl, -⟩ := h.all v t (by omega) h2 h4
    rw [hno x hx] at h5; cases h5
theorem RowOk.found (hby2 : ∀ b ∈ by_, b < 256) (h : RowOk g by_ a L F) (hd : Dry g a L) {x : NW} (hx : x ∈ F) (he : g.ends x.1 = true) (hbest : ∀ y ∈ F, g.ends y.1 = true → lexL x.2 y.2) : FirstW g (· = a) x.2 := by
  obtain ⟨k1, k2, k3⟩ := h.ok x hx
  refine ⟨⟨rfl, fun b hb => hby2 b (k2 b hb), ⟨a, rfl, leads_to.2 ⟨_, k3, he⟩⟩, fun u hu hub hul => ?_⟩, fun u hub hul => ?_⟩
  · obtain ⟨n, rfl, hn⟩ := hul
    obtain ⟨v, h1, h2, h3, h4⟩ := leads_less hby hub hn
    obtain ⟨t, h5, h6⟩ := leads_to.1 h3
    obtain ⟨y, hy, rfl, hl⟩ := h.all v t (by omega) h2 h5
    exact lexL_trans (by rw [k1, (h.ok y hy).1]) (by rw [(h.ok y hy).1]; omega) (hbest y hy h6) (lexL_trans (by rw [(h.ok y hy).1]; omega) h1 hl h4)
  · obtain ⟨n, rfl, hn⟩ := hul
    apply Classical.byContradiction
    intro hlt
    exact hd u hub (by omega) hn
end
end Go.Proofs.YthomdogheamfpaaDoor

/- The graphs of Meets, Cat and Iter, and what their words say; plain law. -/
set_option linter.unusedVariables false
set_option linter.unusedSimpArgs false
namespace Go.Proofs.YthomdogheamfpaaDoor
open Go.VC
/-- Where a word leads. -/
def runL (o : Option AM) (w : List Nat) (q : Int) : Int := w.foldl (fun q b => stepM o q b) q
theorem runL_cons (o : Option AM) (c : Nat) (w : List Nat) (q : Int) : runL o (c :: w) q = runL o w (stepM o q c) := rfl
theorem runL_append (o : Option AM) (u w : List Nat) (q : Int) : runL o (u ++ w) q = runL o w (runL o u q) := by unfold runL; rw [List.foldl_append]
def accL (o : Option AM) (w : List Nat) : Bool := finM o (runL o w 0)
def root : Nd := ⟨0, 0, 0⟩

def meetG (a b : Option AM) : Gr := ⟨fun n c => [⟨0, stepM a n.x c, stepM b n.y c⟩], fun n => finM a n.x && finM b n.y⟩
theorem meet_leads (a b : Option AM) : ∀ (w : List Nat) (s x y : Int), Leads (meetG a b) w ⟨s, x, y⟩ ↔ finM a (runL a w x) = true ∧ finM b (runL b w y) = true
  | [], s, x, y => by
    show (finM a x && finM b y) = true ↔ _
    rw [Bool.and_eq_true]; rfl
  | c :: w, s, x, y => by
    rw [runL_cons, runL_cons, ← meet_leads a b w 0]
    constructor
    · rintro ⟨t, ht, h⟩
      obtain rfl := List.mem_singleton.1 ht
      exact h
    · exact fun h => ⟨_, List.mem_singleton.2 rfl, h⟩
theorem meet_root (a b : Option AM) (w : List Nat) : Leads (meetG a b) w root ↔ accL a w = true ∧ accL b w = true := meet_leads a b w 0 0 0

def catNext (a b : Option AM) (n : Nd) (c : Nat) : List Nd :=
  if n.s = 0 then ⟨0, stepM a n.x c, 0⟩ :: (if finM a n.x then [⟨1, stepM b 0 c, stepM a n.x c⟩] else [])
  else if n.s = 1 then ⟨1, stepM b n.x c, stepM a n.y c⟩ :: (if finM a n.y then [⟨2, stepM b n.x c, stepM b 0 c⟩] else [])
  else [⟨2, stepM b n.x c, stepM b n.y c⟩]
def catEnds (a b : Option AM) (n : Nd) : Bool := if n.s = 1 then finM b n.x && finM a n.y && finM b 0 else if n.s = 2 then finM b n.x && finM b n.y else false
def catG (a b : Option AM) : Gr := ⟨catNext a b, catEnds a b⟩
/-- w is cut behind i bytes. -/
def CutL (a b : Option AM) (w : List Nat) (x : Int) (i : Nat) : Prop := finM a (runL a (w.take i) x) = true ∧ finM b (runL b (w.drop i) 0) = true
theorem cutL_succ (a b : Option AM) (c : Nat) (w : List Nat) (x : Int) (i : Nat) : CutL a b (c :: w) x (i + 1) ↔ CutL a b w (stepM a x c) i := Iff.rfl
theorem cutL_zero (a b : Option AM) (w : List Nat) (x : Int) : CutL a b w x 0 ↔ finM a x = true ∧ finM b (runL b w 0) = true := Iff.rfl
section
variable {a b : Option AM}
theorem cat_next0 {x y : Int} {c : Nat} {t : Nd} : t ∈ (catG a b).next ⟨0, x, y⟩ c ↔ t = ⟨0, stepM a x c, 0⟩ ∨ (finM a x = true ∧ t = ⟨1, stepM b 0 c, stepM a x c⟩) := by
  show t ∈ catNext a b ⟨0, x, y⟩ c ↔ _
  unfold catNext
  rw [if_pos rfl, List.mem_cons]
  cases h : finM a x <;> simp
theorem cat_next1 {x y : Int} {c : Nat} {t : Nd} : t ∈ (catG a b).next ⟨1, x, y⟩ c ↔ t = ⟨1, stepM b x c, stepM a y c⟩ ∨ (finM a y = true ∧ t = ⟨2, stepM b x c, stepM b 0 c⟩) := by
  show t ∈ catNext a b ⟨1, x, y⟩ c ↔ _
  unfold catNext
  rw [if_neg (show ¬ (1 : Int) = 0 by decide), if_pos rfl, List.mem_cons]
  cases h : finM a y <;> simp
theorem cat_next2 {x y : Int} {c : Nat} {t : Nd} : t ∈ (catG a b).next ⟨2, x, y⟩ c ↔ t = ⟨2, stepM b x c, stepM b y c⟩ := by
  show t ∈ catNext a b ⟨2, x, y⟩ c ↔ _
  unfold catNext
  rw [if_neg (show ¬ (2 : Int) = 0 by decide), if_neg (show ¬ (2 : Int) = 1 by decide), List.mem_singleton]
theorem cat_leads2 : ∀ (w : List Nat) (x y : Int), Leads (catG a b) w ⟨2, x, y⟩ ↔ finM b (runL b w x) = true ∧ finM b (runL b w y) = true
  | [], x, y => by
    show catEnds a b ⟨2, x, y⟩ = true ↔ _
    unfold catEnds
    rw [if_neg (show ¬ (2 : Int) = 1 by decide), if_pos rfl, Bool.and_eq_true]; rfl
  | c :: w, x, y => by
    rw [runL_cons, runL_cons, ← cat_leads2 w]
    constructor
    · rintro ⟨t, ht, h⟩
      obtain rfl := cat_next2.1 ht
      exact h
    · exact fun h => ⟨_, cat_next2.2 rfl, h⟩
theorem cat_leads1 : ∀ (w : List Nat) (x y : Int), Leads (catG a b) w ⟨1, x, y⟩ ↔ finM b (runL b w x) = true ∧ ∃ j, j ≤ w.length ∧ CutL a b w y j
  | [], x, y => by
    show catEnds a b ⟨1, x, y⟩ = true ↔ _
    unfold catEnds
    rw [if_pos rfl, Bool.and_eq_true, Bool.and_eq_true]
    constructor
    · rintro ⟨⟨h1, h2⟩, h3⟩
      exact ⟨h1, 0, Nat.le_refl _, h2, h3⟩
    · rintro ⟨h1, j, hj, h2⟩
      obtain rfl : j = 0 := by simpa using hj
      exact ⟨⟨h1, h2.1⟩, h2.2⟩
  | c :: w, x, y => by
    rw [runL_cons]
    constructor
    · rintro ⟨t, ht, h⟩
      rcases cat_next1.1 ht with rfl | ⟨hf, rfl⟩
      · obtain ⟨h1, j, hj, h2⟩ := (cat_leads1 w _ _).1 h
        exact ⟨h1, j + 1, by simpa using hj, h2⟩
      · obtain ⟨h1, h2⟩ := (cat_leads2 w _ _).1 h
        exact ⟨h1, 0, Nat.zero_le _, hf, h2⟩
    · rintro ⟨h1, j, hj, h2⟩
      cases j with
      | zero => exact ⟨_, cat_next1.2 (.inr ⟨h2.1, rfl⟩), (cat_leads2 w _ _).2 ⟨h1, h2.2⟩⟩
      | succ j => exact ⟨_, cat_next1.2 (.inl rfl), (cat_leads1 w _ _).2 ⟨h1, j, by simpa using hj, h2⟩⟩
theorem cat_leads0 : ∀ (w : List Nat) (x y : Int), Leads (catG a b) w ⟨0, x, y⟩ ↔ ∃ i j, i < j ∧ j ≤ w.length ∧ CutL a b w x i ∧ CutL a b w x j
  | [], x, y => by
    show catEnds a b ⟨0, x, y⟩ = true ↔ _
    unfold catEnds
    rw [if_neg (show ¬ (0 : Int) = 1 by decide), if_neg (show ¬ (0 : Int) = 2 by decide)]
    constructor
    · exact fun h => by cases h
    · rintro ⟨i, j, h1, h2, -⟩
      simp at h2
      omega
  | c :: w, x, y => by
    constructor
    · rintro ⟨t, ht, h⟩
      rcases cat_next0.1 ht with rfl | ⟨hf, rfl⟩
      · obtain ⟨i, j, h1, h2, h3, h4⟩ := (cat_leads0 w _ _).1 h
        exact ⟨i + 1, j + 1, by omega, by simpa using h2, h3, h4⟩
      · obtain ⟨h1, j, hj, h2⟩ := (cat_leads1 w _ _).1 h
        exact ⟨0, j + 1, by omega, by simpa using hj, ⟨hf, h1⟩, h2⟩
    · rintro ⟨i, j, h1, h2, h3, h4⟩
      obtain ⟨j, rfl⟩ : ∃ k, j = k + 1 := ⟨j - 1, by omega⟩
      cases i with
      | zero => exact ⟨_, cat_next0.2 (.inr ⟨h3.1, rfl⟩), (cat_leads1 w _ _).2 ⟨h3.2, j, by simpa using h2, h4⟩⟩
      | succ i => exact ⟨_, cat_next0.2 (.inl rfl), (cat_leads0 w _ _).2 ⟨i, j, by omega, by simpa using h2, h3, h4⟩⟩
end
theorem cat_root (a b : Option AM) (w : List Nat) : Leads (catG a b) w root ↔ ∃ i j, i < j ∧ j ≤ w.length ∧ CutL a b w 0 i ∧ CutL a b w 0 j := cat_leads0 w 0 0

def moves (a : Option AM) (q : Int) (c : Nat) : List Int := stepM a q c :: (if finM a q then [stepM a 0 c] else [])
def iterNext (a : Option AM) (n : Nd) (c : Nat) : List Nd :=
  if n.s = 0 then ⟨0, stepM a n.x c, 0⟩ :: (if finM a n.x then [⟨1, stepM a 0 c, stepM a n.x c⟩] else [])
  else (moves a n.x c).flatMap fun x => (moves a n.y c).map fun y => ⟨1, x, y⟩
def iterEnds (a : Option AM) (n : Nd) : Bool := n.s == 1 && finM a n.x && finM a n.y
def iterG (a : Option AM) : Gr := ⟨iterNext a, iterEnds a⟩
/-- From state q on w ends a list of members. -/
def StarL (a : Option AM) : List Nat → Int → Prop
  | [], q => finM a q = true
  | c :: w, q => StarL a w (stepM a q c) ∨ (finM a q = true ∧ StarL a w (stepM a 0 c))
section
variable {a : Option AM}
theorem mem_moves {q : Int} {c : Nat} {t : Int} : t ∈ moves a q c ↔ t = stepM a q c ∨ (finM a q = true ∧ t = stepM a 0 c) := by
  unfold moves
  rw [List.mem_cons]
  cases h : finM a q <;> simp
theorem star_cons {c : Nat} {w : List Nat} {q : Int} : StarL a (c :: w) q ↔ ∃ t ∈ moves a q c, StarL a w t := by
  constructor
  · rintro (h | ⟨h1, h2⟩)
    · exact ⟨_, mem_moves.2 (.inl rfl), h⟩
    · exact ⟨_, mem_moves.2 (.inr ⟨h1, rfl⟩), h2⟩
  · rintro ⟨t, ht, h⟩
    rcases mem_moves.1 ht with rfl | ⟨h1, rfl⟩
    · exact .inl h
    · exact .inr ⟨h1, h⟩
theorem iter_next0 {x y : Int} {c : Nat} {t : Nd} : t ∈ (iterG a).next ⟨0, x, y⟩ c ↔ t = ⟨0, stepM a x c, 0⟩ ∨ (finM a x = true ∧ t = ⟨1, stepM a 0 c, stepM a x c⟩) := by
  show t ∈ iterNext a ⟨0, x, y⟩ c ↔ _
  unfold iterNext
  rw [if_pos rfl, List.mem_cons]
  cases h : finM a x <;> simp
theorem iter_next1 {x y : Int} {c : Nat} {t : Nd} : t ∈ (iterG a).next ⟨1, x, y⟩ c ↔ ∃ p ∈ moves a x c, ∃ q ∈ moves a y c, t = ⟨1, p, q⟩ := by
  show t ∈ iterNext a ⟨1, x, y⟩ c ↔ _
  unfold iterNext
  rw [if_neg (show ¬ (1 : Int) = 0 by decide), List.mem_flatMap]
  simp only [List.mem_map]
  constructor
  · rintro ⟨p, hp, q, hq, e⟩; exact ⟨p, hp, q, hq, e.symm⟩
  · rintro ⟨p, hp, q, hq, e⟩; exact ⟨p, hp, q, hq, e.symm⟩
theorem iter_leads1 : ∀ (w : List Nat) (x y : Int), Leads (iterG a) w ⟨1, x, y⟩ ↔ StarL a w x ∧ StarL a w y
  | [], x, y => by
    show iterEnds a ⟨1, x, y⟩ = true ↔ finM a x = true ∧ finM a y = true
    unfold iterEnds
    simp
  | c :: w, x, y => by
    rw [star_cons, star_cons]
    constructor
    · rintro ⟨t, ht, h⟩
      obtain ⟨p, hp, q, hq, rfl⟩ := iter_next1.1 ht
      obtain ⟨h1, h2⟩ := (iter_leads1 w _ _).1 h
      exact ⟨⟨p, hp, h1⟩, q, hq, h2⟩
    · rintro ⟨⟨p, hp, h1⟩, q, hq, h2⟩
      exact ⟨_, iter_next1.2 ⟨p, hp, q, hq, rfl⟩, (iter_leads1 w _ _).2 ⟨h1, h2⟩⟩
theorem iter_leads0 : ∀ (w : List Nat) (x y : Int), Leads (iterG a) w ⟨0, x, y⟩ ↔ ∃ i c r, w.drop i = c :: r ∧ finM a (runL a (w.take i) x) = true ∧ StarL a r (stepM a 0 c) ∧ StarL a r (stepM a (runL a (w.take i) x) c)
  | [], x, y => by
    show iterEnds a ⟨0, x, y⟩ = true ↔ _
    unfold iterEnds
    constructor
    · exact fun h => by simp at h
    · rintro ⟨i, c, r, h, -⟩; simp at h
  | d :: w, x, y => by
    constructor
    · rintro ⟨t, ht, h⟩
      rcases iter_next0.1 ht with rfl | ⟨hf, rfl⟩
      · obtain ⟨i, c, r, h1, h2, h3, h4⟩ := (iter_leads0 w _ _).1 h
        exact ⟨i + 1, c, r, h1, h2, h3, h4⟩
      · obtain ⟨h1, h2⟩ := (iter_leads1 w _ _).1 h
        exact ⟨0, d, w, rfl, hf, h1, h2⟩
    · rintro ⟨i, c, r, h1, h2, h3, h4⟩
      cases i with
      | zero =>
        obtain ⟨rfl, rfl⟩ : d = c ∧ w = r := by simpa using h1
        exact ⟨_, iter_next0.2 (.inr ⟨h2, rfl⟩), (iter_leads1 w _ _).2 ⟨h3, h4⟩⟩
      | succ i => exact ⟨_, iter_next0.2 (.inl rfl), (iter_leads0 w _ _).2 ⟨i, c, r, h1, h2, h3, h4⟩⟩
end
end Go.Proofs.YthomdogheamfpaaDoor
/- ambig's graphs in memory; maps of slices that begin with nil ones. -/
set_option linter.unusedVariables false
set_option linter.unusedSimpArgs false
set_option maxRecDepth 100000
namespace Go.VC
section
variable {α β : Type} {Ok : α → Prop} {enc : α → Value} {T : Ty β} {e : TypeId} {b : Nat} {m : α → Option Value} {B : Nat → Prop} {H0 H H' : Heap} {ps : List Pc}
theorem StB.mqNil (st : StB B H0 H ps) (i : Nat) (hp : ps[i]? = some (pMW Ok enc b m)) (hm : ∀ a, slAt m a = .slice none 0 0) : StB B H0 H (ps.set i (pMQ Ok enc T e b m fun _ => [])) := by
  refine st.upd i hp (Agr.refl _ _) _ ⟨st.mapW i hp, fun a => by rw [hm]; exact SlO.nil, fun a a' k _ hk => ?_, fun a hk => ?_⟩ (fun k hk => ?_) (fun k hk => ?_) (Nat.le_refl _)
  · rw [hm] at hk; exact absurd hk nil_slB
  · rw [hm] at hk; exact nil_slB hk
  · rcases hk with hk | ⟨a, hk⟩
    · exact .inl hk
    · rw [hm] at hk; exact absurd hk nil_slB
  · rcases hk with hk | ⟨a, hk⟩
    · exact (st.in_ i hp hk).2
    · rw [hm] at hk; exact absurd hk nil_slB
theorem agr_lt {S : Nat → Prop} {H H' : Heap} {k : Nat} (h : Agr S H H') (hk : S k) (hl : k < H.size) : k < H'.size := by
  have e := h k hk
  rw [Array.getElem?_eq_getElem hl] at e
  exact (Array.getElem?_eq_some_iff.1 e).1
theorem StB.apart {p q : Pc} (st : StB B H0 H ps) {i j : Nat} (hij : i < j) (hp : ps[i]? = some p) (hq : ps[j]? = some q) : Dis p q := by
  obtain ⟨h1, h2⟩ := List.getElem?_eq_some_iff.1 hp
  obtain ⟨k1, k2⟩ := List.getElem?_eq_some_iff.1 hq
  have := List.pairwise_iff_getElem.1 st.dis i j h1 k1 hij
  rwa [h2, k2] at this
/-- The address of an element, to be read, and its block. -/
theorem ixOa {xs : List β} {x : β} {n cap : Nat} {a : Option Addr} {P : Program} {t by_ j : Nat} {z : Value} {k : IntKind} {ji : Int} {S0 : Nat → Prop} {H2 : Heap} {K : Value → Prop} (ht : SlT P t e T.size by_ z) (st : StB B H0 H ps) (i : Nat) (hp : ps[i]? = some (pS T e a n cap xs))
    (hx : xs[j]? = some x) (hj : ji = (j : Int)) (hk : ∀ b o c, slB (.slice a n cap) b → Old H b → Cells H b o c → T.rep (Old H) H c x → K (.pointer (some ⟨b, o, none⟩))) : VDet P (Instr.indexAt t (.slice a n cap) (.int k ji)) S0 H2 K := by
  have h := st.view i hp
  have hn := st.len i hp
  obtain ⟨b, o, c, rfl, h1, h2, h3⟩ := h.get hx
  subst hj
  have hi := (List.getElem?_eq_some_iff.1 hx).1
  exact ix ht (by omega) (by omega) (by simpa using hk b _ c ⟨_, _, _, rfl⟩ h1 h2 h3)
end
end Go.VC
namespace Go.Proofs.YthomdogheamfpaaDoor
open Go.VC
theorem root_ok : root.Ok := ⟨inI64 (x := 0) (by decide), inI64 (x := 0) (by decide), inI64 (x := 0) (by decide)⟩
/-- What is asked of a graph: its bytes, its nodes, their numbers. -/
structure GraphOk (g : Gr) (by_ : List Nat) (M C : Nat) : Prop where
  byl : ∀ b ∈ by_, b < 256
  nb : by_.length ≤ 256
  ok : ∀ n, Reach g by_ root n → n.Ok
  card : ∀ l : List Nd, l.Nodup → (∀ n ∈ l, Reach g by_ root n) → l.length ≤ M
  occ : ∀ n b t, Reach g by_ root n → b ∈ by_ → (g.next n b).count t ≤ C
  c0 : 1 ≤ C
  big : C * (256 * M) ≤ 5864062014805
theorem spliceN (n t : Nd) : splice (ndL n) 0 (ndL t) = ndL t := rfl
theorem count_take {l : List Nd} {t : Nd} (j : Nat) : (l.take j).count t ≤ l.count t := by
  conv => rhs; rw [← List.take_append_drop j l, List.count_append]
  omega
theorem count_succ {l : List Nd} {t : Nd} {j : Nat} (h : l[j]? = some t) : (l.take j).count t + 1 ≤ l.count t := by
  have := count_take (l := l) (t := t) (j + 1)
  rw [take_succ_snoc h, List.count_append, List.count_singleton_self] at this
  omega
theorem row_le {i k nb M : Nat} (hi : i < M) (hk : k < nb) (hnb : nb ≤ 256) : i * nb + k + 1 ≤ 256 * M := by
  have h1 : (i + 1) * nb ≤ M * nb := Nat.mul_le_mul_right _ hi
  have h2 : M * nb ≤ M * 256 := Nat.mul_le_mul_left _ hnb
  rw [Nat.succ_mul] at h1
  omega
end Go.Proofs.YthomdogheamfpaaDoor

/- ambig's reach: the walk. -/
set_option linter.unusedVariables false
set_option linter.unusedSimpArgs false
set_option maxRecDepth 100000
namespace Go.Proofs.YthomdogheamfpaaDoor
open Go.VC
end Go.Proofs.YthomdogheamfpaaDoor

/- ambig's first, once the distances are known: byte by byte; plain law. -/
set_option linter.unusedVariables false
set_option linter.unusedSimpArgs false
namespace Go.VC
theorem vstrOut {P : Program} {s d e cap n : Nat} {a : Option Addr} {S B : Nat → Prop} {H0 H : Heap} {ps : List Pc} {K : Value → Heap → Prop} (bs : List Nat) (st : StB B H0 H ps) (i : Nat) (hp : ps[i]? = some (pN (tInt .u8) S e a n cap (bs.map fun (x : Nat) => (x : Int))))
    (hs : P.underlying s = some (.slice e)) (he : P.underlying e = some (.int .u8)) (hd : P.underlying d = some .string) (k : K (.string ⟨(bs.map UInt8.ofNat).toArray⟩) H) : VEff P (convert s d (.slice a n cap)) H K := by
  have h := st.view i hp
  have hn := st.len i hp
  rw [List.length_map] at hn
  cases bs with
  | nil =>
    cases a with
    | none => exact vb2s0 hs he hd k
    | some ad =>
      have h' := st.at_ i hp
      obtain ⟨cs, ⟨h0, h2⟩, h3⟩ := h'.1
      rcases h2 with ⟨h2, -⟩ | ⟨b, c, l, h2, h4, h5, h6, h7, h8, h9⟩
      · cases h2
      · injection h2 with g1 g2 g3
        injection g1 with g1
        subst g1
        exact vb2s [] hs he hd (fun j x hx => by simp at hx) hn k
  | cons x xs =>
    obtain ⟨b, rfl⟩ := st.adr i hp (by simp)
    refine vb2s (x :: xs) hs he hd (fun j y hy => ?_) hn k
    obtain ⟨b', o', c', e, -, hc, hr⟩ := h.get (i := j) (x := (y : Int)) (by rw [List.getElem?_map, hy]; rfl)
    injection e with e
    injection e with e1 e2 e3
    subst e1; subst e2
    obtain ⟨rfl, -⟩ := hr
    have := hc.one
    rw [show (tInt .u8).size = 1 from rfl, Nat.mul_one] at this
    exact this
end Go.VC
namespace Go.Proofs.YthomdogheamfpaaDoor
open Go.VC
/-- What is left of the word that is asked for: r bytes, from one of P on. -/
structure Pre (g : Gr) (a : Nd) (lf : Nd → Option Nat) (L r : Nat) (w : List Nat) (P : Nd → Prop) : Prop where
  len : w.length + r = L
  fst : ∀ v, FirstOf g P r v → FirstOf g (· = a) L (w ++ v)
  all : ∀ n, P n → lf n = some r
  ne : ∃ n, P n
section
variable {g : Gr} {by_ : List Nat} {a : Nd} {lf : Nd → Option Nat} {L k b : Nat} {w : List Nat} {P Q : Nd → Prop}
theorem Pre.start (h : lf a = some L) : Pre g a lf L L [] (· = a) := ⟨by simp, fun v hv => hv, fun n hn => by rw [hn, h], a, rfl⟩
theorem Pre.done (h : Pre g a lf L 0 w P) (hd : DistOk g by_ a lf) : FirstOf g (· = a) L w := by
  obtain ⟨n, hn⟩ := h.ne
  obtain ⟨-, u, hu, -, hl⟩ := hd.word n 0 (h.all n hn)
  obtain rfl := List.eq_nil_of_length_eq_zero hu
  have := h.fst [] (FirstOf.nil hn hl)
  rwa [List.append_nil] at this
theorem Pre.some (h : Pre g a lf L (k + 1) w P) (hd : DistOk g by_ a lf) : ∃ b, b ∈ by_ ∧ ∃ t, stepP g P b t ∧ lf t = some k := by
  obtain ⟨n, hn⟩ := h.ne
  have hln := h.all n hn
  obtain ⟨hr, u, hu, hub, hl⟩ := hd.word n _ hln
  cases u with
  | nil => simp at hu
  | cons b u =>
    obtain ⟨t, ht, hl⟩ := hl
    have hb := hub b List.mem_cons_self
    obtain ⟨j, hj, hlt⟩ := hd.le (hr.step hb ht) (fun c hc => hub c (List.mem_cons_of_mem _ hc)) hl
    obtain ⟨i, hi, hli⟩ := hd.pred t j hlt n b hr hb ht
    rw [hln] at hli
    injection hli with hli
    simp only [List.length_cons, Nat.add_right_cancel_iff] at hu
    have : j = k := by omega
    exact ⟨b, hb, t, ⟨n, hn, ht⟩, this ▸ hlt⟩
variable (hby : ∀ c, c < 256 → ∃ r ∈ by_, r ≤ c ∧ ∀ n, g.next n r = g.next n c)
include hby
theorem DistOk.narrow (h : DistOk g by_ a lf) (hP : ∀ n, P n → lf n = Option.some (k + 1)) (hb : b ∈ by_) (hQ : ∀ t, Q t ↔ stepP g P b t ∧ lf t = Option.some k) {v : List Nat} (hv : FirstOf g Q k v) : FirstOf g (stepP g P b) k v := by
  obtain ⟨h1, h2, ⟨n, hn, hl⟩, h4⟩ := hv
  refine ⟨h1, h2, ⟨n, ((hQ n).1 hn).1, hl⟩, fun u hu hub hul => ?_⟩
  obtain ⟨t, ht, hl⟩ := hul
  refine h4 u hu hub ⟨t, (hQ t).2 ⟨ht, ?_⟩, hl⟩
  obtain ⟨m, hm, htm⟩ := ht
  have hmr := (h.word m _ (hP m hm)).1
  obtain ⟨j, hj, hlt⟩ := h.bytes hby (hmr.step hb htm) hub hl
  obtain ⟨i, hi, hli⟩ := h.pred t j hlt m b hmr hb htm
  rw [hP m hm] at hli
  injection hli with hli
  have : j = k := by omega
  exact this ▸ hlt
theorem Pre.step (h : Pre g a lf L (k + 1) w P) (hd : DistOk g by_ a lf) (hby2 : ∀ b ∈ by_, b < 256) (hs : by_.Pairwise (· ≤ ·)) {j : Nat} (hj : by_[j]? = Option.some b) (hQ : ∀ t, Q t ↔ stepP g P b t ∧ lf t = Option.some k) (hne : ∃ t, Q t)
    (hno : ∀ c ∈ by_.take j, ∀ t, ¬ (stepP g P c t ∧ lf t = Option.some k)) : Pre g a lf L k (w ++ [b]) Q := by
  have hb := List.mem_of_getElem? hj
  refine ⟨by rw [List.length_append, List.length_singleton]; have := h.len; omega, fun v hv => ?_, fun n hn => ((hQ n).1 hn).2, hne⟩
  have h1 := FirstOf.cons (hby2 b hb) (hd.narrow hby h.all hb hQ hv) fun c hc u hu hub hul => by
    obtain ⟨r, hr, hrc, hs2⟩ := hby c (by have := hby2 b hb; omega)
    have e : stepP g P c = stepP g P r := by
      funext t
      unfold stepP
      simp only [hs2]
    rw [e] at hul
    obtain ⟨t, h3, h4⟩ := (hd.fwd hby hby2 h.all hr).1 ⟨u, hu, hub, hul⟩
    refine hno r ?_ t ⟨h3, h4⟩
    obtain ⟨i, hi⟩ := List.getElem?_of_mem hr
    obtain ⟨p1, p2⟩ := List.getElem?_eq_some_iff.1 hi
    obtain ⟨q1, q2⟩ := List.getElem?_eq_some_iff.1 hj
    by_cases hij : i < j
    · exact List.mem_of_getElem? (i := i) (by rw [List.getElem?_take, if_pos hij]; exact hi)
    · exfalso
      rcases Nat.lt_or_eq_of_le (Nat.not_lt.1 hij) with h | h
      · have := List.pairwise_iff_getElem.1 hs j i q1 p1 h
        rw [p2, q2] at this
        omega
      · subst h
        rw [hi] at hj
        injection hj with hj
        omega
  have := h.fst _ h1
  rwa [List.append_cons] at this
end
/-- The distances as they lie in the map. -/
def encL (lf : Nd → Option Nat) : Nd → Option Value := fun n => (lf n).map fun (k : Nat) => Value.int .i64 (k : Int)
theorem encL_put (lf : Nd → Option Nat) (p : Nd) (k : Nat) : put (encL lf) p (some (.int .i64 (k : Int))) = encL fun m => if m = p then some k else lf m := by
  funext m
  by_cases h : m = p
  · subst h; rw [put_self]; simp [encL]
  · rw [put_ne h]; simp [encL, h]
theorem encL_put0 (todo : List Nd) (p : Nd) : put (encL fun n => if n ∈ todo then some 0 else none) p (some (.int .i64 0)) = encL fun n => if n ∈ todo ++ [p] then some 0 else none := by
  have := encL_put (fun n => if n ∈ todo then some 0 else none) p 0
  refine Eq.trans this ?_
  congr 1
  funext m
  by_cases h : m = p
  · subst h; simp
  · simp [h]
/-- A set of nodes as it lies in the map. -/
def enc1 (q : Nd → Bool) : Nd → Option Value := fun n => if q n then some (.int .i64 1) else none
theorem enc1_put (q : Nd → Bool) (p : Nd) : put (enc1 q) p (some (.int .i64 1)) = enc1 fun m => decide (m = p) || q m := by
  funext m
  by_cases h : m = p
  · subst h; rw [put_self]; unfold enc1; simp
  · rw [put_ne h]; unfold enc1; simp [h]
theorem enc1_some {q : Nd → Bool} {n : Nd} : (enc1 q n).isSome = true ↔ q n = true := by
  unfold enc1
  cases h : q n <;> simp
theorem enc1_none {q : Nd → Bool} {n : Nd} : enc1 q n = none ↔ q n = false := by
  unfold enc1
  cases h : q n <;> simp
def bA (w : List Nat) : ByteArray := ⟨(w.map UInt8.ofNat).toArray⟩
end Go.Proofs.YthomdogheamfpaaDoor

/- ambig's first: the walk. -/
set_option linter.unusedVariables false
set_option linter.unusedSimpArgs false
set_option maxRecDepth 100000
namespace Go.Proofs.YthomdogheamfpaaDoor
open Go.VC
/-- What first answers. -/
def FirstR (g : Gr) (w : List Nat) (ok : Bool) : Prop := (ok = true → FirstW g (· = root) w) ∧ (ok = false → w = [] ∧ ∀ u, bytes_ u → ¬ LeadsP g (· = root) u)
/-- The nodes whose distance is known. -/
structure Seen (g : Gr) (by_ : List Nat) (lf : Nd → Option Nat) (seen : List Nd) : Prop where
  nd : seen.Nodup
  mem : ∀ n, (lf n).isSome = true ↔ n ∈ seen
  le : ∀ n j, lf n = some j → j ≤ seen.length
  rch : ∀ n ∈ seen, Reach g by_ root n
theorem Seen.push {g : Gr} {by_ : List Nat} {lf : Nd → Option Nat} {seen : List Nd} {p n : Nd} {k : Nat} (h : Seen g by_ lf seen) (hp : lf p = none) (hr : Reach g by_ root p) (hn : lf n = some k) : Seen g by_ (fun m => if m = p then some (k + 1) else lf m) (seen ++ [p]) := by
  have hps : p ∉ seen := fun h2 => by
    have := (h.mem p).2 h2
    rw [hp] at this; cases this
  refine ⟨List.nodup_append.2 ⟨h.nd, by simp, fun x hx y hy => ?_⟩, fun m => ?_, fun m j hj => ?_, fun m hm => ?_⟩
  · rw [List.mem_singleton] at hy
    subst hy
    exact fun e => hps (e ▸ hx)
  · by_cases hm : m = p
    · subst hm; simp
    · rw [if_neg hm, h.mem]; simp [hm]
  · rw [List.length_append, List.length_singleton]
    split at hj
    · have := h.le n k hn
      injection hj with hj
      omega
    · have := h.le m j hj
      omega
  · rcases List.mem_append.1 hm with hm | hm
    · exact h.rch m hm
    · rw [List.mem_singleton] at hm; subst hm; exact hr

end Go.Proofs.YthomdogheamfpaaDoor
/- The graphs of Meets, Cat and Iter are what the walks ask for; cuts; plain law. -/
set_option linter.unusedVariables false
set_option linter.unusedSimpArgs false
set_option maxRecDepth 100000
namespace Go.Proofs.YthomdogheamfpaaDoor
open Go.VC
attribute [local irreducible] mRun gRun atRun
theorem nodupN : ∀ (n : Nat) (l : List Nat), l.Nodup → (∀ x ∈ l, x < n) → l.length ≤ n
  | 0, l, _, h => by
    cases l with
    | nil => exact Nat.le_refl _
    | cons x l => exact absurd (h x List.mem_cons_self) (Nat.not_lt_zero _)
  | n + 1, l, hd, h => by
    have h1 := nodupN n (l.filter fun x => decide (x < n)) (hd.filter _) (fun x hx => by simpa using (List.mem_filter.1 hx).2)
    have h2 : (l.filter fun x => !decide (x < n)).length ≤ 1 := by
      have hd2 : (l.filter fun x => !decide (x < n)).Nodup := hd.filter _
      have he : ∀ x ∈ l.filter (fun x => !decide (x < n)), x = n := fun x hx => by
        obtain ⟨k1, k2⟩ := List.mem_filter.1 hx
        have := h x k1
        simp at k2
        omega
      generalize l.filter (fun x => !decide (x < n)) = m at hd2 he
      match m, hd2, he with
      | [], _, _ => simp
      | [_], _, _ => simp
      | x :: y :: r, hd2, he =>
        have e1 := he x (by simp)
        have e2 := he y (by simp)
        rw [e1, e2] at hd2
        simp at hd2
    have h3 : ∀ m : List Nat, (m.filter fun x => decide (x < n)).length + (m.filter fun x => !decide (x < n)).length = m.length := fun m => by
      induction m with
      | nil => rfl
      | cons x m ih => by_cases hx : x < n <;> simp [List.filter_cons, hx] <;> omega
    have := h3 l
    omega
theorem pwNodup {α : Type} {f : α → Nat} {l : List α} (hn : l.Nodup) (hi : ∀ x ∈ l, ∀ y ∈ l, f x = f y → x = y) : (l.map f).Nodup := by
  unfold List.Nodup
  rw [List.pairwise_map]
  exact (List.Pairwise.and_mem.1 hn).imp fun {x y} ⟨h1, h2, h3⟩ e => h3 (hi x h1 y h2 e)
/-- A state of o. -/
def inA (o : Option AM) (q : Int) : Prop := 0 ≤ q ∧ q < stN o
/-- o's steps stay among its states, of which there are at most 65536. -/
structure StepOk (o : Option AM) : Prop where
  n1 : 1 ≤ stN o
  n2 : stN o ≤ 65536
  step : ∀ q b, inA o q → b < 256 → inA o (stepM o q b)
theorem StepOk.zero {o : Option AM} (h : StepOk o) : inA o 0 := ⟨Int.le_refl _, by have := h.n1; omega⟩
theorem step_rng0 {S : Nat → Prop} {H : Heap} {v : Value} {o : Option AM} (h : AutoV S H v o) {q b : Nat} (hq : q < stN o) (hb : b < 256) : 0 ≤ stepM o (q : Int) b ∧ stepM o (q : Int) b < stN o := by
  cases o with
  | none =>
    have : q = 0 := by simp only [stN] at hq; omega
    subst this
    decide +revert
  | some A =>
    obtain ⟨pb, rfl, hown, hok, _⟩ := h
    exact stepM_range hok (by omega) (by simp only [stN] at hq; omega) hb
theorem AutoV.steps {S : Nat → Prop} {H : Heap} {v : Value} {o : Option AM} (h : AutoV S H v o) : StepOk o :=
  ⟨(stN_le h).1, (stN_le h).2, fun q b hq hb => by
    obtain ⟨n, rfl⟩ := Int.eq_ofNat_of_zero_le hq.1
    exact step_rng0 h (by have := hq.2; omega) hb⟩
/-- The bytes of reps stand for all. -/
theorem step_cov {o : Option AM} {ls : List Nat} (h : CellsOk o ls) {r c : Nat} (hr : r < 256) (hc : c < 256) (hs : ∀ s ∈ cellsM o, s.getLsbD r = s.getLsbD c) (q : Int) : stepM o q r = stepM o q c := by
  by_cases hq : q < 0 ∨ (stN o : Int) ≤ q
  · unfold stepM
    rw [if_pos hq, if_pos hq]
  · obtain ⟨k, s, hk, hb, -⟩ := h.part c hc
    obtain ⟨l, hl, -⟩ := h.least k s hk
    have e1 := (h.keeps k s l c hk hl hc hb).2 q (by omega) (by omega)
    have e2 := (h.keeps k s l r hk hl hr (by rw [hs s (List.mem_of_getElem? hk)]; exact hb)).2 q (by omega) (by omega)
    rw [e1, e2]
theorem graphOk {g : Gr} {by_ : List Nat} {M C : Nat} (R : Nd → Prop) (f : Nd → Nat) (h0 : R root) (hstep : ∀ n b t, R n → b < 256 → t ∈ g.next n b → R t) (hok : ∀ n, R n → n.Ok) (hf : ∀ n, R n → f n < M) (hi : ∀ n m, R n → R m → f n = f m → n = m)
    (hlen : ∀ n b, (g.next n b).length ≤ C) (c0 : 1 ≤ C) (big : C * (256 * M) ≤ 5864062014805) (hb : ∀ b ∈ by_, b < 256) (hnb : by_.length ≤ 256) : GraphOk g by_ M C := by
  have hR : ∀ n, Reach g by_ root n → R n := fun n h => by
    induction h with
    | refl => exact h0
    | step hr hb' ht ih => exact hstep _ _ _ ih (hb _ hb') ht
  refine ⟨hb, hnb, fun n hn => hok n (hR n hn), fun l hl hall => ?_, fun n b t _ _ => Nat.le_trans List.count_le_length (hlen n b), c0, big⟩
  rw [← List.length_map (f := f)]
  refine nodupN M _ (pwNodup hl fun x hx y hy e => hi x y (hR x (hall x hx)) (hR y (hall y hy)) e) fun x hx => ?_
  obtain ⟨n, hn, rfl⟩ := List.mem_map.1 hx
  exact hf n (hR n (hall n hn))
/-- Nodes of at most K stages behind the first. -/
structure InR (K : Nat) (n : Nd) : Prop where
  s0 : 0 ≤ n.s
  s1 : n.s ≤ K
  x0 : 0 ≤ n.x
  x1 : n.x < 65536
  y0 : 0 ≤ n.y
  y1 : n.y < 65536
  z : n.s = 0 → n.y = 0
def codeN (n : Nd) : Nat := if n.s = 0 then n.x.toNat else 65536 + (n.s.toNat - 1) * 4294967296 + n.x.toNat * 65536 + n.y.toNat
theorem InR.ok {K : Nat} {n : Nd} (hK : K ≤ 2) (h : InR K n) : n.Ok := by
  obtain ⟨h1, h2, h3, h4, h5, h6, h7⟩ := h
  refine ⟨?_, ?_, ?_⟩ <;> unfold inK <;> simp only [IntKind.min, IntKind.max, IntKind.signed, IntKind.bits] <;> constructor <;> simp <;> omega
theorem code_lt {K : Nat} {n : Nd} (h : InR K n) : codeN n < 65536 + K * 4294967296 := by
  obtain ⟨h1, h2, h3, h4, h5, h6, h7⟩ := h
  unfold codeN
  split
  · omega
  · have : (n.s.toNat - 1) + 1 ≤ K := by omega
    have := Nat.mul_le_mul_right 4294967296 this
    omega
theorem code_inj {K : Nat} {n m : Nd} (h : InR K n) (k : InR K m) (e : codeN n = codeN m) : n = m := by
  obtain ⟨h1, h2, h3, h4, h5, h6, h7⟩ := h
  obtain ⟨k1, k2, k3, k4, k5, k6, k7⟩ := k
  obtain ⟨s, x, y⟩ := n
  obtain ⟨s', x', y'⟩ := m
  simp only at *
  unfold codeN at e
  simp only at e
  have key : s = s' ∧ x = x' ∧ y = y' := by
    split at e <;> split at e
    · rename_i e1 e2; exact ⟨by omega, by omega, by rw [h7 e1, k7 e2]⟩
    · omega
    · omega
    · refine ⟨by omega, by omega, by omega⟩
  obtain ⟨rfl, rfl, rfl⟩ := key
  rfl
section
variable {a b : Option AM}
/-- Where Cat's readers can be. -/
def CatR (a b : Option AM) (n : Nd) : Prop := (n.s = 0 ∧ inA a n.x ∧ n.y = 0) ∨ (n.s = 1 ∧ inA b n.x ∧ inA a n.y) ∨ (n.s = 2 ∧ inA b n.x ∧ inA b n.y)
theorem CatR.inR (ha : StepOk a) (hb : StepOk b) {n : Nd} (h : CatR a b n) : InR 2 n := by
  have := ha.n2
  have := hb.n2
  rcases h with ⟨h1, ⟨h2, h3⟩, h4⟩ | ⟨h1, ⟨h2, h3⟩, h4, h5⟩ | ⟨h1, ⟨h2, h3⟩, h4, h5⟩ <;> constructor <;> omega
theorem cat_step (ha : StepOk a) (hb : StepOk b) : ∀ n c t, CatR a b n → c < 256 → t ∈ (catG a b).next n c → CatR a b t := by
  rintro ⟨s, x, y⟩ c t h hc ht
  rcases h with ⟨h1, h2, h3⟩ | ⟨h1, h2, h3⟩ | ⟨h1, h2, h3⟩ <;> simp only at h1 h2 h3 <;> subst h1
  · subst h3
    rcases cat_next0.1 ht with rfl | ⟨-, rfl⟩
    · exact .inl ⟨rfl, ha.step _ _ h2 hc, rfl⟩
    · exact .inr (.inl ⟨rfl, hb.step _ _ hb.zero hc, ha.step _ _ h2 hc⟩)
  · rcases cat_next1.1 ht with rfl | ⟨-, rfl⟩
    · exact .inr (.inl ⟨rfl, hb.step _ _ h2 hc, ha.step _ _ h3 hc⟩)
    · exact .inr (.inr ⟨rfl, hb.step _ _ h2 hc, hb.step _ _ hb.zero hc⟩)
  · obtain rfl := cat_next2.1 ht
    exact .inr (.inr ⟨rfl, hb.step _ _ h2 hc, hb.step _ _ h3 hc⟩)
theorem cat_len (n : Nd) (c : Nat) : ((catG a b).next n c).length ≤ 2 := by
  show (catNext a b n c).length ≤ 2
  unfold catNext
  split
  · split <;> simp
  · split
    · split <;> simp
    · simp
theorem cat_cov {n : Nd} {r c : Nat} (h1 : ∀ q, stepM a q r = stepM a q c) (h2 : ∀ q, stepM b q r = stepM b q c) : (catG a b).next n r = (catG a b).next n c := by
  show catNext a b n r = catNext a b n c
  unfold catNext
  simp only [h1, h2]
theorem cat_ok (ha : StepOk a) (hb : StepOk b) {by_ : List Nat} (h1 : ∀ b ∈ by_, b < 256) (h2 : by_.length ≤ 256) : GraphOk (catG a b) by_ (65536 + 2 * 4294967296) 2 :=
  graphOk (CatR a b) codeN (.inl ⟨rfl, ha.zero, rfl⟩) (cat_step ha hb) (fun n h => (h.inR ha hb).ok (by decide)) (fun n h => code_lt (h.inR ha hb)) (fun n m h k e => code_inj (h.inR ha hb) (k.inR ha hb) e) cat_len (by decide) (by decide) h1 h2
/-- Where Iter's readers can be. -/
def IterR (a : Option AM) (n : Nd) : Prop := (n.s = 0 ∧ inA a n.x ∧ n.y = 0) ∨ (n.s = 1 ∧ inA a n.x ∧ inA a n.y)
theorem IterR.inR (ha : StepOk a) {n : Nd} (h : IterR a n) : InR 1 n := by
  have := ha.n2
  rcases h with ⟨h1, ⟨h2, h3⟩, h4⟩ | ⟨h1, ⟨h2, h3⟩, h4, h5⟩ <;> constructor <;> omega
theorem moves_in (ha : StepOk a) {q t : Int} {c : Nat} (hq : inA a q) (hc : c < 256) (h : t ∈ moves a q c) : inA a t := by
  rcases mem_moves.1 h with rfl | ⟨-, rfl⟩
  · exact ha.step _ _ hq hc
  · exact ha.step _ _ ha.zero hc
theorem iter_step (ha : StepOk a) : ∀ n c t, IterR a n → c < 256 → t ∈ (iterG a).next n c → IterR a t := by
  rintro ⟨s, x, y⟩ c t h hc ht
  rcases h with ⟨h1, h2, h3⟩ | ⟨h1, h2, h3⟩ <;> simp only at h1 h2 h3 <;> subst h1
  · subst h3
    rcases iter_next0.1 ht with rfl | ⟨-, rfl⟩
    · exact .inl ⟨rfl, ha.step _ _ h2 hc, rfl⟩
    · exact .inr ⟨rfl, ha.step _ _ ha.zero hc, ha.step _ _ h2 hc⟩
  · obtain ⟨p, hp, q, hq, rfl⟩ := iter_next1.1 ht
    exact .inr ⟨rfl, moves_in ha h2 hc hp, moves_in ha h3 hc hq⟩
theorem moves_len (q : Int) (c : Nat) : (moves a q c).length ≤ 2 := by
  unfold moves
  split <;> simp
theorem iter_len (n : Nd) (c : Nat) : ((iterG a).next n c).length ≤ 4 := by
  show (iterNext a n c).length ≤ 4
  unfold iterNext
  split
  · split <;> simp
  · have h1 := moves_len (a := a) n.y c
    have h2 := moves_len (a := a) n.x c
    rw [List.length_flatMap]
    simp only [List.length_map]
    generalize moves a n.y c = ys at *
    generalize moves a n.x c = xs at *
    match xs, h2 with
    | [], _ => simp
    | [_], _ => simp; omega
    | [_, _], _ => simp; omega
theorem iter_cov {n : Nd} {r c : Nat} (h1 : ∀ q, stepM a q r = stepM a q c) : (iterG a).next n r = (iterG a).next n c := by
  show iterNext a n r = iterNext a n c
  unfold iterNext moves
  simp only [h1]
theorem iter_ok (ha : StepOk a) {by_ : List Nat} (h1 : ∀ b ∈ by_, b < 256) (h2 : by_.length ≤ 256) : GraphOk (iterG a) by_ (65536 + 1 * 4294967296) 4 :=
  graphOk (IterR a) codeN (.inl ⟨rfl, ha.zero, rfl⟩) (iter_step ha) (fun n h => (h.inR ha).ok (by decide)) (fun n h => code_lt (h.inR ha)) (fun n m h k e => code_inj (h.inR ha) (k.inR ha) e) iter_len (by decide) (by decide) h1 h2
/-- Where the readers of Meets can be. -/
def MeetR (a b : Option AM) (n : Nd) : Prop := n.s = 0 ∧ inA a n.x ∧ inA b n.y
theorem meet_ok (ha : StepOk a) (hb : StepOk b) {by_ : List Nat} (h1 : ∀ b ∈ by_, b < 256) (h2 : by_.length ≤ 256) : GraphOk (meetG a b) by_ 4294967296 1 := by
  have na := ha.n2
  have nb := hb.n2
  refine graphOk (MeetR a b) (fun n => n.x.toNat * 65536 + n.y.toNat) ⟨rfl, ha.zero, hb.zero⟩ (fun n c t h hc ht => ?_) (fun n h => ?_) (fun n h => ?_) (fun n m h k e => ?_) (fun n c => Nat.le_refl _) (by decide) (by decide) h1 h2
  · obtain rfl := List.mem_singleton.1 ht
    exact ⟨rfl, ha.step _ _ h.2.1 hc, hb.step _ _ h.2.2 hc⟩
  · obtain ⟨k1, ⟨k2, k3⟩, k4, k5⟩ := h
    refine ⟨?_, ?_, ?_⟩ <;> unfold inK <;> simp only [IntKind.min, IntKind.max, IntKind.signed, IntKind.bits] <;> constructor <;> simp <;> omega
  · obtain ⟨k1, ⟨k2, k3⟩, k4, k5⟩ := h
    omega
  · obtain ⟨k1, ⟨k2, k3⟩, k4, k5⟩ := h
    obtain ⟨l1, ⟨l2, l3⟩, l4, l5⟩ := k
    obtain ⟨s, x, y⟩ := n
    obtain ⟨s', x', y'⟩ := m
    simp only at *
    obtain ⟨rfl, rfl, rfl⟩ : s = s' ∧ x = x' ∧ y = y' := ⟨by omega, by omega, by omega⟩
    rfl
theorem meet_cov {n : Nd} {r c : Nat} (h1 : ∀ q, stepM a q r = stepM a q c) (h2 : ∀ q, stepM b q r = stepM b q c) : (meetG a b).next n r = (meetG a b).next n c := by
  show [_] = [_]
  rw [h1, h2]
end
/-- The bytes that reps gives, and those for which they stand. -/
theorem reps_cov2 {os : List (Option AM)} (hc : ∀ o ∈ os, ∃ ls, CellsOk o ls) {sets : List (BitVec 256)} (hs : ∀ o ∈ os, ∀ s ∈ cellsM o, s ∈ sets) : ∀ c, c < 256 → ∃ r ∈ repsM sets, r ≤ c ∧ ∀ o ∈ os, ∀ q, stepM o q r = stepM o q c := fun c hc8 => by
  obtain ⟨r, hr, hrc, hall⟩ := reps_cov sets hc8
  refine ⟨r, hr, hrc, fun o ho q => ?_⟩
  obtain ⟨ls, h⟩ := hc o ho
  exact step_cov h (reps_lt sets r hr) hc8 (fun s h => hall s (hs o ho s h)) q
theorem reps_len2 (sets : List (BitVec 256)) : (repsM sets).length ≤ 256 := by
  have := reps_len sets
  unfold repsM
  rw [List.length_map]; exact this
end Go.Proofs.YthomdogheamfpaaDoor

/- Texts and their cuts; plain law. -/
set_option linter.unusedVariables false
set_option linter.unusedSimpArgs false
set_option maxRecDepth 100000
namespace Go.Proofs.YthomdogheamfpaaDoor
open Go.VC
attribute [local irreducible] mRun gRun atRun
theorem bA_size (w : List Nat) : (bA w).size = w.length := by unfold bA; simp [ByteArray.size]
theorem bA_data (w : List Nat) : (bA w).data.toList = w.map UInt8.ofNat := by unfold bA; simp
theorem bA_ext (w : List Nat) (i j : Nat) : (bA w).extract i j = bA ((w.take j).drop i) := by
  apply text_inj
  rw [ByteArray.data_extract, Array.toList_extract, bA_data, bA_data, List.extract_eq_take_drop, List.map_drop, List.map_take, List.drop_take]
theorem bA_zero (w : List Nat) (i : Nat) : (bA w).extract 0 i = bA (w.take i) := by rw [bA_ext]; rfl
theorem bA_last (w : List Nat) (i : Nat) : (bA w).extract i (bA w).size = bA (w.drop i) := by rw [bA_ext, bA_size, List.take_length]
theorem acc_bA {o : Option AM} {w : List Nat} (h : bytes_ w) : acceptsM o (bA w) = accL o w := by
  unfold acceptsM accL runM runL
  rw [bA_size, bA_data, List.take_of_length_le (by simp), List.foldl_map]
  congr 1
  have : ∀ (w : List Nat) (q : Int), bytes_ w → w.foldl (fun q b => stepM o q (UInt8.ofNat b).toNat) q = w.foldl (fun q b => stepM o q b) q := fun w => by
    induction w with
    | nil => intro q _; rfl
    | cons c w ih =>
      intro q hb
      have hc := hb c List.mem_cons_self
      have e : (UInt8.ofNat c).toNat = c := by simp; omega
      rw [List.foldl_cons, List.foldl_cons, e]
      exact ih _ fun d hd => hb d (List.mem_cons_of_mem _ hd)
  exact this w 0 h
theorem bytes_take {w : List Nat} (h : bytes_ w) (i : Nat) : bytes_ (w.take i) := fun b hb => h b (List.mem_of_mem_take hb)
theorem bytes_drop {w : List Nat} (h : bytes_ w) (i : Nat) : bytes_ (w.drop i) := fun b hb => h b (List.mem_of_mem_drop hb)
/-- The bytes of a text. -/
def unB (s : ByteArray) : List Nat := s.data.toList.map UInt8.toNat
theorem unB_bytes (s : ByteArray) : bytes_ (unB s) := fun b hb => by
  obtain ⟨x, -, rfl⟩ := List.mem_map.1 hb
  exact UInt8.toNat_lt x
theorem bA_unB (s : ByteArray) : bA (unB s) = s := by
  apply text_inj
  rw [bA_data]
  unfold unB
  rw [List.map_map]
  conv => rhs; rw [← List.map_id s.data.toList]
  apply List.map_congr_left
  intro x _
  simp
theorem unB_bA {w : List Nat} (h : bytes_ w) : unB (bA w) = w := by
  unfold unB
  rw [bA_data, List.map_map]
  conv => rhs; rw [← List.map_id w]
  apply List.map_congr_left
  intro x hx
  have := h x hx
  simp; omega
/-- i is a cut of s. -/
def CutM (a b : Option AM) (s : ByteArray) (i : Nat) : Bool := acceptsM a (s.extract 0 i) && acceptsM b (s.extract i s.size)
theorem cut_bA {a b : Option AM} {w : List Nat} (h : bytes_ w) (i : Nat) : CutM a b (bA w) i = true ↔ CutL a b w 0 i := by
  unfold CutM
  rw [bA_zero, bA_last, acc_bA (bytes_take h i), acc_bA (bytes_drop h i), Bool.and_eq_true]; rfl
/-- What Cat answers. -/
def CatAns (a b : Option AM) (t : ByteArray) (i j : Nat) (ok : Bool) : Prop :=
  (ok = true → ∃ w, t = bA w ∧ FirstW (catG a b) (· = root) w ∧ i < j ∧ j ≤ w.length ∧ CutM a b t i = true ∧ CutM a b t j = true ∧ (∀ k, k < i → CutM a b t k = false) ∧ ∀ k, i < k → k < j → CutM a b t k = false) ∧
  (ok = false → t = ⟨#[]⟩ ∧ i = 0 ∧ j = 0 ∧ ∀ u, bytes_ u → ¬ LeadsP (catG a b) (· = root) u)
theorem first_uniq {f : Nat → Bool} {l i j : Nat} (hl : l ≤ i) (hm : l ≤ j) (h1 : f i = true) (h2 : f j = true) (h3 : ∀ k, l ≤ k → k < i → f k = false) (h4 : ∀ k, l ≤ k → k < j → f k = false) : i = j := by
  rcases Nat.lt_trichotomy i j with h | h | h
  · have := h4 i hl h; rw [h1] at this; cases this
  · exact h
  · have := h3 j hm h; rw [h2] at this; cases this
theorem CatAns.uniq {a b : Option AM} {t t' : ByteArray} {i i' j j' : Nat} {ok ok' : Bool} (h : CatAns a b t i j ok) (k : CatAns a b t' i' j' ok') : t = t' ∧ i = i' ∧ j = j' ∧ ok = ok' := by
  cases ok <;> cases ok'
  · obtain ⟨rfl, rfl, rfl, -⟩ := h.2 rfl
    obtain ⟨rfl, rfl, rfl, -⟩ := k.2 rfl
    exact ⟨rfl, rfl, rfl, rfl⟩
  · obtain ⟨w, -, hw, -⟩ := k.1 rfl
    exact absurd hw.1.2.2.1 ((h.2 rfl).2.2.2 w hw.1.2.1)
  · obtain ⟨w, -, hw, -⟩ := h.1 rfl
    exact absurd hw.1.2.2.1 ((k.2 rfl).2.2.2 w hw.1.2.1)
  · obtain ⟨w, rfl, h1, h2, h3, h4, h5, h6, h7⟩ := h.1 rfl
    obtain ⟨v, rfl, k1, k2, k3, k4, k5, k6, k7⟩ := k.1 rfl
    obtain rfl := h1.uniq k1
    obtain rfl := first_uniq (f := CutM a b (bA w)) (Nat.zero_le _) (Nat.zero_le _) h4 k4 (fun k _ => h6 k) (fun k _ => k6 k)
    obtain rfl := first_uniq (f := CutM a b (bA w)) (l := i + 1) h2 k2 h5 k5 (fun k hk => h7 k hk) (fun k hk => k7 k hk)
    exact ⟨rfl, rfl, rfl, rfl⟩
theorem FirstW.leads {g : Gr} {w : List Nat} (h : FirstW g (· = root) w) : Leads g w root := by
  obtain ⟨n, rfl, hn⟩ := h.1.2.2.1
  exact hn
theorem FirstW.bytes {g : Gr} {w : List Nat} (h : FirstW g (· = root) w) : bytes_ w := h.1.2.1
/-- The first place from l on. -/
theorem least_from {f : Nat → Bool} {l i : Nat} (hl : l ≤ i) (h : f i = true) : ∃ r, l ≤ r ∧ r ≤ i ∧ f r = true ∧ ∀ k, l ≤ k → k < r → f k = false := by
  have key : ∀ d l, i - l = d → l ≤ i → ∃ r, l ≤ r ∧ r ≤ i ∧ f r = true ∧ ∀ k, l ≤ k → k < r → f k = false := fun d => by
    induction d with
    | zero =>
      intro l hd hl
      obtain rfl : l = i := by omega
      exact ⟨l, Nat.le_refl _, Nat.le_refl _, h, fun k h1 h2 => by omega⟩
    | succ d ih =>
      intro l hd hl
      by_cases hf : f l = true
      · exact ⟨l, Nat.le_refl _, hl, hf, fun k h1 h2 => by omega⟩
      · obtain ⟨r, h1, h2, h3, h4⟩ := ih (l + 1) (by omega) (by omega)
        refine ⟨r, by omega, h2, h3, fun k k1 k2 => ?_⟩
        by_cases hk : k = l
        · subst hk; simpa using hf
        · exact h4 k (by omega) k2
  exact key _ l rfl hl
/-- A word that leads to an end has two cuts: the first ones. -/
theorem two_cuts {a b : Option AM} {w : List Nat} (hb : bytes_ w) (h : Leads (catG a b) w root) : ∃ i j, i < j ∧ j ≤ w.length ∧ CutM a b (bA w) i = true ∧ CutM a b (bA w) j = true ∧ (∀ k, k < i → CutM a b (bA w) k = false) ∧ ∀ k, i < k → k < j → CutM a b (bA w) k = false := by
  obtain ⟨i, j, h1, h2, h3, h4⟩ := (cat_root a b w).1 h
  obtain ⟨r, -, hr, hc, hlt⟩ := least_from (f := CutM a b (bA w)) (l := 0) (Nat.zero_le i) ((cut_bA hb i).2 h3)
  obtain ⟨s, hs, hsj, hc2, hlt2⟩ := least_from (f := CutM a b (bA w)) (l := r + 1) (i := j) (by omega) ((cut_bA hb j).2 h4)
  exact ⟨r, s, by omega, by omega, hc, hc2, fun k hk => hlt k (Nat.zero_le _) hk, fun k h1 h2 => hlt2 k (by omega) h2⟩
end Go.Proofs.YthomdogheamfpaaDoor
/- The functions that Cat gives to its graph: the walks. -/
set_option linter.unusedVariables false
set_option linter.unusedSimpArgs false
set_option maxRecDepth 100000
namespace Go.Proofs.YthomdogheamfpaaDoor
open Go.VC
attribute [local irreducible] mRun gRun atRun
/-- A variable of its own that holds an automaton. -/
structure VarA (S : Nat → Prop) (H : Heap) (p : Nat) (o : Option AM) : Prop where
  out : ∃ v, S p ∧ Blk H p 29 [v] ∧ AutoV S H v o
theorem VarA.frame {S : Nat → Prop} {H H' : Heap} {p : Nat} {o : Option AM} (h : VarA S H p o) (k : Agr S H H') : VarA S H' p o := by
  obtain ⟨v, h1, h2, h3⟩ := h
  exact ⟨v, h1, h2.agr k h1, h3.frame k⟩
/-- .. is read. -/
theorem VarA.ld {S S' : Nat → Prop} {H : Heap} {p : Nat} {o : Option AM} {K : Value → Prop} (h : VarA S H p o) (hS : ∀ k, S k → S' k) (k : ∀ v, AutoV S H v o → K v) : VDet Tryd.prog (Instr.loadAt 29 (.pointer (some ⟨p, 0, none⟩))) S' H K := by
  obtain ⟨v, h1, h2, h3⟩ := h
  exact ld1 (v := v) ct29 (by rw [h2.cell]; rfl) (hS p h1) (k v h3)
theorem nodesR (H : Heap) (t : Nd) : tNd.reps none_ H (ndL t) [t] := Ty.reps_one rfl
end Go.Proofs.YthomdogheamfpaaDoor

/- ambig's cut and Cat: the walks. -/
set_option linter.unusedVariables false
set_option linter.unusedSimpArgs false
set_option maxRecDepth 100000
namespace Go.Proofs.YthomdogheamfpaaDoor
open Go.VC
attribute [local irreducible] mRun gRun atRun
theorem AutoV.cells {S : Nat → Prop} {H : Heap} {v : Value} {o : Option AM} (h : AutoV S H v o) : v.cells = [v].toArray ∧ v.oneCell' = true := by
  cases o with
  | none => obtain rfl := h; exact ⟨rfl, rfl⟩
  | some A => obtain ⟨pb, rfl, -⟩ := h; exact ⟨rfl, rfl⟩
def spL (t : ByteArray) (i j : Nat) : List Value := [.string t, .int .i64 (i : Int), .int .i64 (j : Int)]
end Go.Proofs.YthomdogheamfpaaDoor

/- ambig's Iter and its functions: the walks. -/
set_option linter.unusedVariables false
set_option linter.unusedSimpArgs false
set_option maxRecDepth 100000
namespace Go.Proofs.YthomdogheamfpaaDoor
open Go.VC
attribute [local irreducible] mRun gRun atRun
def iv (x : Int) : Value := .int .i64 x
theorem vone (H : Heap) (v : Value) : tV.reps none_ H [v] [v] := Ty.reps_one rfl
def pairs1 (x : Int) (ys : List Int) : List Nd := ys.map fun y => ⟨1, x, y⟩
end Go.Proofs.YthomdogheamfpaaDoor

/- ambig's Iter: the walk. -/
set_option linter.unusedVariables false
set_option linter.unusedSimpArgs false
set_option maxRecDepth 100000
namespace Go.Proofs.YthomdogheamfpaaDoor
open Go.VC
attribute [local irreducible] mRun gRun atRun
theorem FirstR.uniq {g : Gr} {w v : List Nat} {ok ok' : Bool} (h : FirstR g w ok) (k : FirstR g v ok') : w = v ∧ ok = ok' := by
  cases ok <;> cases ok'
  · exact ⟨(h.2 rfl).1.trans (k.2 rfl).1.symm, rfl⟩
  · have hw := k.1 rfl
    exact absurd hw.1.2.2.1 ((h.2 rfl).2 v hw.1.2.1)
  · have hw := h.1 rfl
    exact absurd hw.1.2.2.1 ((k.2 rfl).2 w hw.1.2.1)
  · exact ⟨(h.1 rfl).uniq (k.1 rfl), rfl⟩
/-- What Iter answers. -/
def IterAns (a : Option AM) (w : List Nat) (ok : Bool) : Prop := (finM a 0 = true → w = [] ∧ ok = true) ∧ (finM a 0 = false → FirstR (iterG a) w ok)
theorem IterAns.uniq {a : Option AM} {w v : List Nat} {ok ok' : Bool} (h : IterAns a w ok) (k : IterAns a v ok') : w = v ∧ ok = ok' := by
  cases hf : finM a 0 with
  | true =>
    obtain ⟨rfl, rfl⟩ := h.1 hf
    obtain ⟨rfl, rfl⟩ := k.1 hf
    exact ⟨rfl, rfl⟩
  | false => exact (h.2 hf).uniq (k.2 hf)
end Go.Proofs.YthomdogheamfpaaDoor
/- The document's Cells: the walk. -/
set_option linter.unusedVariables false
set_option linter.unusedSimpArgs false
set_option maxRecDepth 100000
namespace Go.Proofs.YthomdogheamfpaaDoor
open Go.VC
attribute [local irreducible] mRun atRun gRun

def fdG (sim : Nat → Nat → Bool) (b : Nat) (l : List Nat) : Int := match l.findIdx? fun g => sim b g with
  | some k => (k : Int)
  | none => -1
theorem fdG_none {sim : Nat → Nat → Bool} {b : Nat} {l : List Nat} : fdG sim b l < 0 ↔ (l.findIdx? fun g => sim b g) = none := by
  unfold fdG
  split
  · rename_i k h; rw [h]; simp
  · rename_i h; rw [h]; simp
theorem fdG_in {sim : Nat → Nat → Bool} {b : Nat} {l : List Nat} : -1 ≤ fdG sim b l ∧ fdG sim b l < l.length := by
  unfold fdG
  split
  · rename_i k h
    have := (List.findIdx?_eq_some_iff_getElem.1 h).1
    omega
  · omega
theorem fdG_snoc {sim : Nat → Nat → Bool} {b g : Nat} {l : List Nat} (h : fdG sim b l < 0) : fdG sim b (l ++ [g]) = if sim b g then (l.length : Int) else -1 := by
  have h1 := fdG_none.1 h
  unfold fdG
  rw [List.findIdx?_append, h1]
  simp only [List.findIdx?_singleton, Option.none_or]
  cases hs : sim b g <;> simp
theorem fdG_take {sim : Nat → Nat → Bool} {b k : Nat} {l : List Nat} (h : 0 ≤ fdG sim b (l.take k)) : fdG sim b l = fdG sim b (l.take k) := by
  have h1 : (l.take k).findIdx? (fun g => sim b g) ≠ none := fun h2 => by have := fdG_none.2 h2; omega
  cases h2 : (l.take k).findIdx? (fun g => sim b g) with
  | none => exact absurd h2 h1
  | some k0 =>
    have h3 : l.findIdx? (fun g => sim b g) = some k0 := by
      conv => lhs; rw [← List.take_append_drop k l]
      rw [List.findIdx?_append, h2]; rfl
    unfold fdG
    rw [h2, h3]

def simTo (D : DM) (b g j : Nat) : Bool := (List.range j).all fun q => stepD D (q : Int) b == stepD D (q : Int) g
def simD (D : DM) (b g : Nat) : Bool := simTo D b g D.next.length
theorem simTo_succ (D : DM) (b g j : Nat) : simTo D b g (j + 1) = (simTo D b g j && (stepD D (j : Int) b == stepD D (j : Int) g)) := by
  unfold simTo
  rw [List.range_succ, List.all_append]; simp
theorem simD_refl (D : DM) (a : Nat) : simD D a a = true := by simp [simD, simTo]
theorem simTo_no {D : DM} {b g j : Nat} (hj : j ≤ D.next.length) (h : simTo D b g j = false) : simD D b g = false := by
  cases hs : simD D b g with
  | false => rfl
  | true =>
    unfold simD simTo at hs
    have : simTo D b g j = true := by
      unfold simTo
      rw [List.all_eq_true] at hs ⊢
      exact fun q hq => hs q (List.mem_range.2 (by have := List.mem_range.1 hq; omega))
    rw [this] at h; cases h

set_option maxHeartbeats 8000000 in
theorem refcells_o {S : Nat → Prop} {H : Heap} {v : Value} {D : DM} (hS : ∀ k, S k → k < H.size) (hw : DfaV S H v D) (hdok : D.Ok) :
    FnOk Tryd.prog 57 #[v] H fun v H' => Agr (Old H) H H' ∧ H.size ≤ H'.size ∧ ∃ a cap, v = .slice a (gRun (simD D) 256).1.length cap ∧
      SlO tF (fun _ => False) H' H.size 112 (.slice a (gRun (simD D) 256).1.length cap) (atSets (gRun (simD D) 256).2 (gRun (simD D) 256).1.length) := by
  have hlen := hw.len
  have hdn := hdok.n2
  refine FnOk.of_vc Tryd.func57 rfl (Tryd.call57 _) ?_
  (conv => whnf); refine dfa_box hw fun ra rc na nc fa' fc' he h1 h2 h3 => ?_
  subst he
  intro pb H1 hpb hs1 hb1 ha1
  have hA1 : Agr (Old H) H H1 := ha1.mono fun j hj => by unfold Old at hj; omega
  (conv => whnf)
  refine VLoop.mk [3, 4, 5] (fun x : Nat × Value × Value => match x with | (b, vo, vf) => [vo, vf, .int .i64 b]) (fun x H2 => x.1 ≤ 256 ∧ Agr (Old H1) H1 H2 ∧ H1.size ≤ H2.size ∧
    SlO tF (fun _ => False) H2 H1.size 112 x.2.1 (atSets (gRun (simD D) x.1).2 (gRun (simD D) x.1).1.length) ∧ SlO tI (fun _ => False) H2 H1.size 3 x.2.2 (asI (gRun (simD D) x.1).1) ∧ ∀ j, slB x.2.1 j → ¬ slB x.2.2 j) (fun x _ => 256 - x.1) ?_ ?_
  · (conv => whnf)
    exact ⟨(0, .slice none 0 0, .slice none 0 0), rfl, by simp, Agr.refl _ _, Nat.le_refl _, by unfold gRun; exact SlO.nil, by unfold gRun; exact SlO.nil, fun j hj => by obtain ⟨o, n, c, h⟩ := hj; cases h⟩
  · rintro ⟨b, vo, vf⟩ H2 junk ⟨hb, ha2, hs2, ho, hf, hap⟩
    simp only at hb ho hf hap
    have hok := gRun_ok (simD_refl D) b
    have hfl := hok.flen
    obtain ⟨fa, fcap, rfl, hfv, -⟩ := hf.view (S' := Old H2) (fun j hj => (hf.lt hj).2) (fun _ f => f.elim)
    obtain ⟨oa, ocap, rfl, hov, -⟩ := ho.view (S' := Old H2) (fun j hj => (ho.lt hj).2) (fun _ f => f.elim)
    rw [asI_len, atSets_len] at *
    have hA2 : Agr (Old H) H H2 := hA1.trans (ha2.mono fun k hk => old_lt hA1 hk)
    have hb2 := hb1.agr ha2 hb1.lt
    (conv => whnf); refine VIte.mk (fun h => ?_) (fun h => ?_) <;> simp only [decide_eq_true_eq, decide_eq_false_iff_not] at h
    · (conv => whnf)
      refine VLoop.mk [6, 7] (fun k : Nat => [.int .i64 (fdG (simD D) b ((gRun (simD D) b).1.take k)), .int .i64 k]) (fun k H3 => k ≤ (gRun (simD D) b).1.length ∧ Agr (Old H2) H2 H3) (fun k _ => (gRun (simD D) b).1.length - k) ?_ ?_
      · (conv => whnf); exact ⟨0, rfl, by omega, Agr.refl _ _⟩
      · rintro k H3 junk3 ⟨hk, ha3⟩
        have hs3 := old_size ha3
        by_cases hkl : k < (gRun (simD D) b).1.length
        · have d1 : decide ((k : Int) < ((gRun (simD D) b).1.length : Int)) = true := decide_eq_true (by omega)
          (conv => whnf); rw [d1]
          (conv => whnf); refine VIte.mk (fun h1' => ?_) (fun h1' => ?_) <;> simp only [decide_eq_true_eq, decide_eq_false_iff_not] at h1'
          · obtain ⟨g, hg⟩ := get_some hkl
            have hgb := (hok.first k g hg).1
            (conv => whnf); refine VSeq.run ?_
            (conv => whnf)
            refine VLoop.mk [8, 9] (fun j : Nat => [.bool (simTo D b g j), .int .i64 j]) (fun j H4 => j ≤ D.next.length ∧ Agr (Old H2) H2 H4) (fun j _ => D.next.length - j) ?_ ?_
            · (conv => whnf); exact ⟨0, rfl, by omega, ha3⟩
            · rintro j H4 junk4 ⟨hj, ha4⟩
              have hA4 := hA2.trans (ha4.mono fun k hk => old_lt hA2 hk)
              have hb4 := hb2.agr ha4 hb2.lt
              have up : ∀ {H' : Heap}, Agr (Old H) H H' → ∀ k, S k → k < H'.size := fun h k hk => old_lt h (hS k hk)
              have hneg : fdG (simD D) b ((gRun (simD D) b).1.take k) = -1 := by have := (fdG_in (sim := simD D) (b := b) (l := (gRun (simD D) b).1.take k)).1; omega
              (conv => whnf); refine VC.fa fl35_2 ?_
              (conv => whnf); refine ld1 ct23 (by rw [hb4.cell, Nat.zero_add]; exact dfaL_257 hlen) trivial ?_
              by_cases hjl : j < D.next.length
              · have d2 : decide ((j : Int) < (D.next.length : Int)) = true := decide_eq_true (by omega)
                cases hal : simTo D b g j with
                | true =>
                  (conv => whnf); rw [d2]
                  (conv => whnf); refine VDraw.quiet (Old H4) rfl (by kernel_rfl) ?_
                  (conv => whnf); refine dfa_load hb4 hlen hb4.lt (h1.frame (hA4.mono hS)) (h2.frame (hA4.mono hS)) (h3.frame (hA4.mono hS)) fun v5 hv5 => ?_
                  (conv => whnf); rw [w8 (x := (b : Int)) (by omega) (by omega)]
                  (conv => whnf); refine pureq (fun H' h' => refstep_p (up (hA4.trans (h'.mono fun k hk => old_lt hA4 hk))) (hv5.frame (h'.mono fun k hk => up hA4 k hk)) hdok (show b < 256 by omega)) ?_
                  (conv => whnf); refine dfa_load hb4 hlen hb4.lt (h1.frame (hA4.mono hS)) (h2.frame (hA4.mono hS)) (h3.frame (hA4.mono hS)) fun v6 hv6 => ?_
                  (conv => whnf); refine ixrn sl33 (hfv.frame ha4) (asI_len _).symm (asI_get hg) rfl ?_
                  rintro b6 o6 cs6 hSb6 hcells6 ⟨rfl, -⟩
                  (conv => whnf); refine ld1 ct3 hcells6.one (old_lt ha4 hSb6) ?_
                  (conv => whnf); rw [w8 (x := (g : Int)) (by omega) (by omega)]
                  (conv => whnf); refine pureq (fun H' h' => refstep_p (up (hA4.trans (h'.mono fun k hk => old_lt hA4 hk))) (hv6.frame (h'.mono fun k hk => up hA4 k hk)) hdok (show g < 256 by omega)) ?_
                  (conv => whnf)
                  intro H5 ha5
                  (conv => whnf); rw [w64 (x := (j : Int) + 1) (by omega) (by omega)]
                  exact ⟨rfl, j + 1, by rw [simTo_succ, hal]; simp, ⟨by omega, ha4.trans (ha5.mono fun k hk => old_lt ha4 hk)⟩, by omega⟩
                | false =>
                  have hs := simTo_no hj hal
                  (conv => whnf); rw [d2]
                  (conv => whnf); rw [w64 (x := (k : Int) + 1) (by omega) (by omega)]
                  refine ⟨rfl, k + 1, ?_, ⟨by omega, ha4⟩, by omega⟩
                  rw [take_succ_snoc hg, fdG_snoc h1', hs, hneg]; simp
              · obtain rfl : j = D.next.length := by omega
                have d2 : decide ((D.next.length : Int) < (D.next.length : Int)) = false := decide_eq_false (by omega)
                rw [show simTo D b g D.next.length = simD D b g from rfl]
                cases hs : simD D b g with
                | true =>
                  (conv => whnf); rw [d2]
                  (conv => whnf); rw [w64 (x := (k : Int) + 1) (by omega) (by omega)]
                  refine ⟨rfl, k + 1, ?_, ⟨by omega, ha4⟩, by omega⟩
                  rw [take_succ_snoc hg, fdG_snoc h1', hs]
                  simp; omega
                | false =>
                  (conv => whnf); rw [d2]
                  (conv => whnf); rw [w64 (x := (k : Int) + 1) (by omega) (by omega)]
                  refine ⟨rfl, k + 1, ?_, ⟨by omega, ha4⟩, by omega⟩
                  rw [take_succ_snoc hg, fdG_snoc h1', hs, hneg]; simp
          · rw [← fdG_take (by omega)]
            replace h1' : 0 ≤ fdG (simD D) b (gRun (simD D) b).1 := by rw [fdG_take (k := k) (by omega)]; omega
            replace ho := ho.agr ha3 (fun j hj => (ho.lt hj).2) (fun _ f => f.elim)
            replace hf := hf.agr ha3 (fun j hj => (hf.lt hj).2) (fun _ f => f.elim)
            replace ha2 := ha2.trans (ha3.mono fun k hk => old_lt ha2 hk)
            replace hs2 : H1.size ≤ H3.size := by omega
            cases hfi : (gRun (simD D) b).1.findIdx? fun g => simD D b g with
            | none => exact absurd (fdG_none.2 hfi) (by omega)
            | some k0 =>
              have hk0 := (List.findIdx?_eq_some_iff_getElem.1 hfi).1
              have hfd : fdG (simD D) b (gRun (simD D) b).1 = (k0 : Int) := by unfold fdG; rw [hfi]
              rw [hfd]
              have hnext : gRun (simD D) (b + 1) = ((gRun (simD D) b).1, (gRun (simD D) b).2 ++ [k0]) := gRun_some hfi
              obtain ⟨vb, cap, l, e1, hlo, hblk, hlen, hput⟩ := SlO.byte ho (atSets_get hk0) (show b < 256 by omega)
              rw [atSets_len] at e1
              injection e1 with e2 e3 e4
              subst e2; subst e4
              (conv => whnf); refine VSeq.run ?_
              (conv => whnf); refine ix slF_ (by omega) (by omega) ?_
              (conv => whnf); refine ixa ar112 (by omega) (by omega) ?_
              (conv => whnf); refine st1 ct4 hblk (by rw [show tF.size = 256 from rfl]; omega) rfl ?_
              intro H6 hb6 ha6 hs6
              rw [show 0 + ((k0 : Nat) : Int).toNat * tF.size + ((b : Nat) : Int).toNat * 1 = k0 * 256 + b by rw [show tF.size = 256 from rfl]; omega] at hb6
              have ho6 := hput H6 hb6
              have hput2 := atSets_put (ps := (gRun (simD D) b).2) hk0
              rw [hok.plen] at hput2
              rw [hput2] at ho6
              have hf6 := hf.agr ha6 (fun j hj => by rintro rfl; exact hap _ ⟨0, _, _, rfl⟩ hj) (fun _ f => f.elim)
              (conv => whnf); rw [w64 (x := (b : Int) + 1) (by omega) (by omega)]
              refine ⟨rfl, (b + 1, .slice (some ⟨vb, 0, none⟩) (gRun (simD D) b).1.length ocap, .slice fa (gRun (simD D) b).1.length fcap), by simp, ⟨by simp only; omega, ha2.trans (ha6.mono fun j hj => by unfold Old at hj; omega), by omega, ?_, ?_, hap⟩, by simp only; omega⟩
              · simp only [hnext]; exact ho6
              · simp only [hnext]; exact hf6
        · obtain rfl : k = (gRun (simD D) b).1.length := by omega
          have d1 : decide (((gRun (simD D) b).1.length : Int) < ((gRun (simD D) b).1.length : Int)) = false := decide_eq_false (by omega)
          rw [List.take_length]
          replace ho := ho.agr ha3 (fun j hj => (ho.lt hj).2) (fun _ f => f.elim)
          replace hf := hf.agr ha3 (fun j hj => (hf.lt hj).2) (fun _ f => f.elim)
          replace ha2 := ha2.trans (ha3.mono fun k hk => old_lt ha2 hk)
          replace hs2 : H1.size ≤ H3.size := by omega
          (conv => whnf); rw [d1]
          by_cases h1' : fdG (simD D) b (gRun (simD D) b).1 < 0
          · have hfi := fdG_none.1 h1'
            have hfd : fdG (simD D) b (gRun (simD D) b).1 = -1 := by have := (fdG_in (sim := simD D) (b := b) (l := (gRun (simD D) b).1)).1; omega
            rw [hfd]
            have hnext : gRun (simD D) (b + 1) = ((gRun (simD D) b).1 ++ [b], (gRun (simD D) b).2 ++ [(gRun (simD D) b).1.length]) := gRun_none hfi
            have hlt' : ∀ p ∈ (gRun (simD D) b).2, p < (gRun (simD D) b).1.length := hok.lt
            (conv => whnf); refine VSeq.run ?_
            (conv => whnf); refine vbuildA ar112 (Tryd.t112.zero.getD undef) rfl (List.replicate 256 (.bool false)) rfl ?_
            (conv => whnf); refine vbuild1 slF_ (List.replicate 256 (.bool false)) rfl rfl (by decide) (by decide) ?_
            intro q4 H4 hq4 hs4 hb4 ha4
            have ho4 := ho.agr ha4 (fun j hj => by have := (ho.lt hj).2; omega) (fun _ f => f.elim)
            have hf4 := hf.agr ha4 (fun j hj => by have := (hf.lt hj).2; omega) (fun _ f => f.elim)
            (conv => whnf); refine vappendO (T := tF) (S := fun _ => False) (ys := [fun _ => false]) (ds := List.replicate 256 (.bool false)) (lo := H1.size) (xs := atSets (gRun (simD D) b).2 (gRun (simD D) b).1.length) slF_ ho4 (by omega) (fun j hj => hj.elim)
              (hb4.cells (fun j v hv => by rw [Nat.zero_add]; exact hv)) (Ty.reps_one (show List.replicate 256 (Value.bool false) = funL (fun _ => false) from funL_zero.symm)) rfl (by intro u hu; rw [List.eq_of_mem_replicate hu]; rfl) (by rw [atSets_len]; simp only [maxLen, List.length_singleton]; omega) (by rw [atSets_len]; simp only [List.length_singleton]; omega) ?_
            intro v5 H5 ho5 ha5 hs5 hfr5
            rw [← atSets_more _ _ hlt'] at ho5
            have hf5 := hf4.agr ha5 (fun j hj => ⟨(hf4.lt hj).2, fun h => hap j h hj⟩) (fun _ f => f.elim)
            have hb5 : Blk H5 q4 112 (List.replicate 256 (.bool false)) := hb4.agr ha5 ⟨hb4.lt, fun h => by have := (ho.lt h).2; omega⟩
            (conv => whnf); refine vbuild1 sl33 [.int .i64 (b : Int)] rfl rfl (by decide) (by decide) ?_
            intro q6 H6 hq6 hs6 hb6 ha6
            have ho6 := ho5.agr ha6 (fun j hj => by have := (ho5.lt hj).2; omega) (fun _ f => f.elim)
            have hf6 := hf5.agr ha6 (fun j hj => by have := (hf5.lt hj).2; omega) (fun _ f => f.elim)
            (conv => whnf); refine vappendO (T := tI) (S := fun _ => False) (ys := [(b : Int)]) (ds := [.int .i64 (b : Int)]) (lo := H1.size) (xs := asI (gRun (simD D) b).1) sl33 hf6 (by omega) (fun j hj => hj.elim)
              (hb6.cells (fun j v hv => by simpa using hv)) (Ty.reps_one ⟨rfl, inI64 (by omega)⟩) rfl (by intro u hu; cases List.mem_singleton.1 hu; rfl) (by rw [asI_len]; simp only [maxLen, List.length_singleton]; omega) (by rw [asI_len]; simp only [List.length_singleton]; omega) ?_
            intro v7 H7 hf7 ha7 hs7 hfr7
            have hap5 : ∀ j, slB v5 j → ¬ slB (.slice fa (gRun (simD D) b).1.length fcap) j := fun j hj hj' => by
              rcases hfr5 j hj with h | h
              · exact hap j h hj'
              · have := (hf.lt hj').2; omega
            have ho7 := ho6.agr ha7 (fun j hj => ⟨(ho6.lt hj).2, hap5 j hj⟩) (fun _ f => f.elim)
            have hap7 : ∀ j, slB v5 j → ¬ slB v7 j := fun j hj hj' => by
              rcases hfr7 j hj' with h | h
              · exact hap5 j hj h
              · have := (ho6.lt hj).2; omega
            have hget7 : (atSets (gRun (simD D) b).2 ((gRun (simD D) b).1.length + 1))[(gRun (simD D) b).1.length]? = some (atSet (gRun (simD D) b).2 (gRun (simD D) b).1.length) := atSets_get (by omega)
            obtain ⟨vb, cap, l, e1, hlo, hblk, hlen, hput⟩ := SlO.byte ho7 hget7 (show b < 256 by omega)
            subst e1
            rw [atSets_len] at *
            have hnn : (gRun (simD D) b).1.length < (gRun (simD D) b).1.length + 1 := by omega
            (conv => whnf); refine ix slF_ (by omega) (by omega) ?_
            (conv => whnf); refine ixa ar112 (by omega) (by omega) ?_
            (conv => whnf); refine st1 ct4 hblk (by rw [show tF.size = 256 from rfl]; omega) rfl ?_
            intro H8 hb8 ha8 hs8
            rw [show 0 + (((gRun (simD D) b).1.length : Nat) : Int).toNat * tF.size + ((b : Nat) : Int).toNat * 1 = (gRun (simD D) b).1.length * 256 + b by rw [show tF.size = 256 from rfl]; omega] at hb8
            have ho8 := hput H8 hb8
            have hput2 := atSets_put (ps := (gRun (simD D) b).2) hnn
            rw [hok.plen] at hput2
            rw [hput2] at ho8
            have hf8 := hf7.agr ha8 (fun j hj => by rintro rfl; exact hap7 _ ⟨0, _, _, rfl⟩ hj) (fun _ f => f.elim)
            have hA8 : Agr (Old H1) H1 H8 := ((((ha2.trans (ha4.mono fun j hj => by have := old_lt ha2 hj; omega)).trans (ha5.mono fun j hj => ⟨by have := old_lt ha2 hj; omega, fun h => by have := (ho.lt h).1; unfold Old at hj; omega⟩)).trans (ha6.mono fun j hj => by have := old_lt ha2 hj; omega)).trans (ha7.mono fun j hj => ⟨by have := old_lt ha2 hj; omega, fun h => by have := (hf.lt h).1; unfold Old at hj; omega⟩)).trans (ha8.mono fun j hj => by unfold Old at hj; omega)
            (conv => whnf); rw [w64 (x := (b : Int) + 1) (by omega) (by omega)]
            refine ⟨rfl, (b + 1, _, _), rfl, ⟨by simp only; omega, hA8, by omega, ?_, ?_, hap7⟩, by simp only; omega⟩
            · simp only [hnext, List.length_append, List.length_singleton]; exact ho8
            · simp only [hnext, asI, List.map_append, List.map_cons, List.map_nil]; exact hf8
          · replace h1' : 0 ≤ fdG (simD D) b (gRun (simD D) b).1 := by omega
            cases hfi : (gRun (simD D) b).1.findIdx? fun g => simD D b g with
            | none => exact absurd (fdG_none.2 hfi) (by omega)
            | some k0 =>
              have hk0 := (List.findIdx?_eq_some_iff_getElem.1 hfi).1
              have hfd : fdG (simD D) b (gRun (simD D) b).1 = (k0 : Int) := by unfold fdG; rw [hfi]
              rw [hfd]
              have hnext : gRun (simD D) (b + 1) = ((gRun (simD D) b).1, (gRun (simD D) b).2 ++ [k0]) := gRun_some hfi
              obtain ⟨vb, cap, l, e1, hlo, hblk, hlen, hput⟩ := SlO.byte ho (atSets_get hk0) (show b < 256 by omega)
              rw [atSets_len] at e1
              injection e1 with e2 e3 e4
              subst e2; subst e4
              (conv => whnf); refine VSeq.run ?_
              (conv => whnf); refine ix slF_ (by omega) (by omega) ?_
              (conv => whnf); refine ixa ar112 (by omega) (by omega) ?_
              (conv => whnf); refine st1 ct4 hblk (by rw [show tF.size = 256 from rfl]; omega) rfl ?_
              intro H6 hb6 ha6 hs6
              rw [show 0 + ((k0 : Nat) : Int).toNat * tF.size + ((b : Nat) : Int).toNat * 1 = k0 * 256 + b by rw [show tF.size = 256 from rfl]; omega] at hb6
              have ho6 := hput H6 hb6
              have hput2 := atSets_put (ps := (gRun (simD D) b).2) hk0
              rw [hok.plen] at hput2
              rw [hput2] at ho6
              have hf6 := hf.agr ha6 (fun j hj => by rintro rfl; exact hap _ ⟨0, _, _, rfl⟩ hj) (fun _ f => f.elim)
              (conv => whnf); rw [w64 (x := (b : Int) + 1) (by omega) (by omega)]
              refine ⟨rfl, (b + 1, .slice (some ⟨vb, 0, none⟩) (gRun (simD D) b).1.length ocap, .slice fa (gRun (simD D) b).1.length fcap), by simp, ⟨by simp only; omega, ha2.trans (ha6.mono fun j hj => by unfold Old at hj; omega), by omega, ?_, ?_, hap⟩, by simp only; omega⟩
              · simp only [hnext]; exact ho6
              · simp only [hnext]; exact hf6
    · obtain rfl : b = 256 := by omega
      obtain ⟨oa2, ocap2, e2, hov2, -⟩ := ho.view (S' := Fresh H H2) (fun j hj => ⟨by have := (ho.lt hj).1; omega, (ho.lt hj).2⟩) (fun _ f => f.elim)
      rw [atSets_len] at e2
      injection e2 with e3 e4 e5
      subst e3; subst e5
      (conv => whnf)
      exact ⟨hA2, by omega, _, _, rfl, ho.lower (by omega)⟩
theorem refcells_c {S : Nat → Prop} {H : Heap} {v : Value} {D : DM} (hS : ∀ k, S k → k < H.size) (hw : DfaV S H v D) (hdok : D.Ok) :
    FnOk Tryd.prog 57 #[v] H fun v H' => Agr (Old H) H H' ∧ H.size ≤ H'.size ∧ ∃ a cap, v = .slice a (gRun (simD D) 256).1.length cap ∧
      SlD tF (Fresh H H') H' a cap (atSets (gRun (simD D) 256).2 (gRun (simD D) 256).1.length) := by
  refine (refcells_o hS hw hdok).mono ?_
  rintro v' H' ⟨h1, h2, a, cap, rfl, h3⟩
  obtain ⟨a', cap', e, h4, -⟩ := h3.view (S' := Fresh H H') (fun j hj => h3.lt hj) (fun _ f => f.elim)
  rw [atSets_len] at e
  injection e with e1 e2 e3
  subst e1; subst e3
  exact ⟨h1, h2, a, cap, rfl, h4⟩

end Go.Proofs.YthomdogheamfpaaDoor
/- The program's automaton and the document's, side by side. -/
set_option linter.unusedVariables false
set_option linter.unusedSimpArgs false
set_option maxRecDepth 100000
namespace Go.Proofs.YthomdogheamfpaaDoor
open Go.VC
attribute [local irreducible] mRun atRun

/-- The program's automaton and the document's are alike. -/
structure Both (o : Option AM) (D : DM) : Prop where
  ok : D.Ok
  n : stN o = D.next.length
  step : ∀ (q : Int) (b : Nat), b < 256 → stepM o q b = stepD D q b
  fin : ∀ q : Int, finM o q = finD D q
  alive : ∀ q : Int, aliveM o q = aliveD D q
theorem both_of (cells : List (BitVec 256)) (next : List (List Int)) (final : List Bool) : Both (autoOf cells next final) (dfaOf cells next final) :=
  ⟨dfaOf_ok _ _ _, both_n _ _ _, fun q b hb => both_step _ _ _ q hb, both_final _ _ _, both_alive _ _ _⟩
section
variable {o : Option AM} {D : DM}
theorem Both.fold (h : Both o D) : ∀ (l : List UInt8) (q : Int), l.foldl (fun q b => stepM o q b.toNat) q = l.foldl (fun q b => stepD D q b.toNat) q
  | [], _ => rfl
  | b :: l, q => by simp only [List.foldl_cons, h.step q b.toNat (UInt8.toNat_lt b)]; exact h.fold l _
theorem Both.run (h : Both o D) (s : ByteArray) (k : Nat) : runM o s k = runD D s k := h.fold _ _
theorem Both.acc (h : Both o D) (s : ByteArray) : acceptsM o s = acceptsD D s := by
  unfold acceptsM acceptsD
  rw [h.run, h.fin]
theorem dead_step (hok : D.Ok) {q : Int} {b : Nat} (h0 : 0 ≤ q) (h1 : q < D.next.length) (hb : b < 256) (h : aliveD D q = false) : aliveD D (stepD D q b) = false := by
  obtain ⟨n, rfl⟩ := Int.eq_ofNat_of_zero_le h0
  obtain ⟨row, c, t, hr, hc, ht, _, h2, h3, h4⟩ := hok.at (q := n) (b := b) (by omega) hb
  rw [stepD_at hr hc ht]
  obtain ⟨t', rfl⟩ := Int.eq_ofNat_of_zero_le h2
  unfold aliveD at h ⊢
  rw [decide_eq_false_iff_not] at h ⊢
  exact fun hl => h (.step hr h4 (by simpa using hl))
theorem dead_fin {q : Int} (h : aliveD D q = false) : finD D q = false := by
  unfold aliveD at h
  rw [decide_eq_false_iff_not] at h
  unfold finD
  cases hq : D.final[q.toNat]? with
  | none => simp
  | some b =>
    cases b with
    | false => simp
    | true => exact absurd (.fin hq) h
theorem dead_run (hok : D.Ok) (s : ByteArray) {k : Nat} (h : aliveD D (runD D s k) = false) : ∀ j, k + j ≤ s.size → aliveD D (runD D s (k + j)) = false
  | 0, _ => h
  | j + 1, hj => by
    obtain ⟨b, hb⟩ := get_byte (s := s) (k := k + j) (by omega)
    have hr := runD_range hok s (k + j) (by omega)
    rw [← Nat.add_assoc, runD_succ hb]
    exact dead_step hok hr.1 hr.2 (UInt8.toNat_lt b) (dead_run hok s h j (by omega))
theorem dead_acc (hok : D.Ok) (s : ByteArray) {k : Nat} (hk : k ≤ s.size) (h : aliveD D (runD D s k) = false) : acceptsD D s = false := by
  have := dead_run hok s h (s.size - k) (by omega)
  rw [show k + (s.size - k) = s.size by omega] at this
  exact dead_fin this

/-- The final state of a number. -/
theorem fin_at (hok : D.Ok) {q : Int} (h0 : 0 ≤ q) (h1 : q < D.next.length) : D.final[q.toNat]? = some (finD D q) := by
  have hfl := hok.fl
  obtain ⟨f, hf⟩ := get_some (l := D.final) (k := q.toNat) (by omega)
  unfold finD
  rw [hf, decide_eq_true h0]; rfl

end
end Go.Proofs.YthomdogheamfpaaDoor
/- The document's side of layer 9: the bytes that stand for all, the game's rules. -/
set_option linter.unusedVariables false
set_option linter.unusedSimpArgs false
set_option maxRecDepth 100000
namespace Go.Proofs.YthomdogheamfpaaDoor
open Go.VC
attribute [local irreducible] mRun gRun atRun

/-! ### cells as sets of bits -/
def bvF (f : Nat → Bool) : Nat → BitVec 256
  | 0 => 0#256
  | n + 1 => if f n then bvF f n ||| spanS n n else bvF f n
theorem bvF_bit (f : Nat → Bool) {b : Nat} (hb : b < 256) : ∀ n, (bvF f n).getLsbD b = (decide (b < n) && f b)
  | 0 => by simp [bvF]
  | n + 1 => by
    have ih := bvF_bit f hb n
    unfold bvF
    split
    · rename_i hf
      rw [BitVec.getLsbD_or, ih, spanS_bit n n b hb]
      by_cases h : b = n
      · subst h; simp [hf]
      · have h1 : decide (b < n + 1) = decide (b < n) := by rw [decide_eq_decide]; omega
        have h2 : (decide (n ≤ b) && decide (b ≤ n)) = false := by simp; omega
        rw [h1, h2, Bool.or_false]
    · rename_i hf
      rw [ih]
      by_cases h : b = n
      · subst h; simp [hf]
      · have h1 : decide (b < n + 1) = decide (b < n) := by rw [decide_eq_decide]; omega
        rw [h1]
def bvN (f : Nat → Bool) : BitVec 256 := bvF f 256
theorem bvN_bit (f : Nat → Bool) {b : Nat} (hb : b < 256) : (bvN f).getLsbD b = f b := by
  unfold bvN
  rw [bvF_bit f hb, decide_eq_true hb, Bool.true_and]
theorem funL_bits (f : Nat → Bool) : funL f = bitsL (bvN f) := by
  unfold funL bitsL bitsTo
  refine List.map_congr_left fun b hb => ?_
  have hb := List.mem_range.1 hb
  rw [bvN_bit f hb, decide_eq_true hb, Bool.true_and]
theorem reps_bits {S : Nat → Prop} {H : Heap} : ∀ {cs : List Value} {fs : List (Nat → Bool)}, tF.reps S H cs fs → tB.reps S H cs (fs.map bvN)
  | _, [], h => h
  | _, f :: fs, ⟨c, r, e, hc, hr⟩ => ⟨c, r, e, (show c = bitsL (bvN f) by rw [← funL_bits]; exact hc), reps_bits hr⟩
def cellsD (D : DM) : List (BitVec 256) := (atSets (gRun (simD D) 256).2 (gRun (simD D) 256).1.length).map bvN
theorem refcellsB {S : Nat → Prop} {H : Heap} {v : Value} {D : DM} (hS : ∀ k, S k → k < H.size) (hw : DfaV S H v D) (hdok : D.Ok) :
    FnOk Tryd.prog 57 #[v] H fun v H' => Agr (Old H) H H' ∧ SlO tB none_ H' H.size 112 v (cellsD D) := by
  refine (refcells_o hS hw hdok).mono ?_
  rintro v' H' ⟨h1, h2, a, cap, rfl, cs, h3, h4⟩
  refine ⟨h1, cs, ?_, reps_bits h4⟩
  unfold cellsD
  rw [List.length_map]
  exact h3
theorem cellsD_len (D : DM) : 0 < (cellsD D).length ∧ (cellsD D).length ≤ 256 := by
  have hg := gRun_ok (simD_refl D) 256
  unfold cellsD
  rw [List.length_map, atSets_len]
  have h0 : (gRun (simD D) 256).2.length = 256 := hg.plen
  obtain ⟨p, hp⟩ := get_some (l := (gRun (simD D) 256).2) (k := 0) (by omega)
  have := hg.lt p (List.mem_of_getElem? hp)
  exact ⟨by omega, hg.flen⟩
/-- The bytes that the document goes by. -/
def repsD (A B : DM) : List Nat := (atRun (cellsD A ++ cellsD B) 256).1
theorem repsD_lt (A B : DM) : ∀ r ∈ repsD A B, r < 256 := fun r hr => by
  obtain ⟨k, hk⟩ := List.getElem?_of_mem hr
  exact ((atRun_ok (cellsD A ++ cellsD B) 256).first k r hk).1
theorem repsD_len (A B : DM) : (repsD A B).length ≤ 256 := (atRun_ok (cellsD A ++ cellsD B) 256).flen
theorem atRun_up (cells : List (BitVec 256)) : ∀ b, (atRun cells b).1.Pairwise (· < ·)
  | 0 => by rw [atRun]; exact List.Pairwise.nil
  | b + 1 => by
    have ih := atRun_up cells b
    cases hf : (atRun cells b).1.findIdx? (fun g => sigEq cells b g) with
    | some k => rw [atRun_some hf]; exact ih
    | none =>
      rw [atRun_none hf]
      refine List.pairwise_append.2 ⟨ih, List.pairwise_singleton _ _, fun a ha c hc => ?_⟩
      rw [List.mem_singleton] at hc
      subst hc
      obtain ⟨k, hk⟩ := List.getElem?_of_mem ha
      exact ((atRun_ok cells c).first k a hk).1
theorem repsD_up (A B : DM) : (repsD A B).Pairwise (· < ·) := atRun_up _ 256
theorem cellsD_same {D : DM} {r c : Nat} (hr : r < 256) (hc : c < 256) (h : ∀ s ∈ cellsD D, s.getLsbD r = s.getLsbD c) (q : Int) : stepD D q r = stepD D q c := by
  have hg := gRun_ok (simD_refl D) 256
  by_cases hq : q < 0 ∨ (D.next.length : Int) ≤ q
  · unfold stepD
    rw [if_pos hq, if_pos hq]
  · obtain ⟨p, hp⟩ := get_some (l := (gRun (simD D) 256).2) (k := c) (by rw [hg.plen]; exact hc)
    have hpl := hg.lt p (List.mem_of_getElem? hp)
    obtain ⟨l, hl⟩ := get_some hpl
    have hin : bvN (atSet (gRun (simD D) 256).2 p) ∈ cellsD D := List.mem_map.2 ⟨_, List.mem_map.2 ⟨p, List.mem_range.2 hpl, rfl⟩, rfl⟩
    have hb := h _ hin
    rw [bvN_bit _ hr, bvN_bit _ hc] at hb
    have hpc : atSet (gRun (simD D) 256).2 p c = true := by unfold atSet; rw [hp]; simp
    rw [hpc] at hb
    have hpr : (gRun (simD D) 256).2[r]? = some p := by simpa [atSet] using hb
    have key : ∀ x, (gRun (simD D) 256).2[x]? = some p → stepD D q x = stepD D q l := fun x hx => by
      have h1 := (hg.sig x p l hx hl).1
      unfold simD simTo at h1
      obtain ⟨n, rfl⟩ := Int.eq_ofNat_of_zero_le (show 0 ≤ q by omega)
      have := List.all_eq_true.1 h1 n (List.mem_range.2 (by omega))
      simpa using this
    rw [key r hpr, key c hp]
theorem repsD_cov (A B : DM) : ∀ c, c < 256 → ∃ r ∈ repsD A B, r ≤ c ∧ (∀ q, stepD A q r = stepD A q c) ∧ ∀ q, stepD B q r = stepD B q c := fun c hc => by
  have ha := atRun_ok (cellsD A ++ cellsD B) 256
  obtain ⟨p, hp⟩ := get_some (l := (atRun (cellsD A ++ cellsD B) 256).2) (k := c) (by rw [ha.plen]; exact hc)
  obtain ⟨g, hg⟩ := get_some (ha.lt p (List.mem_of_getElem? hp))
  obtain ⟨h1, h2⟩ := ha.sig c p g hp hg
  have hg8 := (ha.first p g hg).1
  unfold sigEq at h1
  have h3 : ∀ s ∈ cellsD A ++ cellsD B, s.getLsbD g = s.getLsbD c := fun s hs => by
    have := List.all_eq_true.1 h1 s hs
    simp only [beq_iff_eq] at this
    exact this.symm
  exact ⟨g, List.mem_of_getElem? hg, h2, cellsD_same hg8 hc fun s hs => h3 s (List.mem_append.2 (.inl hs)), cellsD_same hg8 hc fun s hs => h3 s (List.mem_append.2 (.inr hs))⟩
end Go.Proofs.YthomdogheamfpaaDoor
/- Automata of the document in memory, parted bytes; two states of memory one behind the other. -/
set_option linter.unusedVariables false
set_option linter.unusedSimpArgs false
set_option maxRecDepth 100000
namespace Go.VC
/-- What was made later stands beside what was there. -/
theorem StB.cat {B : Nat → Prop} {H0 H H' : Heap} {ps qs : List Pc} (st : StB B H0 H ps) (st2 : St H H' qs) : StB B H0 H' (ps ++ qs) := by
  have h1 := st.call st2.old
  refine ⟨h1.old, h1.lt0, h1.size, fun p hp => ?_, fun p hp k hk => ?_, ?_⟩
  · rcases List.mem_append.1 hp with hp | hp
    · exact h1.oks p hp
    · exact st2.oks p hp
  · rcases List.mem_append.1 hp with hp | hp
    · exact h1.rng p hp k hk
    · obtain ⟨h2, h3⟩ := st2.rng p hp k hk
      exact ⟨fun hB => h2 (st.up hB), h3⟩
  · refine List.pairwise_append.2 ⟨h1.dis, st2.dis, fun p hp q hq k hk hk' => ?_⟩
    exact (st2.rng q hq k hk').1 (st.rng p hp k hk).2
end Go.VC
namespace Go.Proofs.YthomdogheamfpaaDoor
open Go.VC
attribute [local irreducible] mRun gRun atRun
theorem dfa_len {S : Nat → Prop} {H : Heap} {la : List Value} {D : DM} (h : DfaV S H (.agg la.toArray) D) : la.length = 259 ∧ ∃ fa fc, la[258]? = some (.slice fa D.final.length fc) ∧ SlD tBool S H fa fc D.final := by
  obtain ⟨hl, ra, rc, na, nc, fa, fc, e, h1, h2, h3⟩ := h
  injection e with e
  have e : la = dfaL D.cell (.slice ra D.reps.length rc) (.slice na D.next.length nc) (.slice fa D.final.length fc) := by simpa using e
  subst e
  exact ⟨dfaL_len hl, fa, fc, dfaL_258 hl, h3⟩
theorem fin_ix {S S0 : Nat → Prop} {H : Heap} {fa : Option Addr} {fc : Nat} {D : DM} {x : Int} {K : Value → Prop} (h : SlD tBool S H fa fc D.final) (h0 : 0 ≤ x) (h1 : x < D.final.length) (hk : ∀ b o, S b → VC.cell H b o = some (.bool (finD D x)) → K (.pointer (some ⟨b, o, none⟩))) :
    VDet Tryd.prog (Instr.indexAt 24 (.slice fa D.final.length fc) (.int .i64 x)) S0 H K := by
  obtain ⟨n, rfl⟩ := Int.eq_ofNat_of_zero_le h0
  obtain ⟨f, hf⟩ := get_some (l := D.final) (k := n) (by omega)
  refine ixr (i := n) sl24 h hf rfl ?_
  rintro b o cs hS hc rfl
  refine hk b o hS ?_
  rw [hc.one]
  simp [finD, hf]
/-- A slice that is only read, as a piece. -/
def pV (a : Option Addr) (cap : Nat) (xs : List Int) (S : Nat → Prop) : Pc := ⟨S, fun H => SlD tI S H a cap xs, fun h hp => hp.frame h⟩
theorem splice_whole {l cs : List Value} (h : l.length = cs.length) : splice l 0 cs = cs := by
  apply List.ext_getElem?
  intro j
  by_cases hj : j < cs.length
  · rw [splice_get (by omega), if_pos ⟨Nat.zero_le _, by omega⟩, Nat.sub_zero]
  · rw [List.getElem?_eq_none (by rw [splice_length (by omega)]; omega), List.getElem?_eq_none (by omega)]
theorem partedB {ca : Option Addr} {cc n : Nat} {cells : List (BitVec 256)} {S : Nat → Prop} {H : Heap} (hn : n = cells.length) (hS : ∀ k, S k → k < H.size) (hc : SlD tB S H ca cc cells) (hl : cells.length ≤ 4194304) :
    FnOk Tryd.prog 64 #[.slice ca n cc] H fun v H' => Agr (Old H) H H' ∧ ∃ cell ra rc, cell.length = 256 ∧ v = .agg (dfaL cell (.slice ra (atRun cells 256).1.length rc) (.slice none 0 0) (.slice none 0 0)).toArray ∧ SlD tI (Fresh H H') H' ra rc (asI (atRun cells 256).1) := by
  subst hn
  refine (parted_c ca cc cells S H hS hc hl).mono ?_
  rintro v H' ⟨h1, -, ra, rc, rfl, h2⟩
  exact ⟨h1, _, ra, rc, by unfold asI; rw [List.length_map]; exact (atRun_ok cells 256).plen, rfl, h2⟩
theorem bA_append (u v : List Nat) : bA u ++ bA v = bA (u ++ v) := by
  apply text_inj
  rw [bA_data, ByteArray.data_append, Array.toList_append, bA_data, bA_data, List.map_append]
end Go.Proofs.YthomdogheamfpaaDoor
/- The document's Determinize: the walk. -/
set_option linter.unusedVariables false
set_option linter.unusedSimpArgs false
set_option maxRecDepth 100000
namespace Go.Proofs.YthomdogheamfpaaDoor
open Go.VC
attribute [local irreducible] mRun gRun atRun
theorem bk_z : (Tryd.prog.info? 148).bind (·.zero) = some (.agg (Value.slice none 0 0 :: List.replicate 1024 (Value.slice none 0 0)).toArray) := by kernel_rfl
theorem bkSl_nil (j : Nat) (H : Heap) : (bkSl [] j).ok H (.slice none 0 0) := SlO.nil
def setsD (a : NfM) : List (BitVec 256) := (a.edges.filter fun e => !e.sil).map fun e => e.set
def repD (a : NfM) : List Nat := (atRun (setsD a) 256).1
abbrev zD : List Value := dfaL (List.replicate 256 0) (.slice none 0 0) (.slice none 0 0) (.slice none 0 0)
theorem edDL_set (e : EdM) : ∀ (j : Nat) (v : Value), (bitsL e.set)[j]? = some v → (edDL e)[3 + j]? = some v := by
  intro j v h
  unfold edDL
  rw [List.getElem?_append_right (by simp)]
  simpa using h
theorem setsTo_snoc {a : NfM} {i : Nat} {e : EdM} (h : a.edges[i]? = some e) : ((a.edges.take (i + 1)).filter fun e => !e.sil).map (fun e => e.set) = (((a.edges.take i).filter fun e => !e.sil).map fun e => e.set) ++ if e.sil then [] else [e.set] := by
  rw [take_succ_snoc h, List.filter_append, List.map_append]
  cases hs : e.sil <;> simp [hs]
theorem row_set {row : List Nat} {m k t : Nat} (hr : row.length = k) (hk : k < m) : (rowI row ++ List.replicate (m - row.length) 0).set k (t : Int) = rowI (row ++ [t]) ++ List.replicate (m - (row ++ [t]).length) 0 := by
  have hl : (rowI row).length = k := by unfold rowI; rw [List.length_map, hr]
  obtain ⟨d, hd⟩ : ∃ d, m - row.length = d + 1 := ⟨m - row.length - 1, by omega⟩
  rw [hd, List.replicate_succ, List.set_append_right _ _ (by omega), hl, Nat.sub_self, List.set_cons_zero]
  unfold rowI
  rw [List.map_append, List.append_assoc, List.length_append, show m - (row.length + [t].length) = d by simp only [List.length_cons, List.length_nil]; omega]
  rfl
theorem detBadD_p {S : Nat → Prop} {H : Heap} {v : Value} {a : NfM} {b : Int} (h : NdV S H v a) (hb : b < 1 ∨ 4096 < b) :
    FnOk Tryd.prog 33 #[v, .int .i64 b] H fun r H' => Agr (Old H) H H' ∧ ∃ l : List Value, r = .tuple #[.agg l.toArray, .int .i64 2] ∧ l.length = 259 ∧ l.all (·.oneCell') = true := by
  refine FnOk.of_vc Tryd.func33 rfl (Tryd.call33 _) ?_
  (conv => whnf); refine nd_box h fun ea ec he0 h1 => ?_
  subst he0
  intro p H1 hp hs1 hb1 ha1
  have st1 := (St.nil H).box hp hs1 hb1 ha1
  (conv => whnf); refine valloc _ zD rfl (by kernel_rfl) ?_
  intro p4 H2 hp4 hs2 hb2 ha2
  have st2 := st1.box hp4 hs2 hb2 ha2
  have go : ∀ (K : Prop), (∀ v3 H3, Agr (Old H2) H2 H3 → DfaV (Fresh H2 H3) H3 v3 noneD → K) → True := fun _ _ => trivial
  by_cases hl : b < 1
  · have d1 : decide (b < (1 : Int)) = true := decide_eq_true hl
    (conv => whnf); rw [d1]
    (conv => whnf); refine VCall.mk (none_c H2) ?_
    rintro v3 H3 ⟨ha3, -, hv3⟩
    obtain ⟨hl3, x1, x2, x3, x4, x5, x6, rfl, -, -, -⟩ := hv3
    have st3 := st2.call ha3
    (conv => whnf); refine stNB (cs := dfaL noneD.cell (.slice x1 noneD.reps.length x2) (.slice x3 noneD.next.length x4) (.slice x5 noneD.final.length x6)) st3 1 (by rw [dfaL_len hl3]; rfl) rfl (by rw [dfaL_len hl3]; decide) (dfaL_ones rfl rfl rfl) fun H4 st4 => ?_
    rw [splice_whole (by rw [dfaL_len hl3]; rfl)] at st4
    (conv => whnf); refine ldN (cs := dfaL noneD.cell (.slice x1 noneD.reps.length x2) (.slice x3 noneD.next.length x4) (.slice x5 noneD.final.length x6)) (by rw [dfaL_len hl3]; exact ag35) ((st4.blk 1 rfl).cells fun j v hv => by rw [Nat.zero_add]; exact hv) trivial ?_
    exact ⟨st4.old, _, rfl, dfaL_len hl3, dfaL_ones rfl rfl rfl⟩
  · have d1 : decide (b < (1 : Int)) = false := decide_eq_false hl
    have d2 : decide ((4096 : Int) < b) = true := decide_eq_true (by omega)
    (conv => whnf); rw [d1]
    (conv => whnf); rw [d2]
    (conv => whnf); refine VCall.mk (none_c H2) ?_
    rintro v3 H3 ⟨ha3, -, hv3⟩
    obtain ⟨hl3, x1, x2, x3, x4, x5, x6, rfl, -, -, -⟩ := hv3
    have st3 := st2.call ha3
    (conv => whnf); refine stNB (cs := dfaL noneD.cell (.slice x1 noneD.reps.length x2) (.slice x3 noneD.next.length x4) (.slice x5 noneD.final.length x6)) st3 1 (by rw [dfaL_len hl3]; rfl) rfl (by rw [dfaL_len hl3]; decide) (dfaL_ones rfl rfl rfl) fun H4 st4 => ?_
    rw [splice_whole (by rw [dfaL_len hl3]; rfl)] at st4
    (conv => whnf); refine ldN (cs := dfaL noneD.cell (.slice x1 noneD.reps.length x2) (.slice x3 noneD.next.length x4) (.slice x5 noneD.final.length x6)) (by rw [dfaL_len hl3]; exact ag35) ((st4.blk 1 rfl).cells fun j v hv => by rw [Nat.zero_add]; exact hv) trivial ?_
    exact ⟨st4.old, _, rfl, dfaL_len hl3, dfaL_ones rfl rfl rfl⟩
/-- What the document's Determinize answers, of a budget that may be. -/
noncomputable def DetD (a : NfM) (budget : Nat) (H H' : Heap) (r : Value) : Prop := Agr (Old H) H H' ∧
  match detF budget (stepA a) (repD a) (lstS (begS a)) with
  | none => ∃ l : List Value, r = .tuple #[.agg l.toArray, .int .i64 40] ∧ l.length = 259 ∧ l.all (·.oneCell') = true
  | some (F, rows) => ∃ v, r = .tuple #[v, .int .i64 0] ∧ DfaV (Fresh H H') H' v ⟨asI (atRun (setsD a) 256).2, asI (repD a), rows.map rowI, F.map fun l => decide (a.fin ∈ l)⟩
set_option maxHeartbeats 32000000 in
theorem detD_c {S0 : Nat → Prop} {H : Heap} {v : Value} {a : NfM} {budget : Nat} (hS0 : ∀ k, S0 k → k < H.size) (h : NdV S0 H v a) (hb1 : 1 ≤ budget) (hb2 : budget ≤ 4096) :
    FnOk Tryd.prog 33 #[v, .int .i64 (budget : Int)] H fun r H' => DetD a budget H H' r := by
  have hr := h.1
  have hl := h.2.1
  have d1 : decide ((budget : Int) < 1) = false := decide_eq_false (by omega)
  have d2 : decide ((4096 : Int) < (budget : Int)) = false := decide_eq_false (by omega)
  have hnle := nstA_le a
  refine FnOk.of_vc Tryd.func33 rfl (Tryd.call33 _) ?_
  (conv => whnf); refine nd_box h fun ea ec he0 h1 => ?_
  subst he0
  intro p H1 hp hs1 hbb1 ha1
  have st1 := (St.nil H).box hp hs1 hbb1 ha1
  (conv => whnf); refine valloc _ zD rfl (by kernel_rfl) ?_
  intro p4 H2 hp4 hs2 hbb2 ha2
  have st2 := st1.box hp4 hs2 hbb2 ha2
  (conv => whnf); rw [d1]
  (conv => whnf); rw [d2]
  have st3 := st2.nils tB 112
  have hcap : ∀ i, (((a.edges.take i).filter fun e => !e.sil).map fun e => e.set).length ≤ i := fun i => by
    rw [List.length_map]
    exact Nat.le_trans (List.length_filter_le _ _) (List.length_take_le _ _)
  (conv => whnf)
  refine VLoop.mk [6, 7] (fun x : Nat × Option Addr × Nat => match x with | (i, a5, c5) => [.slice a5 (((a.edges.take i).filter fun e => !e.sil).map fun e => e.set).length c5, .int .i64 (i : Int)])
    (fun x H3 => match x with | (i, a5, c5) => i ≤ a.edges.length ∧ St H H3 [pB 67 p (nfL a (.slice ea a.edges.length ec)), pB 35 p4 zD, pS tB 112 a5 (((a.edges.take i).filter fun e => !e.sil).map fun e => e.set).length c5 (((a.edges.take i).filter fun e => !e.sil).map fun e => e.set)]) (fun x _ => a.edges.length - x.1) ?_ ?_
  · (conv => whnf)
    exact ⟨(0, none, 0), rfl, Nat.zero_le _, st3⟩
  · rintro ⟨i, a5, c5⟩ H3 junk3 ⟨hi, st4⟩
    have hcapi := hcap i
    have hp4' := st4.blk 0 rfl
    (conv => whnf); refine VC.fa fl67_3 ?_
    (conv => whnf); refine ld1 (v := .slice ea a.edges.length ec) ct65 (by rw [hp4'.cell]; rfl) trivial ?_
    (conv => whnf); refine VIte.mk (fun hz => ?_) (fun hz => ?_) <;> simp only [decide_eq_true_eq, decide_eq_false_iff_not] at hz
    · obtain ⟨e, he⟩ := get_some (l := a.edges) (k := i) (by omega)
      have hsn := setsTo_snoc he
      (conv => whnf); refine VSeq.run ?_
      (conv => whnf); refine VC.fa fl67_3 ?_
      (conv => whnf); refine ld1 (v := .slice ea a.edges.length ec) ct65 (by rw [hp4'.cell]; rfl) trivial ?_
      (conv => whnf); refine ixr (i := i) sl65 (h1.frame (st4.old.mono hS0)) he rfl ?_
      rintro b6 o6 c6 hS6 hc6 ⟨rfl, hok⟩
      (conv => whnf); refine VC.fa fl143_2 ?_
      (conv => whnf); refine ld1 (v := .bool e.sil) ct4 (hc6 2 _ rfl) trivial ?_
      cases hsil : e.sil with
      | true =>
        rw [hsil, if_pos rfl, List.append_nil] at hsn
        (conv => whnf); rw [w64 (x := (i : Int) + 1) (by omega) (by omega)]
        refine ⟨rfl, (i + 1, a5, c5), by simp only [hsn]; simp, ⟨by omega, ?_⟩, by simp only; omega⟩
        rw [hsn]
        exact st4
      | false =>
        rw [hsil, if_neg (by decide)] at hsn
        (conv => whnf); refine VC.fa fl67_3 ?_
        (conv => whnf); refine ld1 (v := .slice ea a.edges.length ec) ct65 (by rw [hp4'.cell]; rfl) trivial ?_
        (conv => whnf); refine ixr (i := i) sl65 (h1.frame (st4.old.mono hS0)) he rfl ?_
        rintro b7 o7 c7 hS7 hc7 ⟨rfl, hok⟩
        (conv => whnf); refine VC.fa fl143_3 ?_
        (conv => whnf); refine ldN (cs := bitsL e.set) (by rw [show (bitsL e.set).length = 256 from bitsTo_len _ _]; exact ag112) (fun j v hv => by rw [Nat.add_assoc]; exact hc7 (3 + j) v (edDL_set e j v hv)) trivial ?_
        (conv => whnf); refine vbuild1 sl96 (bitsL e.set) rfl (bitsTo_len _ _) (by decide) (by decide) ?_
        intro q8 H8 hq8 hs8 hb8 ha8
        (conv => whnf); refine appO (ys := [e.set]) (st4.skip hq8 ha8) 2 sl96 rfl (hb8.cells (o := 0) (cs := bitsL e.set) fun j v hv => by rw [Nat.zero_add]; exact hv) (Ty.reps_one rfl) rfl (fun u hu => List.all_eq_true.1 (bits_ones e.set 256) u hu) (by simp only [List.length_cons, List.length_nil]; omega) (by decide) fun a9 c9 H9 st9 _ => ?_
        have e2 : (((a.edges.take i).filter fun e => !e.sil).map fun e => e.set).length + [e.set].length = (((a.edges.take (i + 1)).filter fun e => !e.sil).map fun e => e.set).length := by rw [hsn]; exact List.length_append.symm
        rw [← hsn, e2] at st9
        rw [e2]
        (conv => whnf); rw [w64 (x := (i : Int) + 1) (by omega) (by omega)]
        exact ⟨rfl, (i + 1, a9, c9), by simp, ⟨by omega, st9⟩, by simp only; omega⟩
    · obtain rfl : i = a.edges.length := by omega
      rw [List.take_length] at st4 hcapi
      rw [List.take_length]
      change St H H3 [_, _, pS tB 112 a5 (setsD a).length c5 (setsD a)] at st4
      change (setsD a).length ≤ _ at hcapi
      rw [show ((a.edges.filter fun e => !e.sil).map fun e => e.set) = setsD a from rfl]
      (conv => whnf); refine VCall.mk (parted_c a5 c5 (setsD a) (Old H3) H3 (fun k hk => hk) (st4.view 2 rfl) (by omega)) ?_
      rintro v5 H5 ⟨ha5, -, ra, rc, rfl, hreps⟩
      have hcl : (asI (atRun (setsD a) 256).2).length = 256 := by rw [asI_len]; exact (atRun_ok (setsD a) 256).plen
      have hrlt : ∀ r ∈ (atRun (setsD a) 256).1, r < 256 := fun r hr => by obtain ⟨i, hi⟩ := List.getElem?_of_mem hr; exact ((atRun_ok (setsD a) 256).first i r hi).1
      have hrlen : (atRun (setsD a) 256).1.length ≤ 256 := (atRun_ok (setsD a) 256).flen
      obtain ⟨reps, hreq⟩ : ∃ reps, reps = (atRun (setsD a) 256).1 := ⟨_, rfl⟩
      obtain ⟨cell, hceq⟩ : ∃ cell, cell = asI (atRun (setsD a) 256).2 := ⟨_, rfl⟩
      rw [← hreq] at hreps hrlt hrlen
      rw [← hceq] at hcl
      rw [← hreq, ← hceq]
      have hgoal : DetD a budget = fun (H H' : Heap) (r : Value) => Agr (Old H) H H' ∧ match detF budget (stepA a) reps (lstS (begS a)) with
        | none => ∃ l : List Value, r = .tuple #[.agg l.toArray, .int .i64 40] ∧ l.length = 259 ∧ l.all (·.oneCell') = true
        | some (F, rows) => ∃ v, r = .tuple #[v, .int .i64 0] ∧ DfaV (Fresh H H') H' v ⟨cell, asI reps, rows.map rowI, F.map fun l => decide (a.fin ∈ l)⟩ := by
        rw [hreq, hceq]
        rfl
      rw [hgoal]
      clear hgoal
      have st5 := st4.add ha5 (pV ra rc (asI reps) (Fresh H3 H5)) hreps (fun k hk => hk)
      obtain ⟨SV, hSV⟩ : ∃ SV, SV = Fresh H3 H5 := ⟨_, rfl⟩
      rw [← hSV] at st5
      have hl259 : ∀ nv fv, (dfaL cell (.slice ra reps.length rc) nv fv).length = 259 := fun nv fv => dfaL_len hcl
      (conv => whnf); refine valloc _ zD rfl (by kernel_rfl) ?_
      intro p8 H6 hp8 hs6 hb6 ha6
      have st6 := st5.box hp8 hs6 hb6 ha6
      (conv => whnf); refine stNB (cs := dfaL cell (.slice ra reps.length rc) (.slice none 0 0) (.slice none 0 0)) st6 4 (by rw [hl259]; rfl) rfl (by rw [hl259]; decide) (dfaL_ones rfl rfl rfl) fun H7 st7 => ?_
      rw [splice_whole (by rw [hl259]; rfl)] at st7
      (conv => whnf); refine nd_load hr hl (st7.blk 0 rfl) ag67 trivial (h1.frame (st7.old.mono hS0)) fun v8 hv8 => ?_
      (conv => whnf); refine VCall.mk (tabled_c (fun k hk => st7.up (hS0 k hk)) hv8) ?_
      rintro _ H8 ⟨nb, tb, ma, mc, vt, rfl, u8⟩
      have st8 := st7.cat u8
      rw [← mkM_nil] at st8
      (conv => whnf); refine vbuildS Tryd.underlying148 rfl _ bk_z (Value.slice none 0 0 :: List.replicate 1024 (Value.slice none 0 0)) rfl ?_
      (conv => whnf); refine vbox (Value.slice none 0 0 :: List.replicate 1024 (Value.slice none 0 0)) rfl ?_
      intro bb H9 hbb hs9 hb9 ha9
      have st9 : St H H9 [pB tTb nb (tbL (nstA a) (.slice (some ⟨tb, 0, none⟩) (nstA a) (nstA a)) (.slice ma (nstA a) mc)), pT tEdD 143 65 tb vt (outT a), pS tBool 4 ma (nstA a) mc (mkM (nstA a) []), pN (tSl tIk) none_ 33 none 0 0 [], pG tBook bb (.slice none 0 0) (List.replicate 1024 (.slice none 0 0)) (bkSl []), pN (tSl tIk) none_ 33 none 0 0 [], pS tBool 4 none 0 0 [], pB 35 p8 (dfaL cell (.slice ra reps.length rc) (.slice none 0 0) (.slice none 0 0)), pV ra rc (asI reps) SV, pB 67 p (nfL a (.slice ea a.edges.length ec)), pB 35 p4 zD] :=
        (((((st8.box hbb hs9 hb9 ha9).gNew (ss := bkSl []) 8 rfl bkSl_nil).nils (tSl tIk) 33).nils (tSl tIk) 33).nils tBool 4).pick [5, 6, 7, 9, 8, 10, 11, 4, 3, 0, 1] (by decide)
      have hvl0 : (List.replicate 1024 (Value.slice none 0 0)).length = 1024 := by simp
      generalize List.replicate 1024 (Value.slice none 0 0) = vs0 at *
      have hbeg : ∀ q ∈ lstS (begS a), a.has q = true := fun q hq => begS_has a q ((lstS_mem (has_rng (begS_has a)) q).1 hq)
      have hhn : a.has a.start = (decide (0 ≤ a.start) && decide (a.start < (nstA a : Int))) := has_n a a.start
      (conv => whnf)
      refine VSeq.cut (α := Option Addr × Nat) [11] (fun x => [.slice x.1 (lstS (begS a)).length x.2]) (fun x H10 => St H H10 [pB tTb nb (tbL (nstA a) (.slice (some ⟨tb, 0, none⟩) (nstA a) (nstA a)) (.slice ma (nstA a) mc)), pT tEdD 143 65 tb vt (outT a), pS tBool 4 ma (nstA a) mc (mkM (nstA a) []), pS tIk 3 x.1 (lstS (begS a)).length x.2 (lstS (begS a)), pN (tSl tIk) none_ 33 none 0 0 [], pG tBook bb (.slice none 0 0) vs0 (bkSl []), pN (tSl tIk) none_ 33 none 0 0 [], pS tBool 4 none 0 0 [], pB 35 p8 (dfaL cell (.slice ra reps.length rc) (.slice none 0 0) (.slice none 0 0)), pV ra rc (asI reps) SV, pB 67 p (nfL a (.slice ea a.edges.length ec)), pB 35 p4 zD]) ?_ ?_
      · have hp9 := st9.blk 9 rfl
        have ht9 := st9.blk 0 rfl
        have hno : a.has a.start = false → lstS (begS a) = [] := fun hst => by
          rw [lstS_uniq (X := begS a) (l := []) (has_rng (begS_has a)) List.Pairwise.nil fun q => ⟨fun h => (by cases h), fun h => by
            obtain ⟨r, ⟨-, h2⟩, -⟩ := h
            rw [hst] at h2; cases h2⟩]
        have st9n : St H H9 [pB tTb nb (tbL (nstA a) (.slice (some ⟨tb, 0, none⟩) (nstA a) (nstA a)) (.slice ma (nstA a) mc)), pT tEdD 143 65 tb vt (outT a), pS tBool 4 ma (nstA a) mc (mkM (nstA a) []), pS tIk 3 none 0 0 [], pN (tSl tIk) none_ 33 none 0 0 [], pG tBook bb (.slice none 0 0) vs0 (bkSl []), pN (tSl tIk) none_ 33 none 0 0 [], pS tBool 4 none 0 0 [], pB 35 p8 (dfaL cell (.slice ra reps.length rc) (.slice none 0 0) (.slice none 0 0)), pV ra rc (asI reps) SV, pB 67 p (nfL a (.slice ea a.edges.length ec)), pB 35 p4 zD] := (st9.nils tIk 3).pick [0, 1, 2, 11, 3, 4, 5, 6, 7, 8, 9, 10] (by decide)
        (conv => whnf); refine VDraw.lex rfl (by kernel_rfl) ?_
        (conv => whnf); refine VC.fa fl67_1 ?_
        (conv => whnf); refine ld1 (v := .int .i64 a.start) ct3 (by rw [hp9.cell]; rfl) trivial ?_
        by_cases c0 : 0 ≤ a.start
        · have e0 : decide (0 ≤ a.start) = true := decide_eq_true c0
          (conv => whnf); rw [e0]
          (conv => whnf); refine VC.fa fl67_1 ?_
          (conv => whnf); refine ld1 (v := .int .i64 a.start) ct3 (by rw [hp9.cell]; rfl) trivial ?_
          (conv => whnf); refine VC.fa fl151_0 ?_
          (conv => whnf); refine ld1 (v := .int .i64 (nstA a : Int)) ct3 (by rw [ht9.cell]; rfl) trivial ?_
          by_cases c1 : a.start < (nstA a : Int)
          · have e1 : decide (a.start < (nstA a : Int)) = true := decide_eq_true c1
            have hst : a.has a.start = true := by rw [hhn, e0, e1]; rfl
            (conv => whnf); rw [e1]
            (conv => whnf); refine VC.fa fl67_1 ?_
            (conv => whnf); refine ld1 (v := .int .i64 a.start) ct3 (by rw [hp9.cell]; rfl) trivial ?_
            (conv => whnf); refine vbuild1 sl33 [.int .i64 a.start] rfl rfl (by decide) (by decide) ?_
            intro y H10 hy hs10 hb10 ha10
            have st10 : St H H10 [pB tTb nb (tbL (nstA a) (.slice (some ⟨tb, 0, none⟩) (nstA a) (nstA a)) (.slice ma (nstA a) mc)), pT tEdD 143 65 tb vt (outT a), pS tBool 4 ma (nstA a) mc (mkM (nstA a) []), pS tIk 3 (some ⟨y, 0, none⟩) [a.start].length 1 [a.start], pN (tSl tIk) none_ 33 none 0 0 [], pG tBook bb (.slice none 0 0) vs0 (bkSl []), pN (tSl tIk) none_ 33 none 0 0 [], pS tBool 4 none 0 0 [], pB 35 p8 (dfaL cell (.slice ra reps.length rc) (.slice none 0 0) (.slice none 0 0)), pV ra rc (asI reps) SV, pB 67 p (nfL a (.slice ea a.edges.length ec)), pB 35 p4 zD] :=
              (st9.new (T := tIk) (n := 1) (xs := [a.start]) hy hs10 hb10 ha10 (Ty.reps_one ⟨rfl, kint ⟨c0, by omega⟩⟩) rfl (by unfold maxLen; omega)).pick [0, 1, 2, 11, 3, 4, 5, 6, 7, 8, 9, 10] (by decide)
            have e : (fun q => q ∈ [a.start]) = fun q => q = a.start ∧ a.has a.start = true := funext fun q => propext (by simp [hst])
            (conv => whnf); refine settled_v (X := [a.start]) st10 (fun q hq => by rw [List.mem_singleton] at hq; subst hq; exact hst) (by simp only [List.length_cons, List.length_nil]; omega) hl fun xa xc H11 st11 => ?_
            rw [e] at st11 ⊢
            (conv => whnf)
            exact ⟨rfl, (xa, xc), rfl, st11⟩
          · have e1 : decide (a.start < (nstA a : Int)) = false := decide_eq_false c1
            have hst : a.has a.start = false := by rw [hhn, e0, e1]; rfl
            (conv => whnf); rw [e1]
            (conv => whnf)
            refine ⟨rfl, (none, 0), by rw [hno hst]; rfl, ?_⟩
            rw [hno hst]
            exact st9n
        · have e0 : decide (0 ≤ a.start) = false := decide_eq_false c0
          have hst : a.has a.start = false := by rw [hhn, e0]; rfl
          (conv => whnf); rw [e0]
          (conv => whnf)
          refine ⟨rfl, (none, 0), by rw [hno hst]; rfl, ?_⟩
          rw [hno hst]
          exact st9n
      · rintro ⟨xa, xc⟩ H10 junk10 st10
        simp only at st10
        have hbegl : (lstS (begS a)).length ≤ 65536 := lstS_len _
        have hF0 : HasF a [lstS (begS a)] := fun l hl => by rw [List.mem_singleton] at hl; subst hl; exact ⟨hbeg, hbegl⟩
        have hrowsF0 : rowsF budget (stepA a) reps (lstS (begS a)) 0 = some ([lstS (begS a)], []) := rfl
        generalize lstS (begS a) = l0 at *
        (conv => whnf); refine add_v (F := []) (S := none_) (st10.pick [3, 4, 5, 0, 1, 2, 6, 7, 8, 9, 10, 11] (by decide)) hvl0 (by simp) (fun q hq => by have := NfM.has_iff.1 (hbeg q hq); omega) fun sa sc vs S H11 hvl st11 => ?_
        replace st11 : St H H11 [pB tTb nb (tbL (nstA a) (.slice (some ⟨tb, 0, none⟩) (nstA a) (nstA a)) (.slice ma (nstA a) mc)), pT tEdD 143 65 tb vt (outT a), pS tBool 4 ma (nstA a) mc (mkM (nstA a) []), pN (tSl tIk) S 33 sa [l0].length sc [l0], pG tBook bb (.slice sa [l0].length sc) vs (bkSl [l0]), pN (tSl tIk) none_ 33 none 0 0 [], pS tBool 4 none 0 0 [], pB 35 p8 (dfaL cell (.slice ra reps.length rc) (.slice none 0 0) (.slice none 0 0)), pV ra rc (asI reps) SV, pB 67 p (nfL a (.slice ea a.edges.length ec)), pB 35 p4 zD] := st11.pick [2, 3, 4, 0, 1, 5, 6, 7, 8, 9, 10] (by decide)
        clear st10 st9 st8 st7 st6 st5 st4 st3 st2 st1 u8
        (conv => whnf)
        refine VLoop.mk [5, 12] (fun q : Nat => [.int .i64 0, .int .i64 (q : Int)]) (fun q H4 => ∃ F rows sa sc vs S na nc fa fc Sn, q ≤ F.length ∧ F.length ≤ budget ∧ F.Nodup ∧ HasF a F ∧ rows.length = q ∧ rowsF budget (stepA a) reps l0 q = some (F, rows) ∧ vs.length = 1024 ∧ St H H4 [pB tTb nb (tbL (nstA a) (.slice (some ⟨tb, 0, none⟩) (nstA a) (nstA a)) (.slice ma (nstA a) mc)), pT tEdD 143 65 tb vt (outT a), pS tBool 4 ma (nstA a) mc (mkM (nstA a) []), pN (tSl tIk) S 33 sa F.length sc F, pG tBook bb (.slice sa F.length sc) vs (bkSl F), pN (tSl tIk) Sn 33 na q nc (rows.map rowI), pS tBool 4 fa q fc ((F.take q).map fun l => decide (a.fin ∈ l)), pB 35 p8 (dfaL cell (.slice ra reps.length rc) (.slice na q nc) (.slice fa q fc)), pV ra rc (asI reps) SV, pB 67 p (nfL a (.slice ea a.edges.length ec)), pB 35 p4 zD]) (fun q _ => budget - q) ?_ ?_
        · (conv => whnf)
          exact ⟨0, rfl, [l0], [], sa, sc, vs, S, none, 0, none, 0, none_, Nat.zero_le _, by simp only [List.length_cons, List.length_nil]; omega, by simp, hF0, rfl, hrowsF0, hvl, st11⟩
        · clear st11 hvl sa sc vs S
          rintro q H12 junk12 ⟨F, rows, sa, sc, vs, S, na, nc, fa, fc, Sn, hqF, hFm, hnd, hHF, hrl, hrun, hvl, st12⟩
          have hbk := st12.gblk 4 rfl
          (conv => whnf); refine VC.fa fl148_0 ?_
          (conv => whnf); refine ld1 (v := .slice sa F.length sc) ct23 (by rw [hbk.cell]; rfl) trivial ?_
          (conv => whnf); refine VIte.mk (fun hz => ?_) (fun hz => ?_) <;> simp only [decide_eq_true_eq, decide_eq_false_iff_not] at hz
          · obtain ⟨x, hx⟩ := get_some (l := F) (k := q) (by omega)
            obtain ⟨hxh, hxl⟩ := hHF x (List.mem_of_getElem? hx)
            have hnext : rowsF budget (stepA a) reps l0 (q + 1) = (reps.foldl (rowF budget (stepA a) x) (some (F, []))).map fun r => (r.1, rows ++ [r.2]) := by
              show (rowsF budget (stepA a) reps l0 q).bind _ = _
              rw [hrun]
              simp only [Option.bind_some, hx]
            (conv => whnf); refine VC.fa fl35_1 ?_
            (conv => whnf); refine ld1 (v := .slice ra reps.length rc) ct33 (by rw [(st12.blk 7 rfl).cell, Nat.zero_add]; exact dfaL_256 hcl) trivial ?_
            (conv => whnf); refine vmake1 sl33 rfl (by omega) (by omega) (by omega) (by omega) ?_
            intro rb H13 hrb hs13 hb13 ha13
            rw [Int.toNat_natCast] at hb13 ⊢
            have hz0 : tIk.reps none_ H13 (List.replicate reps.length (Value.int .i64 0)) (List.replicate reps.length (0 : Int)) := by
              have := reps_replicate (T := tIk) (S := none_) (H := H13) (c := [Value.int .i64 0]) (v := (0 : Int)) ⟨rfl, kint ⟨by decide, by decide⟩⟩ reps.length
              simpa using this
            have st13 := st12.new (T := tIk) (n := reps.length) (xs := List.replicate reps.length (0 : Int)) hrb hs13 (by simpa using hb13) ha13 hz0 (by simp) (by unfold maxLen; omega)
            (conv => whnf)
            refine VLoop.mk [14, 15] (fun i : Nat => [.bool (decide (a.fin ∈ x.take i)), .int .i64 (i : Int)]) (fun i H4 => i ≤ x.length ∧ St H H4 [pB tTb nb (tbL (nstA a) (.slice (some ⟨tb, 0, none⟩) (nstA a) (nstA a)) (.slice ma (nstA a) mc)), pT tEdD 143 65 tb vt (outT a), pS tBool 4 ma (nstA a) mc (mkM (nstA a) []), pN (tSl tIk) S 33 sa F.length sc F, pG tBook bb (.slice sa F.length sc) vs (bkSl F), pN (tSl tIk) Sn 33 na q nc (rows.map rowI), pS tBool 4 fa q fc ((F.take q).map fun l => decide (a.fin ∈ l)), pB 35 p8 (dfaL cell (.slice ra reps.length rc) (.slice na q nc) (.slice fa q fc)), pV ra rc (asI reps) SV, pB 67 p (nfL a (.slice ea a.edges.length ec)), pB 35 p4 zD, pS tIk 3 (some ⟨rb, 0, none⟩) reps.length reps.length (List.replicate reps.length (0 : Int))]) (fun i _ => x.length - i) ?_ ?_
            · (conv => whnf)
              exact ⟨0, by simp, Nat.zero_le _, st13⟩
            · clear st13
              rintro i H14 junk14 ⟨hi, st14⟩
              have hbk4 := st14.gblk 4 rfl
              have hnf := st14.blk 9 rfl
              (conv => whnf); refine VC.fa fl148_0 ?_
              (conv => whnf); refine ld1 (v := .slice sa F.length sc) ct23 (by rw [hbk4.cell]; rfl) trivial ?_
              (conv => whnf); refine ixO (j := q) sl23 st14 3 rfl hx rfl ?_
              rintro b3 o3 c3 hS3 hc3 ⟨xa3, xc3, rfl, hxd⟩
              (conv => whnf); refine ld1 ct33 hc3.one trivial ?_
              (conv => whnf); refine VIte.mk (fun hz2 => ?_) (fun hz2 => ?_) <;> simp only [decide_eq_true_eq, decide_eq_false_iff_not] at hz2
              · obtain ⟨y, hy⟩ := get_some (l := x) (k := i) (by omega)
                have htk := take_succ_snoc hy
                (conv => whnf); refine VDraw.lex rfl (by kernel_rfl) ?_
                by_cases hm : a.fin ∈ x.take i
                · have e1 : decide (a.fin ∈ x.take i) = true := decide_eq_true hm
                  have e2 : decide (a.fin ∈ x.take (i + 1)) = true := decide_eq_true (by rw [htk]; exact List.mem_append_left _ hm)
                  (conv => whnf); rw [e1]
                  (conv => whnf); rw [w64 (x := (i : Int) + 1) (by omega) (by omega)]
                  exact ⟨rfl, i + 1, by rw [e2]; rfl, ⟨by omega, st14⟩, by omega⟩
                · have e1 : decide (a.fin ∈ x.take i) = false := decide_eq_false hm
                  have e2 : decide (a.fin ∈ x.take (i + 1)) = (y == a.fin) := by
                    rw [htk, Bool.eq_iff_iff, decide_eq_true_eq, List.mem_append, List.mem_singleton, beq_iff_eq]
                    exact ⟨fun h => (h.resolve_left hm).symm, fun h => .inr h.symm⟩
                  (conv => whnf); rw [e1]
                  (conv => whnf); refine VC.fa fl148_0 ?_
                  (conv => whnf); refine ld1 (v := .slice sa F.length sc) ct23 (by rw [hbk4.cell]; rfl) trivial ?_
                  (conv => whnf); refine ixO (j := q) sl23 st14 3 rfl hx rfl ?_
                  rintro b4 o4 c4 hS4 hc4 ⟨xa4, xc4, rfl, hxd4⟩
                  (conv => whnf); refine ld1 ct33 hc4.one trivial ?_
                  (conv => whnf); refine ixr (i := i) sl33 hxd4 hy rfl ?_
                  rintro b5 o5 c5 hS5 hc5 ⟨rfl, -⟩
                  (conv => whnf); refine ld1 ct3 hc5.one trivial ?_
                  (conv => whnf); refine VC.fa fl67_2 ?_
                  (conv => whnf); refine ld1 (v := .int .i64 a.fin) ct3 (by rw [hnf.cell]; rfl) trivial ?_
                  (conv => whnf); rw [w64 (x := (i : Int) + 1) (by omega) (by omega)]
                  exact ⟨rfl, i + 1, by rw [e2]; rfl, ⟨by omega, st14⟩, by omega⟩
              · obtain rfl : i = x.length := by omega
                rw [List.take_length]
                (conv => whnf)
                refine VLoop.mk [5, 16] (fun k : Nat => [.int .i64 0, .int .i64 (k : Int)]) (fun k H4 => ∃ F2 row sa sc vs S, k ≤ reps.length ∧ F2.length ≤ budget ∧ F2.Nodup ∧ HasF a F2 ∧ F <+: F2 ∧ row.length = k ∧ (reps.take k).foldl (rowF budget (stepA a) x) (some (F, [])) = some (F2, row) ∧ vs.length = 1024 ∧ St H H4 [pB tTb nb (tbL (nstA a) (.slice (some ⟨tb, 0, none⟩) (nstA a) (nstA a)) (.slice ma (nstA a) mc)), pT tEdD 143 65 tb vt (outT a), pS tBool 4 ma (nstA a) mc (mkM (nstA a) []), pN (tSl tIk) S 33 sa F2.length sc F2, pG tBook bb (.slice sa F2.length sc) vs (bkSl F2), pN (tSl tIk) Sn 33 na q nc (rows.map rowI), pS tBool 4 fa q fc ((F.take q).map fun l => decide (a.fin ∈ l)), pB 35 p8 (dfaL cell (.slice ra reps.length rc) (.slice na q nc) (.slice fa q fc)), pV ra rc (asI reps) SV, pB 67 p (nfL a (.slice ea a.edges.length ec)), pB 35 p4 zD, pS tIk 3 (some ⟨rb, 0, none⟩) reps.length reps.length (rowI row ++ List.replicate (reps.length - row.length) 0)]) (fun k _ => reps.length - k) ?_ ?_
                · (conv => whnf)
                  exact ⟨0, rfl, F, [], sa, sc, vs, S, Nat.zero_le _, hFm, hnd, hHF, List.prefix_refl _, rfl, rfl, hvl, st14⟩
                · clear st14 hbk4 hnf hxd hc3 hS3 hbk hvl st12
                  rintro k H15 junk15 ⟨F2, row, sa, sc, vs, S, hk, hF2m, hnd2, hHF2, hpre, hrowl, hfold, hvl, st15⟩
                  have hx2 := pre_get hpre hx
                  (conv => whnf); refine VC.fa fl35_1 ?_
                  (conv => whnf); refine ld1 (v := .slice ra reps.length rc) ct33 (by rw [(st15.blk 7 rfl).cell, Nat.zero_add]; exact dfaL_256 hcl) trivial ?_
                  (conv => whnf); refine VIte.mk (fun hz2 => ?_) (fun hz2 => ?_) <;> simp only [decide_eq_true_eq, decide_eq_false_iff_not] at hz2
                  · obtain ⟨r, hrk⟩ := get_some (l := reps) (k := k) (by omega)
                    have hr256 := hrlt r (List.mem_of_getElem? hrk)
                    have st16 := st15.nils tIk 3
                    (conv => whnf)
                    refine VLoop.mk [17, 18] (fun y : Nat × List Int × Option Addr × Nat => match y with | (i, T, t5, t6) => [.slice t5 T.length t6, .int .i64 (i : Int)])
                      (fun y H4 => match y with | (i, T, t5, t6) => i ≤ x.length ∧ T.length ≤ i * 1048576 ∧ (∀ p, p ∈ T ↔ hopS a (· ∈ x.take i) r p) ∧ St H H4 [pB tTb nb (tbL (nstA a) (.slice (some ⟨tb, 0, none⟩) (nstA a) (nstA a)) (.slice ma (nstA a) mc)), pT tEdD 143 65 tb vt (outT a), pS tBool 4 ma (nstA a) mc (mkM (nstA a) []), pN (tSl tIk) S 33 sa F2.length sc F2, pG tBook bb (.slice sa F2.length sc) vs (bkSl F2), pN (tSl tIk) Sn 33 na q nc (rows.map rowI), pS tBool 4 fa q fc ((F.take q).map fun l => decide (a.fin ∈ l)), pB 35 p8 (dfaL cell (.slice ra reps.length rc) (.slice na q nc) (.slice fa q fc)), pV ra rc (asI reps) SV, pB 67 p (nfL a (.slice ea a.edges.length ec)), pB 35 p4 zD, pS tIk 3 (some ⟨rb, 0, none⟩) reps.length reps.length (rowI row ++ List.replicate (reps.length - row.length) 0), pS tIk 3 t5 T.length t6 T]) (fun y _ => x.length - y.1) ?_ ?_
                    · (conv => whnf)
                      refine ⟨(0, [], none, 0), rfl, Nat.zero_le _, Nat.zero_le _, fun p => ⟨fun h => (by cases h), fun h => ?_⟩, st16⟩
                      obtain ⟨e, -, -, -, h, -⟩ := h
                      simp at h
                    · clear st16
                      rintro ⟨i, T, t5, t6⟩ H17 junk17 ⟨hi, hTl, hT, st17⟩
                      have hbk17 := st17.gblk 4 rfl
                      (conv => whnf); refine VC.fa fl148_0 ?_
                      (conv => whnf); refine ld1 (v := .slice sa F2.length sc) ct23 (by rw [hbk17.cell]; rfl) trivial ?_
                      (conv => whnf); refine ixO (j := q) sl23 st17 3 rfl hx2 rfl ?_
                      rintro b3 o3 c3 hS3 hc3 ⟨xa3, xc3, rfl, hxd⟩
                      (conv => whnf); refine ld1 ct33 hc3.one trivial ?_
                      (conv => whnf); refine VIte.mk (fun hz3 => ?_) (fun hz3 => ?_) <;> simp only [decide_eq_true_eq, decide_eq_false_iff_not] at hz3
                      · obtain ⟨y, hy⟩ := get_some (l := x) (k := i) (by omega)
                        have hyh := hxh y (List.mem_of_getElem? hy)
                        obtain ⟨row2, hrow2, hrl2, hrm⟩ := outT_row hyh
                        have hyn : 0 ≤ y ∧ y < (nstA a : Int) := by
                          have := has_n a y
                          rw [hyh] at this
                          simpa using this.symm
                        obtain ⟨ea2, ec2, hvr, -⟩ := st17.row 1 rfl hrow2
                        (conv => whnf); refine VDraw.lex rfl (by kernel_rfl) ?_
                        (conv => whnf); refine VC.fa fl151_1 ?_
                        (conv => whnf); refine ld1 (v := .slice (some ⟨tb, 0, none⟩) (nstA a) (nstA a)) ct149 (by rw [(st17.blk 0 rfl).cell]; rfl) trivial ?_
                        (conv => whnf); refine VC.fa fl148_0 ?_
                        (conv => whnf); refine ld1 (v := .slice sa F2.length sc) ct23 (by rw [hbk17.cell]; rfl) trivial ?_
                        (conv => whnf); refine ixO (j := q) sl23 st17 3 rfl hx2 rfl ?_
                        rintro b4 o4 c4 hS4 hc4 ⟨xa4, xc4, rfl, hxd4⟩
                        (conv => whnf); refine ld1 ct33 hc4.one trivial ?_
                        (conv => whnf); refine ixr (i := i) sl33 hxd4 hy rfl ?_
                        rintro b5 o5 c5 hS5 hc5 ⟨rfl, -⟩
                        (conv => whnf); refine ld1 ct3 hc5.one trivial ?_
                        (conv => whnf); refine ix sl149 (by omega) (by omega) ?_
                        (conv => whnf); refine ld1 ct65 (st17.tcell 1 rfl hvr (by rw [Nat.zero_add, Nat.mul_one])) trivial ?_
                        (conv => whnf)
                        refine VLoop.mk [17, 20] (fun z : Nat × List Int × Option Addr × Nat => match z with | (j, T', t5, t6) => [.slice t5 T'.length t6, .int .i64 (j : Int)])
                          (fun z H4 => match z with | (j, T', t5, t6) => j ≤ row2.length ∧ T'.length ≤ i * 1048576 + j ∧ (∀ p, p ∈ T' ↔ hopS a (· ∈ x.take i) r p ∨ ∃ e ∈ row2.take j, e.sil = false ∧ e.set.getLsbD r = true ∧ p = e.to) ∧ St H H4 [pB tTb nb (tbL (nstA a) (.slice (some ⟨tb, 0, none⟩) (nstA a) (nstA a)) (.slice ma (nstA a) mc)), pT tEdD 143 65 tb vt (outT a), pS tBool 4 ma (nstA a) mc (mkM (nstA a) []), pN (tSl tIk) S 33 sa F2.length sc F2, pG tBook bb (.slice sa F2.length sc) vs (bkSl F2), pN (tSl tIk) Sn 33 na q nc (rows.map rowI), pS tBool 4 fa q fc ((F.take q).map fun l => decide (a.fin ∈ l)), pB 35 p8 (dfaL cell (.slice ra reps.length rc) (.slice na q nc) (.slice fa q fc)), pV ra rc (asI reps) SV, pB 67 p (nfL a (.slice ea a.edges.length ec)), pB 35 p4 zD, pS tIk 3 (some ⟨rb, 0, none⟩) reps.length reps.length (rowI row ++ List.replicate (reps.length - row.length) 0), pS tIk 3 t5 T'.length t6 T']) (fun z _ => row2.length - z.1) ?_ ?_
                        · (conv => whnf)
                          exact ⟨(0, T, t5, t6), rfl, Nat.zero_le _, Nat.le_trans hTl (Nat.le_add_right _ _), fun p => by rw [hT p]; simp, st17⟩
                        · clear st17 hT hTl hbk17 hxd4 hc4 hS4 hc5 hS5 hxd hc3 hS3
                          rintro ⟨j, T', t5, t6⟩ H18 junk18 ⟨hj, hTl', hT', st18⟩
                          obtain ⟨ea', ec', hvr', hrd⟩ := st18.row 1 rfl hrow2
                          rw [hvr] at hvr'
                          injection hvr' with e0
                          injection e0 with e1 e2 e3
                          subst e1; subst e3
                          (conv => whnf); refine VIte.mk (fun hz4 => ?_) (fun hz4 => ?_) <;> simp only [decide_eq_true_eq, decide_eq_false_iff_not] at hz4
                          · obtain ⟨e, he⟩ := get_some (l := row2) (k := j) (by omega)
                            obtain ⟨hem, hef, het⟩ := (hrm e).1 (List.mem_of_getElem? he)
                            have htr := NfM.has_iff.1 het
                            have hre : SlD tI SV H18 ra rc (asI reps) := st18.at_ 8 rfl
                            have skip : (e.sil = false → e.set.getLsbD r = false) → ∀ p, p ∈ T' ↔ hopS a (· ∈ x.take i) r p ∨ ∃ e ∈ row2.take (j + 1), e.sil = false ∧ e.set.getLsbD r = true ∧ p = e.to := fun hno p => by
                              rw [hT' p, take_succ_snoc he]
                              constructor
                              · rintro (h | ⟨e', h1, h2, h3, h4⟩)
                                · exact .inl h
                                · exact .inr ⟨e', List.mem_append_left _ h1, h2, h3, h4⟩
                              · rintro (h | ⟨e', h1, h2, h3, h4⟩)
                                · exact .inl h
                                · rcases List.mem_append.1 h1 with h1 | h1
                                  · exact .inr ⟨e', h1, h2, h3, h4⟩
                                  · rw [List.mem_singleton] at h1; subst h1; rw [hno h2] at h3; cases h3
                            (conv => whnf); refine VSeq.run ?_
                            (conv => whnf); refine VDraw.lex rfl (by kernel_rfl) ?_
                            (conv => whnf); refine ixr (i := j) sl65 hrd he rfl ?_
                            rintro b6 o6 c6 hS6 hc6 ⟨rfl, -⟩
                            (conv => whnf); refine VC.fa fl143_2 ?_
                            (conv => whnf); refine ld1 (v := .bool e.sil) ct4 (hc6 2 _ rfl) trivial ?_
                            cases hsil : e.sil with
                            | true =>
                              (conv => whnf); rw [w64 (x := (j : Int) + 1) (by omega) (by omega)]
                              exact ⟨rfl, (j + 1, T', t5, t6), by simp, ⟨by omega, by omega, skip fun h => (by rw [hsil] at h; cases h), st18⟩, by simp only; omega⟩
                            | false =>
                              (conv => whnf); refine VC.fa fl35_1 ?_
                              (conv => whnf); refine ld1 (v := .slice ra reps.length rc) ct33 (by rw [(st18.blk 7 rfl).cell, Nat.zero_add]; exact dfaL_256 hcl) trivial ?_
                              (conv => whnf); refine ixrn (i := k) sl33 hre (asI_len _).symm (asI_get hrk) rfl ?_
                              rintro b7 o7 c7 hS7 hc7 ⟨rfl, -⟩
                              (conv => whnf); refine ld1 ct3 hc7.one trivial ?_
                              (conv => whnf); refine ixr (i := j) sl65 hrd he rfl ?_
                              rintro b8 o8 c8 hS8 hc8 ⟨rfl, -⟩
                              (conv => whnf); refine VC.fa fl143_3 ?_
                              (conv => whnf); refine ixa ar112 (by omega) (by omega) ?_
                              (conv => whnf); refine ld1 (v := .bool (e.set.getLsbD r)) ct4 (by rw [show o8 + 3 + ((r : Nat) : Int).toNat * 1 = o8 + (3 + r) by omega]; exact hc8 (3 + r) _ (edDL_bit e hr256)) trivial ?_
                              cases hbit : e.set.getLsbD r with
                              | false =>
                                (conv => whnf); rw [w64 (x := (j : Int) + 1) (by omega) (by omega)]
                                exact ⟨rfl, (j + 1, T', t5, t6), by simp, ⟨by omega, by omega, skip fun _ => hbit, st18⟩, by simp only; omega⟩
                              | true =>
                                (conv => whnf); refine ixr (i := j) sl65 hrd he rfl ?_
                                rintro b9 o9 c9 hS9 hc9 ⟨rfl, hok⟩
                                (conv => whnf); refine VC.fa fl143_1 ?_
                                (conv => whnf); refine ld1 (v := .int .i64 e.to) ct3 (hc9 1 _ rfl) trivial ?_
                                (conv => whnf); refine vbuild1 sl33 [.int .i64 e.to] rfl rfl (by decide) (by decide) ?_
                                intro q11 H19 hq11 hs11 hb11 ha11
                                (conv => whnf); refine appL5 (ys := [e.to]) (st18.skip hq11 ha11) 12 sl33 rfl (hb11.cells (o := 0) (cs := [.int .i64 e.to]) fun j v hv => by rw [Nat.zero_add]; exact hv) (Ty.reps_one ⟨rfl, hok.2⟩) rfl (fun u hu => by cases List.mem_singleton.1 hu; rfl) (by simp only [List.length_cons, List.length_nil]; omega) (by decide) fun a12 c12 H20 st20 _ => ?_
                                have el : T'.length + [e.to].length = (T' ++ [e.to]).length := by simp
                                rw [el] at st20 ⊢
                                (conv => whnf); rw [w64 (x := (j : Int) + 1) (by omega) (by omega)]
                                refine ⟨rfl, (j + 1, T' ++ [e.to], a12, c12), by simp, ⟨by omega, by simp only [List.length_append, List.length_cons, List.length_nil]; omega, fun p => ?_, st20⟩, by simp only; omega⟩
                                rw [List.mem_append, hT' p, take_succ_snoc he, List.mem_singleton]
                                constructor
                                · rintro ((h | ⟨e', h1, h2, h3, h4⟩) | h)
                                  · exact .inl h
                                  · exact .inr ⟨e', List.mem_append_left _ h1, h2, h3, h4⟩
                                  · exact .inr ⟨e, by simp, hsil, hbit, h⟩
                                · rintro (h | ⟨e', h1, h2, h3, h4⟩)
                                  · exact .inl (.inl h)
                                  · rcases List.mem_append.1 h1 with h1 | h1
                                    · exact .inl (.inr ⟨e', h1, h2, h3, h4⟩)
                                    · rw [List.mem_singleton] at h1; subst h1; exact .inr h4
                          · obtain rfl : j = row2.length := by omega
                            rw [List.take_length] at hT'
                            (conv => whnf); rw [w64 (x := (i : Int) + 1) (by omega) (by omega)]
                            refine ⟨rfl, (i + 1, T', t5, t6), by simp, ⟨by omega, by omega, fun p => ?_, st18⟩, by simp only; omega⟩
                            rw [hT' p, take_succ_snoc hy]
                            unfold hopS
                            constructor
                            · rintro (⟨e, h1, h2, h3, h4, h5, h6⟩ | ⟨e, h1, h2, h3, h4⟩)
                              · exact ⟨e, h1, h2, h3, List.mem_append_left _ h4, h5, h6⟩
                              · obtain ⟨g1, g2, g3⟩ := (hrm e).1 h1
                                exact ⟨e, g1, h2, h3, by rw [g2]; simp, g3, h4⟩
                            · rintro ⟨e, h1, h2, h3, h4, h5, h6⟩
                              rcases List.mem_append.1 h4 with h4 | h4
                              · exact .inl ⟨e, h1, h2, h3, h4, h5, h6⟩
                              · rw [List.mem_singleton] at h4
                                exact .inr ⟨e, (hrm e).2 ⟨h1, h4, h5⟩, h2, h3, h6⟩
                      · obtain rfl : i = x.length := by omega
                        rw [List.take_length] at hT
                        have hTh : ∀ q ∈ T, a.has q = true := fun q hq => by
                          obtain ⟨e, -, -, -, -, h5, rfl⟩ := (hT q).1 hq
                          exact h5
                        have hTeq : (fun q => q ∈ T) = hopS a (· ∈ x) r := funext fun q => propext (hT q)
                        have hmul : T.length ≤ 68719476736 := Nat.le_trans hTl (by have := Nat.mul_le_mul_right 1048576 hxl; omega)
                        have hlst : lstS (clS a fun q => q ∈ T) = stepA a x r := by rw [hTeq]; rfl
                        have hstep : (reps.take (k + 1)).foldl (rowF budget (stepA a) x) (some (F, [])) = (atF budget F2 (stepA a x r)).map fun t => (t.1, row ++ [t.2]) := by
                          rw [take_succ_snoc hrk, List.foldl_append, hfold]
                          rfl
                        clear hxd hc3 hS3 hbk17
                        (conv => whnf); refine settled_v (X := T) (st17.pick [0, 1, 2, 12, 3, 4, 5, 6, 7, 8, 9, 10, 11] (by decide)) hTh hmul hl fun la lc H18 st18 => ?_
                        rw [hlst] at st18 ⊢
                        have hLh : ∀ q ∈ stepA a x r, a.has q = true := stepA_rng
                        have hLl : (stepA a x r).length ≤ 65536 := stepA_len
                        have hLr : ∀ q ∈ stepA a x r, 0 ≤ q ∧ q < 65536 := fun q hq => by have := NfM.has_iff.1 (hLh q hq); omega
                        have hat2 : ∀ t F3, atF budget F2 (stepA a x r) = some (F3, t) → F3.length ≤ budget ∧ F3.Nodup ∧ HasF a F3 ∧ F <+: F3 := fun t F3 h => by
                          obtain ⟨z1, z2, z3, z4⟩ := atF_some h hF2m hnd2
                          exact ⟨z2, z3, hHF2.at_ h, hpre.trans z4⟩
                        have hnone : atF budget F2 (stepA a x r) = none → detF budget (stepA a) reps l0 = none := fun h => by
                          rw [h] at hstep
                          have hno : reps.foldl (rowF budget (stepA a) x) (some (F, [])) = none := by
                            have h3 := (List.take_append_drop (k + 1) reps).symm
                            rw [h3, List.foldl_append, hstep]
                            exact rowF_none x _
                          exact detF_none (n := q) (by rw [hnext, hno]; rfl) (by omega)
                        generalize stepA a x r = L at *
                        have st18b : St H H18 [pN (tSl tIk) S 33 sa F2.length sc F2, pG tBook bb (.slice sa F2.length sc) vs (bkSl F2), pB tTb nb (tbL (nstA a) (.slice (some ⟨tb, 0, none⟩) (nstA a) (nstA a)) (.slice ma (nstA a) mc)), pT tEdD 143 65 tb vt (outT a), pS tBool 4 ma (nstA a) mc (mkM (nstA a) []), pN (tSl tIk) Sn 33 na q nc (rows.map rowI), pS tBool 4 fa q fc ((F.take q).map fun l => decide (a.fin ∈ l)), pB 35 p8 (dfaL cell (.slice ra reps.length rc) (.slice na q nc) (.slice fa q fc)), pV ra rc (asI reps) SV, pB 67 p (nfL a (.slice ea a.edges.length ec)), pB 35 p4 zD, pS tIk 3 (some ⟨rb, 0, none⟩) reps.length reps.length (rowI row ++ List.replicate (reps.length - row.length) 0)] := st18.pick [4, 5, 0, 1, 2, 6, 7, 8, 9, 10, 11, 12] (by decide)
                        (conv => whnf); refine pures (find_p st18b hvl hnd2 (by omega) (fun z hz => (hHF2 z hz).2) (st18.view 3 rfl) hLr hLl) fun H19 ha19 => ?_
                        have st19 := st18.call ha19
                        clear st18 st18b
                        (conv => whnf)
                        refine VSeq.cut (α := Nat) [5, 22] (fun t => [.int .i64 0, .int .i64 (t : Int)]) (fun t H4 => ∃ F3 sa sc vs S, atF budget F2 L = some (F3, t) ∧ vs.length = 1024 ∧ St H H4 [pB tTb nb (tbL (nstA a) (.slice (some ⟨tb, 0, none⟩) (nstA a) (nstA a)) (.slice ma (nstA a) mc)), pT tEdD 143 65 tb vt (outT a), pS tBool 4 ma (nstA a) mc (mkM (nstA a) []), pN (tSl tIk) S 33 sa F3.length sc F3, pG tBook bb (.slice sa F3.length sc) vs (bkSl F3), pN (tSl tIk) Sn 33 na q nc (rows.map rowI), pS tBool 4 fa q fc ((F.take q).map fun l => decide (a.fin ∈ l)), pB 35 p8 (dfaL cell (.slice ra reps.length rc) (.slice na q nc) (.slice fa q fc)), pV ra rc (asI reps) SV, pB 67 p (nfL a (.slice ea a.edges.length ec)), pB 35 p4 zD, pS tIk 3 (some ⟨rb, 0, none⟩) reps.length reps.length (rowI row ++ List.replicate (reps.length - row.length) 0)]) ?_ ?_
                        · (conv => whnf)
                          cases hf : F2.findIdx? (· = L) with
                          | some t =>
                            have e1 : fndI F2 L = (t : Int) := by unfold fndI; rw [hf]
                            have h12 : atF budget F2 L = some (F2, t) := by unfold atF; rw [hf]
                            have d3 : decide (fndI F2 L < 0) = false := by rw [e1]; exact decide_eq_false (by omega)
                            (conv => whnf); rw [d3]
                            (conv => whnf)
                            exact ⟨rfl, t, by rw [e1], F2, sa, sc, vs, S, h12, hvl, st19.pick [0, 1, 2, 4, 5, 6, 7, 8, 9, 10, 11, 12] (by decide)⟩
                          | none =>
                            have e1 : fndI F2 L = -1 := by unfold fndI; rw [hf]
                            have d3 : decide (fndI F2 L < 0) = true := by rw [e1]; rfl
                            (conv => whnf); rw [d3]
                            (conv => whnf); refine VC.fa fl148_0 ?_
                            (conv => whnf); refine ld1 (v := .slice sa F2.length sc) ct23 (by rw [(st19.gblk 5 rfl).cell]; rfl) trivial ?_
                            by_cases hfull : F2.length = budget
                            · have d4 : ((F2.length : Int) == (budget : Int)) = true := by rw [hfull]; simp
                              have h12 : atF budget F2 L = none := by
                                unfold atF
                                rw [hf]
                                simp only
                                rw [if_neg (by omega)]
                              have hdet := hnone h12
                              (conv => whnf); rw [d4]
                              (conv => whnf); refine VCall.mk (none_c H19) ?_
                              rintro v3 H20 ⟨ha20, -, hv3⟩
                              obtain ⟨hl3, x1, x2, x3, x4, x5, x6, rfl, -, -, -⟩ := hv3
                              have st20 := st19.call ha20
                              (conv => whnf); refine stNB (cs := dfaL noneD.cell (.slice x1 noneD.reps.length x2) (.slice x3 noneD.next.length x4) (.slice x5 noneD.final.length x6)) st20 11 (by rw [dfaL_len hl3]; rfl) rfl (by rw [dfaL_len hl3]; decide) (dfaL_ones rfl rfl rfl) fun H21 st21 => ?_
                              rw [splice_whole (by rw [dfaL_len hl3]; rfl)] at st21
                              (conv => whnf); refine ldN (cs := dfaL noneD.cell (.slice x1 noneD.reps.length x2) (.slice x3 noneD.next.length x4) (.slice x5 noneD.final.length x6)) (by rw [dfaL_len hl3]; exact ag35) ((st21.blk 11 rfl).cells fun j v hv => by rw [Nat.zero_add]; exact hv) trivial ?_
                              refine ⟨st21.old, ?_⟩
                              rw [hdet]
                              exact ⟨_, rfl, dfaL_len hl3, dfaL_ones rfl rfl rfl⟩
                            · have d4 : ((F2.length : Int) == (budget : Int)) = false := beq_eq_false_iff_ne.2 (by omega)
                              have h12 : atF budget F2 L = some (F2 ++ [L], F2.length) := by
                                unfold atF
                                rw [hf]
                                simp only
                                rw [if_pos (by omega)]
                              (conv => whnf); rw [d4]
                              (conv => whnf); refine add_v (F := F2) (S := S) (st19.pick [3, 4, 5, 0, 1, 2, 6, 7, 8, 9, 10, 11, 12] (by decide)) hvl (by omega) hLr fun sa2 sc2 vs2 S2 H20 hvl2 st20 => ?_
                              (conv => whnf)
                              exact ⟨rfl, F2.length, rfl, F2 ++ [L], sa2, sc2, vs2, S2, h12, hvl2, st20.pick [2, 3, 4, 0, 1, 5, 6, 7, 8, 9, 10, 11] (by decide)⟩
                        · rintro t H20 junk20 ⟨F3, sa, sc, vs, S, hat, hvl, st20⟩
                          obtain ⟨g1, g2, g3, g4⟩ := hat2 t F3 hat
                          obtain ⟨-, htm⟩ := atF_len hat hF2m
                          have hll : (rowI row ++ List.replicate (reps.length - row.length) 0).length = reps.length := by
                            unfold rowI
                            rw [List.length_append, List.length_map, List.length_replicate]
                            omega
                          (conv => whnf); refine ix sl33 (by omega) (by omega) ?_
                          (conv => whnf); refine st1O (j := k) (x := (t : Int)) st20 11 ct3 rfl rfl (by omega) (by rw [hll]; omega) rfl (fun H' _ => ⟨rfl, kint ⟨by omega, by omega⟩⟩) fun H21 st21 => ?_
                          rw [row_set hrowl (by omega)] at st21
                          rw [hat] at hstep
                          (conv => whnf); rw [w64 (x := (k : Int) + 1) (by omega) (by omega)]
                          exact ⟨rfl, k + 1, by simp, ⟨F3, row ++ [t], sa, sc, vs, S, by omega, g1, g2, g3, g4, by simp [hrowl], hstep, hvl, st21⟩, by omega⟩
                  · obtain rfl : k = reps.length := by omega
                    rw [List.take_length] at hfold
                    have hri : (rowI row).length = reps.length := by unfold rowI; rw [List.length_map, hrowl]
                    have hfe : rowI row ++ List.replicate (reps.length - row.length) 0 = rowI row := by rw [hrowl, Nat.sub_self]; simp
                    rw [hfe] at st15
                    rw [hfold] at hnext
                    simp only [Option.map_some] at hnext
                    have hrl2 : (rows.map rowI).length = q := by rw [List.length_map]; exact hrl
                    have hend : ((F2.take (q + 1)).map fun l => decide (a.fin ∈ l)) = ((F.take q).map fun l => decide (a.fin ∈ l)) ++ [decide (a.fin ∈ x)] := by
                      obtain ⟨t, rfl⟩ := hpre
                      rw [List.take_append_of_le_length (by omega), take_succ_snoc hx, List.map_append]
                      rfl
                    have hel7 : ((F.take q).map fun l => decide (a.fin ∈ l)).length = q := by rw [List.length_map, List.length_take]; omega
                    obtain ⟨ra', rc', er, hrow7, -⟩ := (st15.at_ 11 rfl).1.view (S' := slB (.slice (some ⟨rb, 0, none⟩) reps.length reps.length)) (fun b hb => hb) (fun b hb => hb.elim)
                    injection er with er1 er2 er3
                    subst er1; subst er3
                    have st16 := StB.absorb (st15.pick [5, 11, 0, 1, 2, 3, 4, 6, 7, 8, 9, 10] (by decide))
                    (conv => whnf); refine VC.fa fl35_2 ?_
                    (conv => whnf); refine ld1 (v := .slice na q nc) ct23 (by rw [(st16.blk 7 rfl).cell, Nat.zero_add]; exact dfaL_257 hcl) trivial ?_
                    (conv => whnf); refine vbuild1 sl23 [.slice (some ⟨rb, 0, none⟩) reps.length reps.length] rfl rfl (by decide) (by decide) ?_
                    intro q17 H17 hq17 hs17 hb17 ha17
                    have st17 := st16.skip hq17 ha17
                    have hrow17 : SlD tIk (fun k => Sn k ∨ slB (.slice (some ⟨rb, 0, none⟩) reps.length reps.length) k) H17 (some ⟨rb, 0, none⟩) reps.length (rowI row) := (hrow7.frame (ha17.mono fun k hk => by
                      have := (st15.in_ 11 rfl (.inl hk)).2
                      omega)).mono fun k hk => .inr hk
                    (conv => whnf); refine appNO (row := rowI row) st17 sl23 (hb17.cells fun j v hv => by rw [Nat.zero_add]; exact hv) ⟨some ⟨rb, 0, none⟩, reps.length, by rw [hri], hrow17⟩ rfl (fun u hu => by cases List.mem_singleton.1 hu; rfl) (by rw [hrl2]; omega) (by decide) fun a18 c18 H18 st18 => ?_
                    have e5 : rows.map rowI ++ [rowI row] = (rows ++ [row]).map rowI := by simp
                    rw [hrl2, e5] at st18
                    rw [hrl2]
                    (conv => whnf); refine VC.fa fl35_2 ?_
                    (conv => whnf); refine st1B st18 7 ct23 rfl (by rw [hl259]; decide) rfl fun H19 st19 => ?_
                    rw [Nat.zero_add, dfaL_put257 hcl] at st19
                    (conv => whnf); refine VC.fa fl35_3 ?_
                    (conv => whnf); refine ld1 (v := .slice fa q fc) ct24 (by rw [(st19.blk 7 rfl).cell, Nat.zero_add]; exact dfaL_258 hcl) trivial ?_
                    (conv => whnf); refine vbuild1 sl24 [.bool (decide (a.fin ∈ x))] rfl rfl (by decide) (by decide) ?_
                    intro q20 H20 hq20 hs20 hb20 ha20
                    (conv => whnf); refine app1 (x := decide (a.fin ∈ x)) (st19.skip hq20 ha20) 6 sl24 rfl hb20 rfl rfl (by rw [hel7]; omega) (by decide) fun a21 c21 H21 st21 _ => ?_
                    rw [hel7, ← hend] at st21
                    rw [hel7]
                    (conv => whnf); refine VC.fa fl35_3 ?_
                    (conv => whnf); refine st1B st21 7 ct24 rfl (by rw [hl259]; decide) rfl fun H22 st22 => ?_
                    rw [Nat.zero_add, dfaL_put258 hcl] at st22
                    (conv => whnf); rw [w64 (x := (q : Int) + 1) (by omega) (by omega)]
                    refine ⟨rfl, q + 1, by simp, ⟨F2, rows ++ [row], sa, sc, vs, S, a18, c18, a21, c21, _, ?_, hF2m, hnd2, hHF2, by simp [hrl], hnext, hvl, st22.pick [1, 2, 3, 4, 5, 0, 6, 7, 8, 9, 10] (by decide)⟩, by omega⟩
                    have := (List.getElem?_eq_some_iff.1 hx2).1
                    omega
          · obtain rfl : q = F.length := by omega
            have hrl2 : (rows.map rowI).length = F.length := by rw [List.length_map]; exact hrl
            have hdet := detF_done hrun rfl hFm
            rw [List.take_length] at st12
            have hmaps : (F.map fun l => decide (a.fin ∈ l)).length = F.length := List.length_map _
            (conv => whnf); refine ldN (cs := dfaL cell (.slice ra reps.length rc) (.slice na F.length nc) (.slice fa F.length fc)) (by rw [hl259]; exact ag35) ((st12.blk 7 rfl).cells fun j v hv => by rw [Nat.zero_add]; exact hv) trivial ?_
            (conv => whnf); refine stNB (cs := dfaL cell (.slice ra reps.length rc) (.slice na F.length nc) (.slice fa F.length fc)) st12 10 (by rw [hl259]; rfl) rfl (by rw [hl259]; decide) (dfaL_ones rfl rfl rfl) fun H13 st13 => ?_
            rw [splice_whole (by rw [hl259]; rfl)] at st13
            (conv => whnf); refine ldN (cs := dfaL cell (.slice ra reps.length rc) (.slice na F.length nc) (.slice fa F.length fc)) (by rw [hl259]; exact ag35) ((st13.blk 10 rfl).cells fun j v hv => by rw [Nat.zero_add]; exact hv) trivial ?_
            refine ⟨st13.old, ?_⟩
            rw [hdet]
            refine ⟨_, rfl, hcl, ra, rc, na, nc, fa, fc, ?_, ?_, St.viewF st13 5 rfl, St.viewF st13 6 rfl⟩
            · rw [asI_len, hrl2, hmaps]
            · have hre : SlD tI SV H13 ra rc (asI reps) := st13.at_ 8 rfl
              refine hre.mono fun k hk => ?_
              have h5 := st13.in_ 8 rfl hk
              unfold Fresh
              have h6 : ¬ Old H k := h5.1
              unfold Old at h6
              omega
end Go.Proofs.YthomdogheamfpaaDoor
/- The least bytes of the atoms are the same on both sides: the plain law. -/
set_option linter.unusedVariables false
set_option linter.unusedSimpArgs false
set_option maxRecDepth 100000
namespace Go.Proofs.YthomdogheamfpaaDoor
open Go.VC
def leastB (cells : List (BitVec 256)) (g : Nat) : Bool := (List.range g).all fun h => !sigEq cells g h
theorem sigEq_iff {cells : List (BitVec 256)} {a b : Nat} : sigEq cells a b = true ↔ ∀ c ∈ cells, c.getLsbD a = c.getLsbD b := by
  unfold sigEq
  simp
theorem leastB_iff {cells : List (BitVec 256)} {g : Nat} : leastB cells g = true ↔ ∀ h, h < g → sigEq cells g h = false := by
  unfold leastB
  simp
theorem exists_least {cells : List (BitVec 256)} {b : Nat} : ∀ h, sigEq cells b h = true → ∃ g, g ≤ h ∧ sigEq cells b g = true ∧ leastB cells g = true := by
  intro h
  induction h using Nat.strongRecOn with
  | _ h ih =>
    intro hb
    by_cases hl : leastB cells h = true
    · exact ⟨h, Nat.le_refl _, hb, hl⟩
    · have : ∃ h', h' < h ∧ sigEq cells h h' = true := by
        apply Classical.byContradiction
        intro hno
        apply hl
        rw [leastB_iff]
        intro h' hh'
        cases hs : sigEq cells h h' with
        | false => rfl
        | true => exact absurd ⟨h', hh', hs⟩ hno
      obtain ⟨h', hlt, hs⟩ := this
      obtain ⟨g, g1, g2, g3⟩ := ih h' hlt (sigEq_iff.2 fun c hc => (sigEq_iff.1 hb c hc).trans (sigEq_iff.1 hs c hc))
      exact ⟨g, by omega, g2, g3⟩
theorem atRun_filter (cells : List (BitVec 256)) : ∀ b, (atRun cells b).1 = (List.range b).filter (leastB cells)
  | 0 => rfl
  | b + 1 => by
    have ih := atRun_filter cells b
    rw [List.range_succ, List.filter_append]
    cases hf : (atRun cells b).1.findIdx? fun g => sigEq cells b g with
    | some k =>
      rw [atRun_some hf]
      obtain ⟨hk, h1, -⟩ := List.findIdx?_eq_some_iff_getElem.1 hf
      have hm : (atRun cells b).1[k] ∈ (List.range b).filter (leastB cells) := by rw [← ih]; exact List.getElem_mem hk
      have hlt := List.mem_range.1 (List.mem_filter.1 hm).1
      have : leastB cells b = false := by
        cases hl : leastB cells b with
        | false => rfl
        | true => rw [leastB_iff.1 hl _ hlt] at h1; cases h1
      rw [List.filter_cons_of_neg (by rw [this]; decide)]
      simpa using ih
    | none =>
      rw [atRun_none hf]
      have : leastB cells b = true := by
        rw [leastB_iff]
        intro h hh
        cases hs : sigEq cells b h with
        | false => rfl
        | true =>
          obtain ⟨g, g1, g2, g3⟩ := exists_least h hs
          have hm : g ∈ (atRun cells b).1 := by rw [ih]; exact List.mem_filter.2 ⟨List.mem_range.2 (by omega), g3⟩
          have := List.findIdx?_eq_none_iff.1 hf g hm
          rw [g2] at this
          cases this
      rw [List.filter_cons_of_pos this, ih]
      rfl
/-! ### the blocks -/
def Apart_ (x y : BitVec 256) : Prop := ∀ c, x.getLsbD c = true → y.getLsbD c = false
theorem cut_mem {s b x : BitVec 256} (h : x ∈ cutB s b) : x = b &&& s ∨ x = b &&& ~~~s := by
  have := (List.mem_filter.1 h).1
  simpa using this
theorem blocks_apart (sets : List (BitVec 256)) : (blocksM sets).Pairwise Apart_ := by
  have key : ∀ (rest bl : List (BitVec 256)), bl.Pairwise Apart_ → (rest.foldl partB bl).Pairwise Apart_ := by
    intro rest
    induction rest with
    | nil => exact fun bl h => h
    | cons s rest ih =>
      intro bl h
      refine ih _ ?_
      unfold partB
      rw [List.pairwise_flatMap]
      refine ⟨fun b hb => ?_, h.imp fun {x y} hxy u hu v hv c hc => ?_⟩
      · refine List.Pairwise.filter _ ?_
        refine List.pairwise_cons.2 ⟨fun y hy c hc => ?_, List.pairwise_singleton _ _⟩
        rw [List.mem_singleton] at hy
        subst hy
        rw [BitVec.getLsbD_and, Bool.and_eq_true] at hc
        rw [BitVec.getLsbD_and, BitVec.getLsbD_not, hc.2]
        simp
      · have h1 : x.getLsbD c = true := by
          rcases cut_mem hu with rfl | rfl <;> · rw [BitVec.getLsbD_and, Bool.and_eq_true] at hc; exact hc.1
        have h2 := hxy c h1
        rcases cut_mem hv with rfl | rfl <;> rw [BitVec.getLsbD_and, h2, Bool.false_and]
  exact key sets _ (List.pairwise_singleton _ _)
theorem blocks_sep (sets : List (BitVec 256)) : ∀ x ∈ blocksM sets, ∀ c d, c < 256 → d < 256 → (∀ s ∈ sets, s.getLsbD c = s.getLsbD d) → x.getLsbD c = x.getLsbD d := by
  have key : ∀ (rest bl : List (BitVec 256)) (c d : Nat), c < 256 → d < 256 → (∀ x ∈ bl, x.getLsbD c = x.getLsbD d) → (∀ s ∈ rest, s.getLsbD c = s.getLsbD d) → ∀ x ∈ rest.foldl partB bl, x.getLsbD c = x.getLsbD d := by
    intro rest
    induction rest with
    | nil => exact fun bl c d _ _ h _ => h
    | cons s rest ih =>
      intro bl c d hc hd h hr
      refine ih _ c d hc hd (fun x hx => ?_) fun s' hs' => hr s' (List.mem_cons_of_mem _ hs')
      obtain ⟨b, hb, hx⟩ := List.mem_flatMap.1 hx
      have h1 := h b hb
      have h2 := hr s (List.mem_cons_self ..)
      rcases cut_mem hx with rfl | rfl
      · rw [BitVec.getLsbD_and, BitVec.getLsbD_and, h1, h2]
      · rw [BitVec.getLsbD_and, BitVec.getLsbD_and, BitVec.getLsbD_not, BitVec.getLsbD_not, h1, h2]
        simp [hc, hd]
  intro x hx c d hc hd hs
  refine key sets _ c d hc hd (fun x hx => ?_) hs x hx
  rw [List.mem_singleton] at hx
  subst hx
  rw [BitVec.getLsbD_allOnes, BitVec.getLsbD_allOnes]
  simp [hc, hd]
theorem one_of {l : List (BitVec 256)} {b : Nat} (h : l.Pairwise Apart_) (hne : ∀ x ∈ l, x.getLsbD b = true) (hx : l ≠ []) : ∃ x, l = [x] := by
  match l, hx with
  | [x], _ => exact ⟨x, rfl⟩
  | x :: y :: r, _ =>
    have h1 := (List.pairwise_cons.1 h).1 y (by simp) b (hne x (by simp))
    rw [hne y (by simp)] at h1
    cases h1
theorem repsM_filter (sets : List (BitVec 256)) : repsM sets = (List.range 256).filter (leastB sets) := by
  have hok := part_ok sets
  have hone : ∀ b, b < 256 → (atomsAt (blocksM sets) b).map (fun c => (nextM c 0).1) = if leastB sets b then [b] else [] := by
    intro b hb
    have hall : ∀ x ∈ atomsAt (blocksM sets) b, x ∈ blocksM sets ∧ (nextM x 0).1 = b ∧ x.getLsbD b = true := fun x hx => by
      obtain ⟨h1, h2⟩ := List.mem_filter.1 hx
      have h3 : (nextM x 0).1 = b := by simpa using h2
      have h4 := (least_of (hok.ne x h1)).1
      rw [h3] at h4
      exact ⟨h1, h3, h4⟩
    cases hl : leastB sets b with
    | false =>
      rw [if_neg (by decide)]
      have : atomsAt (blocksM sets) b = [] := by
        apply Classical.byContradiction
        intro hne
        obtain ⟨x, hx⟩ := List.exists_mem_of_ne_nil _ hne
        obtain ⟨h1, h2, h3⟩ := hall x hx
        have : ∃ h, h < b ∧ sigEq sets b h = true := by
          apply Classical.byContradiction
          intro hno
          have : leastB sets b = true := leastB_iff.2 fun h hh => by
            cases hs : sigEq sets b h with
            | false => rfl
            | true => exact absurd ⟨h, hh, hs⟩ hno
          rw [hl] at this; cases this
        obtain ⟨h, hh, hs⟩ := this
        have h4 := blocks_sep sets x h1 b h hb (by omega) (sigEq_iff.1 hs)
        rw [h3] at h4
        have h5 := (least_of (hok.ne x h1)).2 h (by rw [h2]; exact hh)
        rw [h5] at h4; cases h4
      rw [this]; rfl
    | true =>
      rw [if_pos rfl]
      obtain ⟨x, hx, hxb⟩ := hok.all b hb
      obtain ⟨l1, l2⟩ := least_of (hok.ne x hx)
      have hle : (nextM x 0).1 = b := by
        apply Classical.byContradiction
        intro hne
        have hlt : (nextM x 0).1 < b := by
          rcases Nat.lt_or_ge b (nextM x 0).1 with h | h
          · rw [l2 b h] at hxb; cases hxb
          · omega
        have hs := hok.same x hx b _ hxb l1
        have := leastB_iff.1 hl _ hlt
        rw [sigEq_iff.2 hs] at this; cases this
      have hmem : x ∈ atomsAt (blocksM sets) b := List.mem_filter.2 ⟨hx, by rw [hle]; simp⟩
      obtain ⟨y, hy⟩ := one_of (l := atomsAt (blocksM sets) b) (b := b) ((blocks_apart sets).filter _) (fun z hz => (hall z hz).2.2) (List.ne_nil_of_mem hmem)
      rw [hy]
      have := (hall y (by rw [hy]; simp)).2.1
      simp only [List.map_cons, List.map_nil, this]
  unfold repsM atomsM
  rw [List.map_flatMap]
  have key : ∀ l : List Nat, (∀ b ∈ l, b < 256) → (l.flatMap fun b => (atomsAt (blocksM sets) b).map fun c => (nextM c 0).1) = l.filter (leastB sets) := by
    intro l
    induction l with
    | nil => exact fun _ => rfl
    | cons b l ih =>
      intro h
      rw [List.flatMap_cons, hone b (h b (List.mem_cons_self ..)), ih fun x hx => h x (List.mem_cons_of_mem _ hx)]
      cases hl : leastB sets b with
      | true => rw [List.filter_cons_of_pos hl]; rfl
      | false => rw [List.filter_cons_of_neg (by rw [hl]; decide)]; rfl
  exact key _ fun b hb => List.mem_range.1 hb
theorem leastB_ext {s t : List (BitVec 256)} (h : ∀ x, x ∈ s ↔ x ∈ t) : leastB s = leastB t := by
  funext g
  rw [Bool.eq_iff_iff, leastB_iff, leastB_iff]
  have hs : ∀ a b, sigEq s a b = sigEq t a b := fun a b => by
    rw [Bool.eq_iff_iff, sigEq_iff, sigEq_iff]
    exact ⟨fun k c hc => k c ((h c).2 hc), fun k c hc => k c ((h c).1 hc)⟩
  constructor <;> intro k j hj
  · rw [← hs]; exact k j hj
  · rw [hs]; exact k j hj
/-- The same bytes on both sides. -/
theorem reps_same {s t : List (BitVec 256)} (h : ∀ x, x ∈ s ↔ x ∈ t) : repsM s = (atRun t 256).1 := by
  rw [repsM_filter, atRun_filter, leastB_ext h]
end Go.Proofs.YthomdogheamfpaaDoor
