/- Nondeterministic automata, plain: what silent edges reach, what a text reaches. -/
import Derived.Test.YtlnmhfhdjnenoaaPClass
set_option linter.unusedVariables false
set_option linter.unusedSimpArgs false
namespace Go.Proofs.Ytlnmhfhdjnenoaa
open Go.VC
structure EdM where
  fr : Int
  to : Int
  sil : Bool
  set : BitVec 256
structure NfM where
  st : Int
  start : Int
  fin : Int
  edges : List EdM
def NfM.has (a : NfM) (q : Int) : Bool := decide (0 ≤ q) && decide (q < a.st) && decide (a.st ≤ 65536)
theorem NfM.has_iff {a : NfM} {q : Int} : a.has q = true ↔ 0 ≤ q ∧ q < a.st ∧ a.st ≤ 65536 := by
  unfold NfM.has
  simp only [Bool.and_eq_true, decide_eq_true_eq, and_assoc]
/-- What silent edges reach. -/
inductive Sils (a : NfM) : Int → Int → Prop
  | refl (p : Int) : Sils a p p
  | step {p : Int} {e : EdM} : Sils a p e.fr → e ∈ a.edges → e.sil = true → a.has e.to = true → Sils a p e.to
theorem Sils.trans {a : NfM} {p q r : Int} (h : Sils a p q) (k : Sils a q r) : Sils a p r := by
  induction k with
  | refl => exact h
  | step _ h1 h2 h3 ih => exact .step ih h1 h2 h3
abbrev PS := Int → Prop
def clS (a : NfM) (X : PS) : PS := fun q => ∃ p, X p ∧ Sils a p q
def begS (a : NfM) : PS := clS a fun q => q = a.start ∧ a.has a.start = true
def hopS (a : NfM) (X : PS) (b : Nat) : PS := fun q => ∃ e ∈ a.edges, e.sil = false ∧ e.set.getLsbD b = true ∧ X e.fr ∧ a.has e.to = true ∧ q = e.to
def goS (a : NfM) (X : PS) (b : Nat) : PS := clS a (hopS a X b)
def rchS (a : NfM) (s : List Nat) : PS := s.foldl (goS a) (begS a)
/-- Closed under silent edges. -/
def Shut_ (a : NfM) (X : PS) : Prop := ∀ e ∈ a.edges, e.sil = true → a.has e.to = true → X e.fr → X e.to
theorem clS_in {a : NfM} {X : PS} {q : Int} (h : X q) : clS a X q := ⟨q, h, .refl q⟩
theorem clS_shut (a : NfM) (X : PS) : Shut_ a (clS a X) := fun e h1 h2 h3 ⟨p, hp, hs⟩ => ⟨p, hp, .step hs h1 h2 h3⟩
theorem clS_least {a : NfM} {X Y : PS} (h : ∀ q, X q → Y q) (hs : Shut_ a Y) : ∀ q, clS a X q → Y q := by
  rintro q ⟨p, hp, hq⟩
  induction hq with
  | refl => exact h _ hp
  | step _ h1 h2 h3 ih => exact hs _ h1 h2 h3 ih
theorem clS_has {a : NfM} {X : PS} (h : ∀ q, X q → a.has q = true) : ∀ q, clS a X q → a.has q = true := clS_least h fun e _ _ h3 _ => h3
theorem begS_has (a : NfM) : ∀ q, begS a q → a.has q = true := clS_has fun q ⟨e, h⟩ => e ▸ h
theorem goS_has (a : NfM) (X : PS) (b : Nat) : ∀ q, goS a X b q → a.has q = true := clS_has fun q ⟨e, _, _, _, _, h, hq⟩ => hq ▸ h
theorem rchS_snoc (a : NfM) (s : List Nat) (b : Nat) : rchS a (s ++ [b]) = goS a (rchS a s) b := by unfold rchS; rw [List.foldl_append]; rfl
theorem fold_has (a : NfM) : ∀ (s : List Nat) (X : PS), (∀ q, X q → a.has q = true) → ∀ q, s.foldl (goS a) X q → a.has q = true
  | [], X, h => h
  | b :: s, X, h => fold_has a s (goS a X b) (goS_has a X b)
theorem rchS_has (a : NfM) (s : List Nat) : ∀ q, rchS a s q → a.has q = true := fold_has a s _ (begS_has a)
theorem fold_shut (a : NfM) : ∀ (s : List Nat) (X : PS), Shut_ a X → Shut_ a (s.foldl (goS a) X)
  | [], X, h => h
  | b :: s, X, h => fold_shut a s (goS a X b) (clS_shut a _)
theorem rchS_shut (a : NfM) (s : List Nat) : Shut_ a (rchS a s) := fold_shut a s _ (clS_shut a _)
theorem goS_ext {a : NfM} {X Y : PS} (h : ∀ q, X q ↔ Y q) (b : Nat) : goS a X b = goS a Y b := by
  have : X = Y := funext fun q => propext (h q)
  rw [this]
/-! ### sorted lists -/
theorem srt_uniq : ∀ {l m : List Int}, l.Pairwise (· < ·) → m.Pairwise (· < ·) → (∀ q, q ∈ l ↔ q ∈ m) → l = m
  | [], [], _, _, _ => rfl
  | [], y :: m, _, _, h => by have := (h y).2 (by simp); cases this
  | x :: l, [], _, _, h => by have := (h x).1 (by simp); cases this
  | x :: l, y :: m, hl, hm, h => by
    obtain ⟨h1, h2⟩ := List.pairwise_cons.1 hl
    obtain ⟨k1, k2⟩ := List.pairwise_cons.1 hm
    have hxy : x = y := by
      have hx := (h x).1 (by simp)
      have hy := (h y).2 (by simp)
      rcases List.mem_cons.1 hx with e | hx
      · exact e
      · rcases List.mem_cons.1 hy with e | hy
        · exact e.symm
        · have := h1 y hy; have := k1 x hx; omega
    subst hxy
    congr 1
    refine srt_uniq h2 k2 fun q => ⟨fun hq => ?_, fun hq => ?_⟩
    · rcases List.mem_cons.1 ((h q).1 (by simp [hq])) with e | h3
      · have := h1 q hq; omega
      · exact h3
    · rcases List.mem_cons.1 ((h q).2 (by simp [hq])) with e | h3
      · have := k1 q hq; omega
      · exact h3
open Classical in
/-- The list of a set of states, rising. -/
noncomputable def lstS (X : PS) : List Int := ((List.range 65536).map fun (n : Nat) => (n : Int)).filter fun q => decide (X q)
theorem lstS_srt (X : PS) : (lstS X).Pairwise (· < ·) := by
  unfold lstS
  refine List.Pairwise.filter _ ?_
  rw [List.pairwise_map]
  exact List.pairwise_lt_range.imp fun h => by omega
open Classical in
theorem lstS_mem {X : PS} (h : ∀ q, X q → 0 ≤ q ∧ q < 65536) (q : Int) : q ∈ lstS X ↔ X q := by
  unfold lstS
  rw [List.mem_filter, decide_eq_true_eq, List.mem_map]
  constructor
  · exact fun ⟨_, hx⟩ => hx
  · intro hx
    obtain ⟨h1, h2⟩ := h q hx
    exact ⟨⟨q.toNat, List.mem_range.2 (by omega), by omega⟩, hx⟩
theorem lstS_uniq {X : PS} {l : List Int} (h : ∀ q, X q → 0 ≤ q ∧ q < 65536) (hs : l.Pairwise (· < ·)) (hm : ∀ q, q ∈ l ↔ X q) : l = lstS X :=
  srt_uniq hs (lstS_srt X) fun q => (hm q).trans (lstS_mem h q).symm
theorem lstS_len (X : PS) : (lstS X).length ≤ 65536 := by
  unfold lstS
  exact Nat.le_trans (List.length_filter_le _ _) (by simp)
theorem has_rng {a : NfM} {X : PS} (h : ∀ q, X q → a.has q = true) : ∀ q, X q → 0 ≤ q ∧ q < 65536 := fun q hq => by
  have := NfM.has_iff.1 (h q hq); omega
noncomputable def rchL (a : NfM) (s : List Nat) : List Int := lstS (rchS a s)
theorem rchL_mem (a : NfM) (s : List Nat) (q : Int) : q ∈ rchL a s ↔ rchS a s q := lstS_mem (has_rng (rchS_has a s)) q
open Classical in
noncomputable def accN (a : NfM) (s : List Nat) : Bool := decide (rchS a s a.fin)
theorem accN_iff (a : NfM) (s : List Nat) : accN a s = true ↔ rchS a s a.fin := by unfold accN; simp
/-! ### a text of two parts -/
theorem hop_union {a : NfM} {X : PS} {b : Nat} {q : Int} : goS a X b q ↔ ∃ p, X p ∧ goS a (· = p) b q := by
  constructor
  · rintro ⟨r, ⟨e, h1, h2, h3, h4, h5, rfl⟩, hs⟩
    exact ⟨e.fr, h4, e.to, ⟨e, h1, h2, h3, rfl, h5, rfl⟩, hs⟩
  · rintro ⟨p, hp, r, ⟨e, h1, h2, h3, rfl, h5, rfl⟩, hs⟩
    exact ⟨e.to, ⟨e, h1, h2, h3, hp, h5, rfl⟩, hs⟩
theorem fold_union (a : NfM) : ∀ (t : List Nat) (I : Type) (F : I → PS) (q : Int), t.foldl (goS a) (fun q => ∃ i, F i q) q ↔ ∃ i, t.foldl (goS a) (F i) q
  | [], I, F, q => Iff.rfl
  | b :: t, I, F, q => by
    have e : goS a (fun q => ∃ i, F i q) b = fun q => ∃ i, goS a (F i) b q := funext fun q => propext (by
      constructor
      · intro h
        obtain ⟨p, ⟨i, hp⟩, hq⟩ := hop_union.1 h
        exact ⟨i, hop_union.2 ⟨p, hp, hq⟩⟩
      · rintro ⟨i, h⟩
        obtain ⟨p, hp, hq⟩ := hop_union.1 h
        exact hop_union.2 ⟨p, ⟨i, hp⟩, hq⟩)
    rw [List.foldl_cons, e]
    exact fold_union a t I (fun i => goS a (F i) b) q
theorem goes_on (a : NfM) (s t : List Nat) (q : Int) : rchS a (s ++ t) q ↔ ∃ p, rchS a s p ∧ rchS { a with start := p } t q := by
  have hc : rchS a s = fun q => ∃ i : { p // rchS a s p }, begS { a with start := i.1 } q := funext fun q => propext (by
    constructor
    · intro h
      exact ⟨⟨q, h⟩, q, ⟨rfl, rchS_has a s q h⟩, .refl q⟩
    · rintro ⟨⟨p, hp⟩, r, ⟨e, hr⟩, hs⟩
      have e' : r = p := e
      have gen : ∀ x y, Sils { a with start := p } x y → Sils a x y := fun x y h => by
        induction h with
        | refl => exact .refl _
        | step _ h1 h2 h3 ih => exact .step ih h1 h2 h3
      have hs' := gen _ _ hs
      rw [e'] at hs'
      exact clS_least (X := rchS a s) (fun _ h => h) (rchS_shut a s) q ⟨p, hp, hs'⟩)
  have hg : ∀ p : Int, goS { a with start := p } = goS a := fun p => by
    funext X b q
    refine propext ⟨?_, ?_⟩
    · rintro ⟨r, hr, hs⟩
      refine ⟨r, hr, ?_⟩
      clear hr
      induction hs with
      | refl => exact .refl _
      | step _ h1 h2 h3 ih => exact .step ih h1 h2 h3
    · rintro ⟨r, hr, hs⟩
      refine ⟨r, hr, ?_⟩
      clear hr
      induction hs with
      | refl => exact .refl _
      | step _ h1 h2 h3 ih => exact .step ih h1 h2 h3
  have h1 : rchS a (s ++ t) = t.foldl (goS a) (rchS a s) := by unfold rchS; rw [List.foldl_append]
  have e2 : t.foldl (goS a) (rchS a s) q = t.foldl (goS a) (fun q => ∃ i : { p // rchS a s p }, begS { a with start := i.1 } q) q := congrArg (fun X => t.foldl (goS a) X q) hc
  have main := fold_union a t { p // rchS a s p } (fun i => begS { a with start := i.1 }) q
  rw [h1, e2]
  refine main.trans ⟨?_, ?_⟩
  · rintro ⟨⟨p, hp⟩, h⟩
    refine ⟨p, hp, ?_⟩
    unfold rchS
    rw [hg p]
    exact h
  · rintro ⟨p, hp, h⟩
    refine ⟨⟨p, hp⟩, ?_⟩
    unfold rchS at h
    rw [hg p] at h
    exact h
/-! ### turned round -/
def EdM.turn (e : EdM) : EdM := { e with fr := e.to, to := e.fr }
def NfM.turn (a : NfM) : NfM := { st := a.st, start := a.fin, fin := a.start, edges := a.edges.map EdM.turn }
theorem turn_turn (a : NfM) : a.turn.turn = a := by
  obtain ⟨st, start, fin, edges⟩ := a
  have e : (edges.map EdM.turn).map EdM.turn = edges := by
    rw [List.map_map]
    exact (List.map_congr_left (g := id) fun e _ => rfl).trans (List.map_id _)
  show NfM.mk st start fin ((edges.map EdM.turn).map EdM.turn) = _
  rw [e]
/-- A way through the automaton that reads a text. -/
inductive Way (a : NfM) : Int → List Nat → Int → Prop
  | nil {p : Int} : a.has p = true → Way a p [] p
  | sil {e : EdM} {s : List Nat} {q : Int} : e ∈ a.edges → e.sil = true → a.has e.fr = true → Way a e.to s q → Way a e.fr s q
  | hop {e : EdM} {b : Nat} {s : List Nat} {q : Int} : e ∈ a.edges → e.sil = false → e.set.getLsbD b = true → a.has e.fr = true → Way a e.to s q → Way a e.fr (b :: s) q
theorem Way.ends {a : NfM} {p q : Int} {s : List Nat} (h : Way a p s q) : a.has p = true ∧ a.has q = true := by
  induction h with
  | nil h => exact ⟨h, h⟩
  | sil _ _ h _ ih => exact ⟨h, ih.2⟩
  | hop _ _ _ h _ ih => exact ⟨h, ih.2⟩
theorem Way.app {a : NfM} {p q r : Int} {s t : List Nat} (h : Way a p s q) (k : Way a q t r) : Way a p (s ++ t) r := by
  induction h with
  | nil h => exact k
  | sil h1 h2 h3 _ ih => exact .sil h1 h2 h3 (ih k)
  | hop h1 h2 h3 h4 _ ih => exact .hop h1 h2 h3 h4 (ih k)
theorem has_turn (a : NfM) (q : Int) : a.turn.has q = a.has q := rfl
theorem Way.turn {a : NfM} {p q : Int} {s : List Nat} (h : Way a p s q) : Way a.turn q s.reverse p := by
  induction h with
  | nil h => exact .nil h
  | @sil e s q h1 h2 h3 h4 ih =>
    have := ih.app (Way.sil (a := a.turn) (e := e.turn) (List.mem_map_of_mem h1) h2 h4.ends.1 (.nil h3))
    rw [List.append_nil] at this
    exact this
  | @hop e b s q h1 h2 h3 h4 h5 ih =>
    have := ih.app (Way.hop (a := a.turn) (e := e.turn) (List.mem_map_of_mem h1) h2 h3 h5.ends.1 (.nil h4))
    rw [List.reverse_cons]
    exact this
theorem sils_way {a : NfM} {p q : Int} (h : Sils a p q) (hp : a.has p = true) : Way a p [] q := by
  induction h with
  | refl => exact .nil hp
  | step _ h1 h2 h3 ih =>
    have := ih.app (.sil h1 h2 ih.ends.2 (.nil h3))
    simpa using this
theorem rch_way (a : NfM) : ∀ (s : List Nat) (q : Int), rchS a s q → Way a a.start s q := by
  have key : ∀ (n : Nat) (s : List Nat), s.length = n → ∀ (q : Int), rchS a s q → Way a a.start s q := by
    intro n
    induction n with
    | zero =>
      intro s hs q h
      obtain rfl := List.eq_nil_of_length_eq_zero hs
      obtain ⟨p, ⟨rfl, hp⟩, hq⟩ := h
      exact sils_way hq hp
    | succ n ih =>
      intro s hs q h
      obtain ⟨t, b, rfl⟩ : ∃ t b, s = t ++ [b] := ⟨s.dropLast, s.getLast (by intro e; subst e; simp at hs), (List.dropLast_concat_getLast _).symm⟩
      rw [rchS_snoc] at h
      obtain ⟨r, ⟨e, h1, h2, h3, h4, h5, rfl⟩, hq⟩ := h
      have w1 := ih t (by simpa using hs) e.fr h4
      exact w1.app (.hop h1 h2 h3 w1.ends.2 (sils_way hq h5))
  exact fun s q h => key s.length s rfl q h
theorem way_rch {a : NfM} {p q : Int} {s : List Nat} (h : Way a p s q) : ∀ (X : PS), Shut_ a X → X p → s.foldl (goS a) X q := by
  induction h with
  | nil h => exact fun X _ hp => hp
  | sil h1 h2 h3 h4 ih => exact fun X hX hp => ih X hX (hX _ h1 h2 h4.ends.1 hp)
  | hop h1 h2 h3 h4 h5 ih => exact fun X hX hp => ih _ (clS_shut _ _) (clS_in ⟨_, h1, h2, h3, hp, h5.ends.1, rfl⟩)
theorem acc_way (a : NfM) (s : List Nat) : accN a s = true ↔ Way a a.start s a.fin := by
  rw [accN_iff]
  exact ⟨rch_way a s a.fin, fun h => way_rch h _ (clS_shut a _) (clS_in ⟨rfl, h.ends.1⟩)⟩
theorem acc_turn (a : NfM) (s : List Nat) : accN a.turn s.reverse = accN a s := by
  have h1 : accN a s = true ↔ accN a.turn s.reverse = true := by
    rw [acc_way, acc_way]
    constructor
    · exact fun h => h.turn
    · intro h
      have := h.turn
      rw [turn_turn, List.reverse_reverse] at this
      exact this
  cases h2 : accN a s <;> cases h3 : accN a.turn s.reverse <;> simp_all
end Go.Proofs.Ytlnmhfhdjnenoaa
