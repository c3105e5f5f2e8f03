/- Regions whose order is open, where three operations may be ready at a time. -/
import Derived.Test.YtfdlhakfmbdamaaDoorVHeldG
set_option linter.unusedVariables false
set_option linter.unusedSimpArgs false
namespace Go.VC
inductive Sc3 where
  | e
  | q (i : Nat) (s : Sc3)
  | f (i : Nat) (s : Sc3)
  | b (i : Nat) (s : Sc3) (j : Nat) (s' : Sc3)
  | t (i : Nat) (s : Sc3) (j : Nat) (s' : Sc3) (k : Nat) (s'' : Sc3)
def sq3 : List Nat → Sc3 → Sc3
  | [], s => s
  | i :: l, s => .q i (sq3 l s)
def Sc3.len : Sc3 → Nat
  | .e => 0
  | .q _ s => s.len + 1
  | .f _ s => s.len + 1
  | .b _ s _ _ => s.len + 1
  | .t _ s _ _ _ _ => s.len + 1
def Sc3.even : Sc3 → Bool
  | .e => true
  | .q _ s => s.even
  | .f _ s => s.even
  | .b _ s _ s' => s.even && s'.even && s.len == s'.len
  | .t _ s _ s' _ s'' => s.even && s'.even && s''.even && s.len == s'.len && s.len == s''.len
def heldB3 (ops : Array Oper) : Sc3 → Array Bool → Bool
  | .e, listed => (Region.ready .any ops listed).isEmpty
  | .q i s, listed => (Region.ready .any ops listed).contains i && Region.free .any ops listed i && heldB3 ops s (listed.setIfInBounds i true)
  | .f i s, listed => Region.ready .any ops listed == [i] && heldB3 ops s (listed.setIfInBounds i true)
  | .b i s j s', listed => Region.ready .any ops listed == [i, j] && heldB3 ops s (listed.setIfInBounds i true) && heldB3 ops s' (listed.setIfInBounds j true)
  | .t i s j s' k s'', listed => Region.ready .any ops listed == [i, j, k] && heldB3 ops s (listed.setIfInBounds i true) && heldB3 ops s' (listed.setIfInBounds j true) && heldB3 ops s'' (listed.setIfInBounds k true)
def step3 (P : Program) (S : Nat → Prop) (H0 : Heap) (all : List Oper) (i : Nat) (fr : Fr) (H : Heap) (next : Fr → Heap → Prop) : Prop := stepG P S [] H0 all i fr H next
def held3 (P : Program) (S : Nat → Prop) (H0 : Heap) (all : List Oper) (s : Sc3) : Fr → Heap → (Fr → Heap → Prop) → Prop :=
  Sc3.rec (motive := fun _ => Fr → Heap → (Fr → Heap → Prop) → Prop) (fun fr H K => K fr H)
    (fun i _ ih fr H K => match all[i]? with
      | none => False
      | some o => whenK all o fr (quietG P S o H fun fr' H' => ih fr' H' K) (skipG o H fun fr' H' => ih fr' H' K))
    (fun i _ ih fr H K => stepG P S [] H0 all i fr H fun fr' H' => ih fr' H' K)
    (fun i _ j _ ih ih' fr H K => (stepG P S [] H0 all i fr H fun fr' H' => ih fr' H' K) ∧ stepG P S [] H0 all j fr H fun fr' H' => ih' fr' H' K)
    (fun i _ j _ k _ ih ih' ih'' fr H K => (stepG P S [] H0 all i fr H fun fr' H' => ih fr' H' K) ∧ (stepG P S [] H0 all j fr H fun fr' H' => ih' fr' H' K) ∧ stepG P S [] H0 all k fr H fun fr' H' => ih'' fr' H' K) s
theorem held3_q (P : Program) (S : Nat → Prop) (H0 : Heap) (all : List Oper) (i : Nat) (s : Sc3) (fr : Fr) (H : Heap) (K : Fr → Heap → Prop) : held3 P S H0 all (.q i s) fr H K =
    (match all[i]? with
      | none => False
      | some o => whenK all o fr (quietG P S o H fun fr' H' => held3 P S H0 all s fr' H' K) (skipG o H fun fr' H' => held3 P S H0 all s fr' H' K)) := rfl
theorem held3_sound {P : Program} {S : Nat → Prop} {w0 : World} {all : List Oper} {Q : Exit → Act → World → Prop} (hs : Region.noSelect all.toArray = true)
    (hp : ∀ c a w, ¬ Q (.panic c) a w) : ∀ (l : Sc3) (listed : Array Bool) (fr : Fr) (a : Act) (w : World) (K : Fr → Heap → Prop), At fr a → Env w0 w → Cls w0 S w → Shut all.toArray listed →
    (∀ fr' a' w', At fr' a' → Env w0 w' → K fr' w'.heap → Q .normal a' w') → heldB3 all.toArray l listed = true → l.even = true →
    held3 P S w0.heap all l fr w.heap K → wpAnyZ P all.toArray Q (Cls w0 S) [] l.len listed a w
  | .e, listed, fr, a, w, K, hat, he, _, _, hq, hB, _, h => ⟨by simpa [heldB3] using hB, hq fr a w hat he h⟩
  | .q i s, listed, fr, a, w, K, hat, he, hc, hsh, hq, hB, hev, h => by
    simp only [heldB3, Bool.and_eq_true] at hB
    obtain ⟨⟨b1, b2⟩, hB2⟩ := hB
    rw [held3_q] at h
    split at h
    · exact h.elim
    · rename_i o ho
      have ho' : all.toArray[i]? = some o := by simpa using ho
      have hri : i ∈ Region.ready .any all.toArray listed := by simpa using b1
      rcases whenK_sound hat h with ⟨hwant, h⟩ | ⟨hwant, h⟩
      · unfold quietG at h
        split at h
        · obtain ⟨v, hv, hk⟩ := detK_sound h
          rw [putK_eq] at hk
          refine wpAnyZ_first (v := v) (f := all.toArray.size) ho' (Region.noSelect_spec hs) (fun c a' w' hh => (hp _ _ _ hh).elim) rfl (fun j hj => by cases hj) s.len listed a w hsh (Region.free_spec ho' b2) hri
            (.inl ⟨hwant, fun w' hw' => ?_⟩) hc ?_
          · rw [hat.evalF]
            exact hv w' fun k hk => (hw'.2 k hk).trans (hc.2 k hk).symm
          · exact held3_sound hs hp s _ _ _ w K (hat.put o.dst v) he hc (hsh.put hri) hq hB2 hev hk
        · exact h.elim
      · unfold skipG at h
        rw [putK_eq] at h
        exact wpAnyZ_first (v := undef) (f := all.toArray.size) ho' (Region.noSelect_spec hs) (fun c a' w' hh => (hp _ _ _ hh).elim) rfl (fun j hj => by cases hj) s.len listed a w hsh (Region.free_spec ho' b2) hri
          (.inr ⟨hwant, rfl⟩) hc (held3_sound hs hp s _ _ _ w K (hat.put o.dst undef) he hc (hsh.put hri) hq hB2 hev h)
  | .f i s, listed, fr, a, w, K, hat, he, hc, hsh, hq, hB, hev, h => by
    simp only [heldB3, Bool.and_eq_true, beq_iff_eq] at hB
    obtain ⟨b1, hB2⟩ := hB
    refine ⟨(fun h0 => by rw [b1] at h0; cases h0), fun j hj => ?_⟩
    have hj0 := hj
    rw [b1] at hj
    obtain rfl : j = i := by simpa using hj
    exact stepG_sound (Z := []) hat he (fun _ => hc) h fun fr' a' w' h1 h2 h3 h4 => ⟨h3, held3_sound hs hp s _ _ _ w' K h1 h2 (h3 rfl) (hsh.put hj0) hq hB2 hev h4⟩
  | .b i s j s', listed, fr, a, w, K, hat, he, hc, hsh, hq, hB, hev, h => by
    simp only [heldB3, Bool.and_eq_true, beq_iff_eq] at hB
    obtain ⟨⟨b1, hB2⟩, hB3⟩ := hB
    simp only [Sc3.even, Bool.and_eq_true, beq_iff_eq] at hev
    obtain ⟨⟨e1, e2⟩, e3⟩ := hev
    refine ⟨(fun h0 => by rw [b1] at h0; cases h0), fun k hk => ?_⟩
    have hk0 := hk
    rw [b1] at hk
    rcases List.mem_cons.1 hk with rfl | hk
    · exact stepG_sound (Z := []) hat he (fun _ => hc) h.1 fun fr' a' w' h1 h2 h3 h4 => ⟨h3, held3_sound hs hp s _ _ _ w' K h1 h2 (h3 rfl) (hsh.put hk0) hq hB2 e1 h4⟩
    · obtain rfl : k = j := by simpa using hk
      rw [e3]
      exact stepG_sound (Z := []) hat he (fun _ => hc) h.2 fun fr' a' w' h1 h2 h3 h4 => ⟨h3, held3_sound hs hp s' _ _ _ w' K h1 h2 (h3 rfl) (hsh.put hk0) hq hB3 e2 h4⟩
  | .t i s j s' m s'', listed, fr, a, w, K, hat, he, hc, hsh, hq, hB, hev, h => by
    simp only [heldB3, Bool.and_eq_true, beq_iff_eq] at hB
    obtain ⟨⟨⟨b1, hB2⟩, hB3⟩, hB4⟩ := hB
    simp only [Sc3.even, Bool.and_eq_true, beq_iff_eq] at hev
    obtain ⟨⟨⟨⟨e1, e2⟩, e3⟩, e4⟩, e5⟩ := hev
    refine ⟨(fun h0 => by rw [b1] at h0; cases h0), fun k hk => ?_⟩
    have hk0 := hk
    rw [b1] at hk
    rcases List.mem_cons.1 hk with rfl | hk
    · exact stepG_sound (Z := []) hat he (fun _ => hc) h.1 fun fr' a' w' h1 h2 h3 h4 => ⟨h3, held3_sound hs hp s _ _ _ w' K h1 h2 (h3 rfl) (hsh.put hk0) hq hB2 e1 h4⟩
    · rcases List.mem_cons.1 hk with rfl | hk
      · rw [e4]
        exact stepG_sound (Z := []) hat he (fun _ => hc) h.2.1 fun fr' a' w' h1 h2 h3 h4 => ⟨h3, held3_sound hs hp s' _ _ _ w' K h1 h2 (h3 rfl) (hsh.put hk0) hq hB3 e2 h4⟩
      · obtain rfl : k = m := by simpa using hk
        rw [e5]
        exact stepG_sound (Z := []) hat he (fun _ => hc) h.2.2 fun fr' a' w' h1 h2 h3 h4 => ⟨h3, held3_sound hs hp s'' _ _ _ w' K h1 h2 (h3 rfl) (hsh.put hk0) hq hB4 e3 h4⟩
theorem VDraw.held3 {P : Program} {l : List Oper} {fr : Fr} {H : Heap} {K : Fr → Heap → Prop} (S : Nat → Prop) (sched : Sc3) (hm : P.follows .mixedOrders = true)
    (hB : (Region.noSelect l.toArray && (sched.len == l.length) && sched.even && heldB3 l.toArray sched (Array.replicate l.length false)) = true)
    (h : VC.held3 P S H l sched fr H K) : VDraw P l fr H K := by
  refine ⟨?_⟩
  intro id Q a w hat hw hp hq
  subst hw
  simp only [Bool.and_eq_true, beq_iff_eq] at hB
  refine wp_region_any hm (wpAny_of_Z (S := Cls w S) (Z := []) _ _ _ _ ?_)
  have hsh : Shut l.toArray (Array.replicate l.length false) := fun j o _ hj => by
    rw [Array.getD_eq_getD_getElem?, Array.getElem?_replicate] at hj
    split at hj <;> simp at hj
  have := held3_sound (P := P) (S := S) (w0 := w) (Q := Q) hB.1.1.1 hp sched (Array.replicate l.length false) fr a { w with drawn := w.drawn + 1 } K hat ⟨rfl, rfl, rfl⟩ ⟨⟨rfl, rfl, rfl⟩, Agr.refl _ _⟩ hsh hq hB.2 hB.1.2 h
  rw [hB.1.1.2] at this
  simpa using this
end Go.VC
