/- Lists of members that make a word, and Iter's graph; plain law. -/
import Derived.Test.YtpnnedkpbmilkaaPCatI
set_option linter.unusedVariables false
set_option linter.unusedSimpArgs false
set_option maxRecDepth 100000
namespace Go.Proofs.Ytpnnedkpbmilkaa
open Go.VC
attribute [local irreducible] mRun gRun atRun
/-- A list of members that aren't empty. -/
def Mems (a : Option AM) (ls : List (List Nat)) : Prop := ∀ m ∈ ls, m ≠ [] ∧ accL a m = true
theorem mems_cons {a : Option AM} {m : List Nat} {ls : List (List Nat)} : Mems a (m :: ls) ↔ (m ≠ [] ∧ accL a m = true) ∧ Mems a ls := by
  unfold Mems
  simp
theorem mems_snoc {a : Option AM} {m : List Nat} {ls : List (List Nat)} : Mems a (ls ++ [m]) ↔ Mems a ls ∧ m ≠ [] ∧ accL a m = true := by
  unfold Mems
  constructor
  · intro h
    exact ⟨fun x hx => h x (by simp [hx]), h m (by simp)⟩
  · rintro ⟨h1, h2⟩ x hx
    rcases List.mem_append.1 hx with hx | hx
    · exact h1 x hx
    · rw [List.mem_singleton] at hx; subst hx; exact h2
/-- What is left of a member, and members behind it. -/
theorem star_of {a : Option AM} : ∀ (n : Nat) (d : List Nat) (r : List (List Nat)) (q : Int), (d ++ r.flatten).length = n → finM a (runL a d q) = true → Mems a r → StarL a (d ++ r.flatten) q
  | 0, d, r, q, hn, hd, hr => by
    have h0 := List.eq_nil_of_length_eq_zero hn
    obtain ⟨rfl, h2⟩ := List.append_eq_nil_iff.1 h0
    rw [h2]
    exact hd
  | n + 1, [], [], q, hn, hd, hr => by simp at hn
  | n + 1, [], [] :: r, q, hn, hd, hr => absurd rfl ((mems_cons.1 hr).1.1)
  | n + 1, [], (c :: e) :: r, q, hn, hd, hr => by
    obtain ⟨⟨-, h1⟩, h2⟩ := mems_cons.1 hr
    show StarL a (c :: (e ++ r.flatten)) q
    exact .inr ⟨hd, star_of n e r _ (by simp at hn; simp; omega) h1 h2⟩
  | n + 1, c :: d, r, q, hn, hd, hr => .inl (star_of n d r _ (by simpa using hn) hd hr)
theorem of_star {a : Option AM} : ∀ (w : List Nat) (q : Int), StarL a w q → ∃ d r, w = d ++ r.flatten ∧ finM a (runL a d q) = true ∧ Mems a r
  | [], q, h => ⟨[], [], rfl, h, fun m hm => by cases hm⟩
  | c :: w, q, h => by
    rcases h with h | ⟨h1, h2⟩
    · obtain ⟨d, r, e, h3, h4⟩ := of_star w _ h
      exact ⟨c :: d, r, by rw [e]; rfl, h3, h4⟩
    · obtain ⟨d, r, e, h3, h4⟩ := of_star w _ h2
      exact ⟨[], (c :: d) :: r, by rw [e]; rfl, h1, mems_cons.2 ⟨⟨by simp, h3⟩, h4⟩⟩
/-- Two lists whose first members differ. -/
theorem first_diff {a : Option AM} {m : List Nat} {c : Nat} {d : List Nat} {r1 r2 : List (List Nat)} (h1 : accL a m = true) (h2 : Mems a r1) (h3 : accL a (m ++ c :: d) = true) (h4 : Mems a r2) (e : m ++ r1.flatten = (m ++ c :: d) ++ r2.flatten) : Leads (iterG a) (m ++ r1.flatten) root := by
  have e1 : r1.flatten = c :: (d ++ r2.flatten) := by
    rw [List.append_assoc] at e
    exact List.append_cancel_left e
  have hs : StarL a r1.flatten (runL a m 0) := star_of _ [] r1 _ rfl h1 h2
  refine (iter_leads0 _ 0 0).2 ⟨m.length, c, d ++ r2.flatten, by rw [List.drop_left, e1], by rw [List.take_left]; exact h1, ?_, ?_⟩
  · cases r1 with
    | nil => simp at e1
    | cons m1 r1 =>
      obtain ⟨⟨k1, k2⟩, k3⟩ := mems_cons.1 h2
      cases m1 with
      | nil => exact absurd rfl k1
      | cons c' e' =>
        simp only [List.flatten_cons, List.cons_append, List.cons.injEq] at e1
        obtain ⟨rfl, e2⟩ := e1
        rw [← e2]
        exact star_of _ e' r1 _ rfl k2 k3
  · rw [List.take_left]
    refine star_of _ d r2 _ rfl ?_ h4
    have := h3
    unfold accL at this
    rw [runL_append, runL_cons] at this
    exact this
/-- Two lists that make one word: a tail of it has two whose first members differ. -/
theorem two_lists {a : Option AM} : ∀ (l1 l2 : List (List Nat)), Mems a l1 → Mems a l2 → l1.flatten = l2.flatten → l1 ≠ l2 → ∃ x y, l1.flatten = y ++ x ∧ Leads (iterG a) x root
  | [], [], _, _, _, hne => absurd rfl hne
  | [], m :: l2, _, h2, e, _ => by
    have := (mems_cons.1 h2).1.1
    simp only [List.flatten_nil, List.flatten_cons] at e
    exact absurd (List.append_eq_nil_iff.1 e.symm).1 this
  | m :: l1, [], h1, _, e, _ => by
    have := (mems_cons.1 h1).1.1
    simp only [List.flatten_nil, List.flatten_cons] at e
    exact absurd (List.append_eq_nil_iff.1 e).1 this
  | m1 :: l1, m2 :: l2, h1, h2, e, hne => by
    obtain ⟨⟨k1, k2⟩, k3⟩ := mems_cons.1 h1
    obtain ⟨⟨j1, j2⟩, j3⟩ := mems_cons.1 h2
    by_cases hm : m1 = m2
    · subst hm
      simp only [List.flatten_cons, List.append_cancel_left_eq] at e
      obtain ⟨x, y, e2, hx⟩ := two_lists l1 l2 k3 j3 e fun h => hne (by rw [h])
      exact ⟨x, m1 ++ y, by rw [List.flatten_cons, e2, List.append_assoc], hx⟩
    · simp only [List.flatten_cons] at e
      rcases Nat.lt_trichotomy m1.length m2.length with hlt | heq | hlt
      · have hp : m2 = m1 ++ m2.drop m1.length := by
          have := congrArg (List.take m1.length) e
          rw [List.take_left, List.take_append_of_le_length (by omega)] at this
          conv => lhs; rw [← List.take_append_drop m1.length m2, ← this]
        cases hd : m2.drop m1.length with
        | nil => have := congrArg List.length hd; rw [List.length_drop] at this; simp at this; omega
        | cons c d =>
          rw [hd] at hp
          rw [hp] at e j2
          exact ⟨_, [], rfl, first_diff k2 k3 j2 j3 e⟩
      · exact absurd (List.append_inj_left e heq) hm
      · have hp : m1 = m2 ++ m1.drop m2.length := by
          have := congrArg (List.take m2.length) e
          rw [List.take_left, List.take_append_of_le_length (by omega)] at this
          conv => lhs; rw [← List.take_append_drop m2.length m1, this]
        cases hd : m1.drop m2.length with
        | nil => have := congrArg List.length hd; rw [List.length_drop] at this; simp at this; omega
        | cons c d =>
          rw [hd] at hp
          rw [hp] at e k2
          refine ⟨_, [], rfl, ?_⟩
          show Leads (iterG a) (m1 ++ l1.flatten) root
          rw [hp, e]
          exact first_diff j2 j3 k2 k3 e.symm
/-- A word that Iter tells has two lists. -/
theorem leads_two {a : Option AM} (h0 : finM a 0 = false) {w : List Nat} (h : Leads (iterG a) w root) : ∃ l1 l2, Mems a l1 ∧ Mems a l2 ∧ l1.flatten = w ∧ l2.flatten = w ∧ l1 ≠ l2 := by
  obtain ⟨i, c, r, h1, h2, h3, h4⟩ := (iter_leads0 w 0 0).1 h
  have hw : w = w.take i ++ c :: r := by rw [← h1, List.take_append_drop]
  have hm : w.take i ≠ [] := fun e => by
    rw [e] at h2
    rw [show runL a [] 0 = 0 from rfl, h0] at h2
    cases h2
  obtain ⟨d1, r1, e1, k1, k2⟩ := of_star _ _ h3
  obtain ⟨d2, r2, e2, j1, j2⟩ := of_star _ _ h4
  refine ⟨w.take i :: (c :: d1) :: r1, (w.take i ++ c :: d2) :: r2, mems_cons.2 ⟨⟨hm, h2⟩, mems_cons.2 ⟨⟨by simp, k1⟩, k2⟩⟩, mems_cons.2 ⟨⟨by simp, ?_⟩, j2⟩, ?_, ?_, fun e => ?_⟩
  · unfold accL
    rw [runL_append, runL_cons]
    exact j1
  · conv => rhs; rw [hw, e1]
    simp
  · conv => rhs; rw [hw, e2]
    simp
  · have := congrArg (fun l => (l.headD []).length) e
    simp at this
end Go.Proofs.Ytpnnedkpbmilkaa
