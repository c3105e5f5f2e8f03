/- How many lists of members make a text, no more than two told: the plain law, and the walk of lists of the laws of layer 9. -/
import Derived.Test.YtkgmhkcncemmkaaPStar
import Derived.Test.YtkgmhkcncemmkaaPSpk
set_option linter.unusedVariables false
set_option linter.unusedSimpArgs false
set_option maxRecDepth 100000
namespace Go.Proofs.Ytkgmhkcncemmkaa
open Go.VC
attribute [local irreducible] oneM mRun gRun atRun
open Classical in
/-- How many there are, no more than two told. -/
noncomputable def cnt2 {α : Type} (A : α → Prop) : Nat := if ∃ x y, A x ∧ A y ∧ x ≠ y then 2 else if ∃ x, A x then 1 else 0
section
variable {α β : Type} {A B C : α → Prop}
theorem cnt2_le : cnt2 A ≤ 2 := by unfold cnt2; split <;> (try split) <;> omega
theorem cnt2_two : 2 ≤ cnt2 A ↔ ∃ x y, A x ∧ A y ∧ x ≠ y := by
  unfold cnt2
  split
  · simp_all
  · rename_i h
    constructor
    · intro h2; split at h2 <;> omega
    · exact fun h2 => absurd h2 h
theorem cnt2_one : 1 ≤ cnt2 A ↔ ∃ x, A x := by
  unfold cnt2
  split
  · rename_i h
    obtain ⟨x, -, hx, -⟩ := h
    exact ⟨fun _ => ⟨x, hx⟩, fun _ => by omega⟩
  · split
    · rename_i h; exact ⟨fun _ => h, fun _ => by omega⟩
    · rename_i h; exact ⟨fun h2 => by omega, fun h2 => absurd h2 h⟩
theorem cnt2_eq {m : Nat} (hm : m ≤ 2) (h1 : 1 ≤ m ↔ ∃ x, A x) (h2 : 2 ≤ m ↔ ∃ x y, A x ∧ A y ∧ x ≠ y) : cnt2 A = m := by
  have k0 := cnt2_le (A := A)
  have k1 := cnt2_one (A := A)
  have k2 := cnt2_two (A := A)
  rw [← h1] at k1
  rw [← h2] at k2
  omega
theorem cnt2_union (hC : ∀ x, C x ↔ A x ∨ B x) (hd : ∀ x, A x → B x → False) : cnt2 C = min 2 (cnt2 A + cnt2 B) := by
  have a1 := cnt2_one (A := A)
  have a2 := cnt2_two (A := A)
  have b1 := cnt2_one (A := B)
  have b2 := cnt2_two (A := B)
  refine cnt2_eq (Nat.min_le_left _ _) ⟨fun h => ?_, fun ⟨x, hx⟩ => ?_⟩ ⟨fun h => ?_, fun ⟨x, y, hx, hy, hne⟩ => ?_⟩
  · have : 1 ≤ cnt2 A ∨ 1 ≤ cnt2 B := by omega
    rcases this with h | h
    · obtain ⟨x, hx⟩ := a1.1 h; exact ⟨x, (hC x).2 (.inl hx)⟩
    · obtain ⟨x, hx⟩ := b1.1 h; exact ⟨x, (hC x).2 (.inr hx)⟩
  · rcases (hC x).1 hx with h | h
    · have := a1.2 ⟨x, h⟩; omega
    · have := b1.2 ⟨x, h⟩; omega
  · have : 2 ≤ cnt2 A ∨ 2 ≤ cnt2 B ∨ (1 ≤ cnt2 A ∧ 1 ≤ cnt2 B) := by omega
    rcases this with h | h | ⟨h, k⟩
    · obtain ⟨x, y, hx, hy, hne⟩ := a2.1 h; exact ⟨x, y, (hC x).2 (.inl hx), (hC y).2 (.inl hy), hne⟩
    · obtain ⟨x, y, hx, hy, hne⟩ := b2.1 h; exact ⟨x, y, (hC x).2 (.inr hx), (hC y).2 (.inr hy), hne⟩
    · obtain ⟨x, hx⟩ := a1.1 h
      obtain ⟨y, hy⟩ := b1.1 k
      exact ⟨x, y, (hC x).2 (.inl hx), (hC y).2 (.inr hy), fun e => hd x hx (e ▸ hy)⟩
  · rcases (hC x).1 hx with h | h <;> rcases (hC y).1 hy with k | k
    · have := a2.2 ⟨x, y, h, k, hne⟩; omega
    · have := a1.2 ⟨x, h⟩; have := b1.2 ⟨y, k⟩; omega
    · have := b1.2 ⟨x, h⟩; have := a1.2 ⟨y, k⟩; omega
    · have := b2.2 ⟨x, y, h, k, hne⟩; omega
theorem cnt2_map {D : β → Prop} {f : α → β} (hf : ∀ x y, f x = f y → x = y) (h : ∀ y, D y ↔ ∃ x, A x ∧ f x = y) : cnt2 D = cnt2 A := by
  refine cnt2_eq cnt2_le ?_ ?_
  · rw [cnt2_one]
    constructor
    · rintro ⟨x, hx⟩; exact ⟨f x, (h _).2 ⟨x, hx, rfl⟩⟩
    · rintro ⟨y, hy⟩; obtain ⟨x, hx, -⟩ := (h y).1 hy; exact ⟨x, hx⟩
  · rw [cnt2_two]
    constructor
    · rintro ⟨x, y, hx, hy, hne⟩; exact ⟨f x, f y, (h _).2 ⟨x, hx, rfl⟩, (h _).2 ⟨y, hy, rfl⟩, fun e => hne (hf x y e)⟩
    · rintro ⟨u, v, hu, hv, hne⟩
      obtain ⟨x, hx, rfl⟩ := (h u).1 hu
      obtain ⟨y, hy, rfl⟩ := (h v).1 hv
      exact ⟨x, y, hx, hy, fun e => hne (by rw [e])⟩
theorem cnt2_zero (h : ∀ x, ¬ A x) : cnt2 A = 0 := by
  have := cnt2_one (A := A)
  have h2 : ¬ (1 ≤ cnt2 A) := fun hh => by obtain ⟨x, hx⟩ := this.1 hh; exact h x hx
  omega
theorem cnt2_iff (h : ∀ x, A x ↔ B x) : cnt2 A = cnt2 B := by
  have : A = B := funext fun x => propext (h x)
  rw [this]
end
/-- The lists that make the first j bytes. -/
def Par (a : Option AM) (w : List Nat) (j : Nat) (ls : List (List Nat)) : Prop := Mems a ls ∧ ls.flatten = w.take j
/-- .. whose last member begins ahead of place i. -/
def ParI (a : Option AM) (w : List Nat) (j i : Nat) (ls : List (List Nat)) : Prop := ∃ r m, ls = r ++ [m] ∧ Par a w j ls ∧ r.flatten.length < i
theorem par_zero (a : Option AM) (w : List Nat) : cnt2 (Par a w 0) = 1 := by
  refine cnt2_eq (by omega) ⟨fun _ => ⟨[], fun m hm => (by cases hm), rfl⟩, fun _ => Nat.le_refl _⟩ ⟨fun h => by omega, fun ⟨x, y, hx, hy, hne⟩ => ?_⟩
  have key : ∀ x, Par a w 0 x → x = [] := fun x hx => by
    cases x with
    | nil => rfl
    | cons m r =>
      obtain ⟨h1, h2⟩ := hx
      have := (mems_cons.1 h1).1.1
      simp only [List.flatten_cons, List.take_zero] at h2
      exact absurd (List.append_eq_nil_iff.1 h2).1 this
  exact absurd ((key x hx).trans (key y hy).symm) hne
theorem parI_zero (a : Option AM) (w : List Nat) (j : Nat) : cnt2 (ParI a w j 0) = 0 := cnt2_zero fun ls ⟨r, m, _, _, h⟩ => by omega
theorem parI_all {a : Option AM} {w : List Nat} {j : Nat} (hj : 0 < j) (hjw : j ≤ w.length) : cnt2 (ParI a w j j) = cnt2 (Par a w j) := by
  refine cnt2_iff fun ls => ⟨fun ⟨r, m, _, h, _⟩ => h, fun h => ?_⟩
  obtain ⟨h1, h2⟩ := h
  have hne : ls ≠ [] := by
    rintro rfl
    have := congrArg List.length h2
    rw [List.length_take] at this
    simp at this
    omega
  refine ⟨ls.dropLast, ls.getLast hne, (List.dropLast_concat_getLast hne).symm, ⟨h1, h2⟩, ?_⟩
  have e := List.dropLast_concat_getLast hne
  have hl := h1 (ls.getLast hne) (List.getLast_mem hne)
  have h3 := congrArg List.length h2
  rw [List.length_take, ← e, List.flatten_append, List.length_append] at h3
  simp only [List.flatten_cons, List.flatten_nil, List.append_nil] at h3
  have : 0 < (ls.getLast hne).length := List.length_pos_iff.2 hl.1
  omega
theorem parI_succ {a : Option AM} {w : List Nat} {j i : Nat} (hij : i < j) (hjw : j ≤ w.length) : cnt2 (ParI a w j (i + 1)) = min 2 (cnt2 (ParI a w j i) + if accL a ((w.take j).drop i) = true then cnt2 (Par a w i) else 0) := by
  have hcut : w.take i ++ (w.take j).drop i = w.take j := by
    conv => rhs; rw [← List.take_append_drop i (w.take j), List.take_take, Nat.min_eq_left (by omega)]
  have hnl : (w.take i).length = i := by rw [List.length_take]; omega
  by_cases hacc : accL a ((w.take j).drop i) = true
  · rw [if_pos hacc]
    have hm : (w.take j).drop i ≠ [] := fun e => by
      have := congrArg List.length e
      rw [List.length_drop, List.length_take] at this
      simp at this
      omega
    rw [← cnt2_map (f := fun r => r ++ [(w.take j).drop i]) (A := Par a w i) (D := fun ls => ∃ r, Par a w i r ∧ r ++ [(w.take j).drop i] = ls) (fun x y h => (List.append_inj' h rfl).1) (fun y => Iff.rfl)]
    refine cnt2_union (fun ls => ?_) (fun ls h1 h2 => ?_)
    · constructor
      · rintro ⟨r, m, rfl, ⟨h1, h2⟩, h3⟩
        by_cases hl : r.flatten.length < i
        · exact .inl ⟨r, m, rfl, ⟨h1, h2⟩, hl⟩
        · have hl : r.flatten.length = i := by omega
          rw [List.flatten_append] at h2
          simp only [List.flatten_cons, List.flatten_nil, List.append_nil] at h2
          rw [← hcut] at h2
          obtain ⟨e1, e2⟩ := List.append_inj h2 (by rw [hl, hnl])
          exact .inr ⟨r, ⟨(mems_snoc.1 h1).1, e1⟩, by rw [e2]⟩
      · rintro (⟨r, m, rfl, h, h3⟩ | ⟨r, ⟨h1, h2⟩, rfl⟩)
        · exact ⟨r, m, rfl, h, by omega⟩
        · refine ⟨r, _, rfl, ⟨mems_snoc.2 ⟨h1, hm, hacc⟩, ?_⟩, by rw [h2, hnl]; omega⟩
          rw [List.flatten_append, h2]
          simpa using hcut
    · obtain ⟨r, m, rfl, -, h3⟩ := h1
      obtain ⟨r', ⟨-, h4⟩, e⟩ := h2
      have := (List.append_inj' e rfl).1
      rw [← this, h4, hnl] at h3
      omega
  · rw [if_neg hacc]
    have hle := cnt2_le (A := ParI a w j i)
    rw [show min 2 (cnt2 (ParI a w j i) + 0) = cnt2 (ParI a w j i) by omega]
    refine cnt2_iff fun ls => ⟨fun ⟨r, m, e, ⟨h1, h2⟩, h3⟩ => ⟨r, m, e, ⟨h1, h2⟩, ?_⟩, fun ⟨r, m, e, h, h3⟩ => ⟨r, m, e, h, by omega⟩⟩
    by_cases hl : r.flatten.length < i
    · exact hl
    · exfalso
      have hl : r.flatten.length = i := by omega
      subst e
      rw [List.flatten_append] at h2
      simp only [List.flatten_cons, List.flatten_nil, List.append_nil] at h2
      rw [← hcut] at h2
      obtain ⟨e1, e2⟩ := List.append_inj h2 (by rw [hl, hnl])
      rw [e2] at h1
      exact hacc (mems_snoc.1 h1).2.2
/-- What the laws' lists tells. -/
noncomputable def listsM (a : Option AM) (s : ByteArray) : Nat := cnt2 (Par a (unB s) s.size)
theorem unB_len (s : ByteArray) : (unB s).length = s.size := by unfold unB; rw [List.length_map]; rfl
theorem acc_cut {a : Option AM} {s : ByteArray} {i j : Nat} : acceptsM a (s.extract i j) = accL a (((unB s).take j).drop i) := by
  conv => lhs; rw [← bA_unB s]
  rw [bA_ext, acc_bA (bytes_drop (bytes_take (unB_bytes s) j) i)]
/-- Two lists: a tail of the text is told by Iter's graph. -/
theorem lists_leads {a : Option AM} {s : ByteArray} (h : 2 ≤ listsM a s) : ∃ x y, unB s = y ++ x ∧ Leads (iterG a) x root := by
  obtain ⟨l1, l2, ⟨h1, h2⟩, ⟨h3, h4⟩, hne⟩ := cnt2_two.1 h
  obtain ⟨x, y, e, hx⟩ := two_lists l1 l2 h1 h3 (by rw [h2, h4]) hne
  rw [h2, List.take_of_length_le (by rw [unB_len]; exact Nat.le_refl _)] at e
  exact ⟨x, y, e, hx⟩
theorem leads_lists {a : Option AM} (h0 : finM a 0 = false) {w : List Nat} (hb : bytes_ w) (h : Leads (iterG a) w root) : 2 ≤ listsM a (bA w) := by
  obtain ⟨l1, l2, h1, h2, h3, h4, hne⟩ := leads_two h0 h
  have e : (unB (bA w)).take (bA w).size = w := by rw [unB_bA hb, bA_size, List.take_length]
  exact cnt2_two.2 ⟨l1, l2, ⟨h1, by rw [e]; exact h3⟩, ⟨h2, by rw [e]; exact h4⟩, hne⟩

/-! ### the walk -/
noncomputable def lsL (a : Option AM) (s : ByteArray) (j x : Nat) : List Int := (List.range (s.size + 1)).map fun i => if i < j then (cnt2 (Par a (unB s) i) : Int) else if i = j then (x : Int) else 0
theorem lsL_get (a : Option AM) (s : ByteArray) (j x : Nat) {i : Nat} (h : i ≤ s.size) : (lsL a s j x)[i]? = some (if i < j then (cnt2 (Par a (unB s) i) : Int) else if i = j then (x : Int) else 0) := by
  unfold lsL
  rw [List.getElem?_map, List.getElem?_range (by omega)]; rfl
theorem lsL_len (a : Option AM) (s : ByteArray) (j x : Nat) : (lsL a s j x).length = s.size + 1 := by simp [lsL]
theorem lsL_set (a : Option AM) (s : ByteArray) {j x y : Nat} (h : j ≤ s.size) : (lsL a s j x).set j (y : Int) = lsL a s j y := by
  apply List.ext_getElem?
  intro i
  by_cases hi : i ≤ s.size
  · rw [List.getElem?_set, lsL_len, lsL_get a s j x hi, lsL_get a s j y hi]
    by_cases hij : j = i
    · subst hij; rw [if_pos rfl, if_pos (by omega), if_neg (by omega), if_pos rfl]
    · rw [if_neg hij, if_neg (Ne.symm hij), if_neg (Ne.symm hij)]
  · rw [List.getElem?_eq_none (by rw [List.length_set, lsL_len]; omega), List.getElem?_eq_none (by rw [lsL_len]; omega)]
theorem lsL_next (a : Option AM) (s : ByteArray) (j : Nat) : lsL a s j (cnt2 (Par a (unB s) j)) = lsL a s (j + 1) 0 := by
  unfold lsL
  refine List.map_congr_left fun i _ => ?_
  by_cases h1 : i < j
  · rw [if_pos h1, if_pos (by omega)]
  · rw [if_neg h1]
    by_cases h2 : i = j
    · rw [if_pos h2, if_pos (by omega), h2]
    · rw [if_neg h2, if_neg (by omega)]
      split <;> rfl
theorem lsL_first (a : Option AM) (s : ByteArray) : (List.replicate (s.size + 1) (0 : Int)).set 0 1 = lsL a s 1 0 := by
  rw [← lsL_next a s 0, par_zero]
  apply List.ext_getElem?
  intro i
  by_cases hi : i ≤ s.size
  · rw [lsL_get a s 0 1 hi, List.getElem?_set, List.length_replicate]
    by_cases h0 : 0 = i
    · subst h0; rw [if_pos rfl, if_pos (by omega), if_neg (by omega), if_pos rfl]; rfl
    · rw [if_neg h0, List.getElem?_replicate, if_pos (by omega), if_neg (by omega), if_neg (Ne.symm h0)]
  · rw [List.getElem?_eq_none (by simp; omega), List.getElem?_eq_none (by rw [lsL_len]; omega)]
set_option maxHeartbeats 8000000 in
theorem lists_p {S : Nat → Prop} {H : Heap} {va : Value} {a : Option AM} {s : ByteArray} (hS : ∀ k, S k → k < H.size) (ha : AutoV S H va a) (hs : s.size ≤ 1048576) :
    Pure Try.prog 38 #[va, .string s] H (.int .i64 (listsM a s : Int)) := by
  refine FnOk.of_vc Try.func38 rfl (Try.call38 _) ?_
  have hup : ∀ {H' : Heap} {ps : List Pc}, St H H' ps → ∀ k, S k → k < H'.size := fun st k hk => st.up (hS k hk)
  (conv => whnf); rw [w64 (x := (s.size : Int) + 1) (by omega) (by omega)]
  (conv => whnf); refine vmakeT (T := tI) (v := (0 : Int)) (S := none_) sl36 ⟨rfl, inI64 (x := 0) (by decide)⟩ (by omega) rfl (by omega) (by omega) ?_
  intro b1 H1 hb1 hs1 hk1 ha1
  have e1 : ((s.size : Int) + 1).toNat = s.size + 1 := by omega
  rw [e1] at hk1 ⊢
  have st1 := (St.nil H).new (T := tI) (n := s.size + 1) (xs := List.replicate (s.size + 1) (0 : Int)) hb1 hs1 hk1 ha1 (reps_replicate (show tI.rep none_ H1 [.int .i64 0] (0 : Int) from ⟨rfl, inI64 (x := 0) (by decide)⟩) _) (by simp) (by unfold maxLen; omega)
  have hul := unB_len s
  (conv => whnf); refine ix sl36 (by omega) (by omega) ?_
  (conv => whnf); refine st1O (x := (1 : Int)) (j := 0) st1 0 ct3 rfl rfl (by simp) (by simp) rfl (fun H' _ => ⟨rfl, inI64 (x := 1) (by decide)⟩) fun H2 st2 => ?_
  rw [lsL_first a s] at st2
  (conv => whnf)
  refine VLoop.mk [6] (fun j : Nat => [.int .i64 (j : Int)]) (fun j H3 => 1 ≤ j ∧ j ≤ s.size + 1 ∧ St H H3 [pS tI 3 (some ⟨b1, 0, none⟩) (s.size + 1) (s.size + 1) (lsL a s j 0)]) (fun j _ => s.size + 1 - j) ?_ ?_
  · (conv => whnf)
    exact ⟨1, rfl, Nat.le_refl _, by omega, st2⟩
  · rintro j H3 junk3 ⟨hj1, hj, st3⟩
    (conv => whnf); refine VIte.mk (fun hz => ?_) (fun hz => ?_) <;> simp only [decide_eq_true_eq, decide_eq_false_iff_not] at hz
    · have e0 : lsL a s j 0 = lsL a s j (cnt2 (ParI a (unB s) j 0)) := by rw [parI_zero]
      rw [e0] at st3
      (conv => whnf)
      refine VLoop.mk [7] (fun i : Nat => [.int .i64 (i : Int)]) (fun i H4 => i ≤ j ∧ St H H4 [pS tI 3 (some ⟨b1, 0, none⟩) (s.size + 1) (s.size + 1) (lsL a s j (cnt2 (ParI a (unB s) j i)))]) (fun i _ => j - i) ?_ ?_
      · (conv => whnf)
        exact ⟨0, rfl, Nat.zero_le _, st3⟩
      · rintro i H4 junk4 ⟨hi, st4⟩
        (conv => whnf); refine VIte.mk (fun hz2 => ?_) (fun hz2 => ?_) <;> simp only [decide_eq_true_eq, decide_eq_false_iff_not] at hz2
        · have hgi := lsL_get a s j (cnt2 (ParI a (unB s) j i)) (i := i) (by omega)
          rw [if_pos (by omega)] at hgi
          have hgj := lsL_get a s j (cnt2 (ParI a (unB s) j i)) (i := j) (by omega)
          rw [if_neg (by omega), if_pos rfl] at hgj
          have hsucc := parI_succ (a := a) (w := unB s) (j := j) (i := i) (by omega) (by omega)
          rw [← acc_cut] at hsucc
          have hc2 := cnt2_le (A := Par a (unB s) i)
          have hp2 := cnt2_le (A := ParI a (unB s) j i)
          have hset := fun y => lsL_set a s (j := j) (x := cnt2 (ParI a (unB s) j i)) (y := y) (by omega)
          generalize cnt2 (ParI a (unB s) j i) = x at *
          generalize cnt2 (Par a (unB s) i) = y at *
          (conv => whnf); refine VSeq.run ?_
          (conv => whnf); refine ixO (j := i) sl36 st4 0 rfl hgi rfl fun b5 o5 cs5 hO5 hc5 hr5 => ?_
          obtain ⟨rfl, -⟩ := hr5
          (conv => whnf); refine ld1 ct3 hc5.one trivial ?_
          by_cases hy : y = 0
          · subst hy
            have d1 : decide ((0 : Int) < ((0 : Nat) : Int)) = false := rfl
            have e : cnt2 (ParI a (unB s) j (i + 1)) = x := by rw [hsucc]; split <;> omega
            (conv => whnf); rw [d1]
            (conv => whnf); rw [w64 (x := (i : Int) + 1) (by omega) (by omega)]
            exact ⟨rfl, i + 1, rfl, ⟨by omega, by rw [e]; exact st4⟩, by omega⟩
          · have d1 : decide ((0 : Int) < (y : Int)) = true := decide_eq_true (by omega)
            (conv => whnf); rw [d1]
            (conv => whnf); refine vcutS strT (by omega) (by omega) (by omega) ?_
            rw [Int.toNat_natCast, Int.toNat_natCast]
            (conv => whnf); refine pures (accepts_p (hup st4) (ha.frame (st4.old.mono hS)) (by simp only [ByteArray.size_extract, maxLen]; omega)) fun H6 ha6 => ?_
            have st6 := st4.call ha6
            cases hacc : acceptsM a (s.extract i j) with
            | false =>
              rw [hacc] at hsucc
              have e : cnt2 (ParI a (unB s) j (i + 1)) = x := by rw [hsucc]; simp; omega
              (conv => whnf); rw [w64 (x := (i : Int) + 1) (by omega) (by omega)]
              exact ⟨rfl, i + 1, rfl, ⟨by omega, by rw [e]; exact st6⟩, by omega⟩
            | true =>
              rw [hacc, if_pos rfl] at hsucc
              have hbl := (st6.in_ 0 rfl (.inl ⟨0, _, _, rfl⟩) : _ ∧ b1 < H6.size).2
              (conv => whnf); refine VDraw.held (Old H6) 13 (sq [0,1,2,3,4,5,6,7,8,9,10,11,12] (.f 13 .e)) rfl (by kernel_rfl) ?_
              (conv => whnf); refine ixO (j := j) sl36 st6 0 rfl hgj rfl fun b7 o7 cs7 hO7 hc7 hr7 => ?_
              obtain ⟨rfl, -⟩ := hr7
              (conv => whnf); refine ld1 ct3 hc7.one hO7 ?_
              (conv => whnf); refine ixO (j := i) sl36 st6 0 rfl hgi rfl fun b8 o8 cs8 hO8 hc8 hr8 => ?_
              obtain ⟨rfl, -⟩ := hr8
              (conv => whnf); refine ld1 ct3 hc8.one hO8 ?_
              (conv => whnf); rw [w64 (x := (x : Int) + (y : Int)) (by omega) (by omega)]
              (conv => whnf); refine vmin_ ?_
              rw [show (if (x : Int) + (y : Int) < 2 then (x : Int) + (y : Int) else 2) = ((min 2 (x + y) : Nat) : Int) by split <;> omega, ← hsucc]
              (conv => whnf); refine ix sl36 (by omega) (by omega) ?_
              (conv => whnf); refine st1O (x := ((cnt2 (ParI a (unB s) j (i + 1)) : Nat) : Int)) (j := j) st6 0 ct3 rfl rfl (by omega) (by rw [lsL_len]; omega) rfl (fun H' _ => ⟨rfl, inI64 (by omega)⟩) fun H9 st9 => ?_
              (conv => whnf); rw [w64 (x := (i : Int) + 1) (by omega) (by omega)]
              refine ⟨rfl, i + 1, rfl, ⟨by omega, ?_⟩, by omega⟩
              rw [← hset]
              exact st9
        · obtain rfl : i = j := by omega
          rw [parI_all (by omega) (by omega), lsL_next] at st4
          (conv => whnf); rw [w64 (x := (i : Int) + 1) (by omega) (by omega)]
          exact ⟨rfl, i + 1, rfl, ⟨by omega, by omega, st4⟩, by omega⟩
    · obtain rfl : j = s.size + 1 := by omega
      have hg := lsL_get a s (s.size + 1) 0 (i := s.size) (Nat.le_refl _)
      rw [if_pos (by omega)] at hg
      (conv => whnf); refine ixO (j := s.size) sl36 st3 0 rfl hg rfl fun b5 o5 cs5 hO5 hc5 hr5 => ?_
      obtain ⟨rfl, -⟩ := hr5
      (conv => whnf); refine ld1 ct3 hc5.one trivial ?_
      (conv => whnf)
      exact ⟨rfl, st3.old⟩
end Go.Proofs.Ytkgmhkcncemmkaa
