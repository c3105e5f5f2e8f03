/- The ways and the pieces of split, as lists of members; plain law. -/
import Derived.Test.YtpnnedkpbmilkaaPSpl8
import Derived.Test.YtpnnedkpbmilkaaPStar
set_option linter.unusedVariables false
set_option linter.unusedSimpArgs false
set_option maxRecDepth 100000
namespace Go.Proofs.Ytpnnedkpbmilkaa
open Go.VC
attribute [local irreducible] mRun gRun atRun
theorem unB_size (s : ByteArray) : (unB s).length = s.size := by unfold unB; rw [List.length_map]; rfl
theorem unB_drop {s : ByteArray} {k : Nat} (h : k + 1 ≤ s.size) : (unB s).drop (s.size - (k + 1)) = byteB s k :: (unB s).drop (s.size - k) := by
  have hd : s.size - (k + 1) < s.data.toList.length := by simpa using (show s.size - (k + 1) < s.size by omega)
  have hg : (unB s)[s.size - (k + 1)]? = some (byteB s k) := by
    unfold unB byteB
    rw [List.getElem?_map, List.getD_eq_getElem?_getD, List.getElem?_eq_getElem hd]; rfl
  obtain ⟨hi, e⟩ := List.getElem?_eq_some_iff.1 hg
  rw [List.drop_eq_getElem_cons hi, e, show s.size - (k + 1) + 1 = s.size - k by omega]
theorem wy_star {o : Option AM} {s : ByteArray} : ∀ (k : Nat), k ≤ s.size → ∀ q, 1 ≤ (wy o s k).1 q ↔ StarL o ((unB s).drop (s.size - k)) q
  | 0, _, q => by
    rw [Nat.sub_zero, List.drop_of_length_le (by rw [unB_size]; exact Nat.le_refl _)]
    show 1 ≤ (if finM o q then 1 else 0) ↔ finM o q = true
    cases finM o q <;> simp
  | k + 1, hk, q => by
    have ih := wy_star (o := o) (s := s) k (by omega)
    rw [unB_drop hk, wy_one, wy_two]
    show _ ↔ StarL o _ (stepM o q (byteB s k)) ∨ (finM o q = true ∧ StarL o _ (stepM o 0 (byteB s k)))
    rw [← ih, ← ih]
    cases finM o q
    · simp
    · simp only [if_true, true_and]; omega
theorem wy_leads {o : Option AM} {s : ByteArray} : ∀ (k : Nat), k ≤ s.size → ∀ (u : List Nat), 2 ≤ (wy o s k).1 (runL o u 0) → bytes_ u → ∃ x, Leads (iterG o) x root ∧ bytes_ x
  | 0, _, u, h, _ => by
    have : (wy o s 0).1 (runL o u 0) ≤ 1 := by
      show (if finM o _ then 1 else 0) ≤ 1
      split <;> omega
    omega
  | k + 1, hk, u, h, hu => by
    have ih := wy_leads (o := o) (s := s) k (by omega)
    have hb := byteB_lt s k
    rw [wy_one, wy_two] at h
    have hsn : runL o (u ++ [byteB s k]) 0 = stepM o (runL o u 0) (byteB s k) := by rw [runL_append]; rfl
    have hub : bytes_ (u ++ [byteB s k]) := fun b hb' => by
      rcases List.mem_append.1 hb' with h | h
      · exact hu b h
      · rw [List.mem_singleton] at h; omega
    cases hf : finM o (runL o u 0) with
    | false =>
      rw [hf, if_neg (by decide), ← hsn] at h
      exact ih _ h hub
    | true =>
      rw [hf, if_pos rfl] at h
      by_cases h1 : 2 ≤ (wy o s k).1 (stepM o (runL o u 0) (byteB s k))
      · rw [← hsn] at h1
        exact ih _ h1 hub
      · by_cases h2 : 2 ≤ (wy o s k).1 (stepM o 0 (byteB s k))
        · exact ih [byteB s k] h2 fun b hb' => by rw [List.mem_singleton] at hb'; omega
        · have k1 := (wy_star k (by omega) _).1 (show 1 ≤ (wy o s k).1 (stepM o (runL o u 0) (byteB s k)) by omega)
          have k2 := (wy_star k (by omega) _).1 (show 1 ≤ (wy o s k).1 (stepM o 0 (byteB s k)) by omega)
          refine ⟨u ++ byteB s k :: (unB s).drop (s.size - k), (iter_leads0 _ 0 0).2 ⟨u.length, byteB s k, _, List.drop_left, by rw [List.take_left]; exact hf, k2, by rw [List.take_left]; exact k1⟩, fun b hb' => ?_⟩
          rcases List.mem_append.1 hb' with h | h
          · exact hu b h
          · rcases List.mem_cons.1 h with rfl | h
            · exact hb
            · exact unB_bytes s b (List.mem_of_mem_drop h)
theorem ways_two {o : Option AM} {s : ByteArray} (h : 2 ≤ (wy o s s.size).2) : ∃ x, Leads (iterG o) x root ∧ bytes_ x := by
  cases hn : s.size with
  | zero => rw [hn] at h; have : (wy o s 0).2 = 1 := rfl; omega
  | succ n =>
    rw [hn, wy_two] at h
    exact wy_leads (u := [byteB s n]) n (by omega) h fun b hb => by rw [List.mem_singleton] at hb; have := byteB_lt s n; omega
/-- The places where pieces end, from place at on. -/
def Pieces (o : Option AM) (s : ByteArray) : Nat → List Int → Prop
  | at_, [] => at_ = s.size
  | at_, e :: l => ∃ e' : Nat, e = (e' : Int) ∧ at_ < e' ∧ e' ≤ s.size ∧ acceptsM o (s.extract at_ e') = true ∧ Pieces o s e' l
theorem acc_ext {o : Option AM} {s : ByteArray} {i j : Nat} : acceptsM o (s.extract i j) = accL o (((unB s).take j).drop i) := by
  conv => lhs; rw [← bA_unB s]
  rw [bA_ext, acc_bA (bytes_drop (bytes_take (unB_bytes s) j) i)]
theorem chunks_ok {o : Option AM} {s : ByteArray} : ∀ (n : Nat), n + 1 ≤ s.size → ∀ (q : Int) (at_ : Nat), at_ ≤ s.size - (n + 1) → q = runL o (((unB s).take (s.size - (n + 1))).drop at_) 0 → 1 ≤ (wy o s n).1 (stepM o q (byteB s n)) → Pieces o s at_ (chunksF o s (n + 1) q)
  | n, hn, q, at_, hat, hq, hw => by
    have hl := unB_size s
    have hsn : ((unB s).take (s.size - n)).drop at_ = ((unB s).take (s.size - (n + 1))).drop at_ ++ [byteB s n] := by
      have e := unB_drop hn
      have h1 : (unB s)[s.size - (n + 1)]? = some (byteB s n) := by
        have := congrArg (fun l => l[0]?) e
        simpa [List.getElem?_drop] using this
      rw [show s.size - n = s.size - (n + 1) + 1 by omega, take_succ_snoc h1, List.drop_append_of_le_length (by rw [List.length_take]; omega)]
    have hq' : stepM o q (byteB s n) = runL o (((unB s).take (s.size - n)).drop at_) 0 := by rw [hsn, runL_append, hq]; rfl
    have hpos : (wy o s 0).2 = 1 := rfl
    rw [chunksF]
    by_cases hc : (finM o (stepM o q (byteB s n)) && decide (0 < (wy o s n).2)) = true
    · rw [if_pos hc]
      rw [Bool.and_eq_true, decide_eq_true_eq] at hc
      refine ⟨s.size - n, rfl, by omega, by omega, by rw [acc_ext]; unfold accL; rw [← hq']; exact hc.1, ?_⟩
      match n, hn, hc.2 with
      | 0, _, _ => exact Nat.sub_zero _
      | m + 1, hn, h2 =>
        rw [wy_two] at h2
        exact chunks_ok m (by omega) 0 _ (by omega) (by rw [List.drop_of_length_le (by rw [List.length_take]; omega)]; rfl) h2
    · rw [if_neg hc]
      match n, hn, hc, hw, hq', hat with
      | 0, _, hc, hw, _, _ =>
        exfalso
        have h1 : finM o (stepM o q (byteB s 0)) = true := by
          have : 1 ≤ (if finM o (stepM o q (byteB s 0)) then 1 else 0) := hw
          cases h : finM o (stepM o q (byteB s 0))
          · rw [h] at this; simp at this
          · rfl
        rw [h1, hpos] at hc
        simp at hc
      | m + 1, hn, hc, hw, hq', hat =>
        refine chunks_ok m (by omega) _ at_ (by omega) hq' ?_
        rw [wy_one] at hw
        cases h : finM o (stepM o q (byteB s (m + 1))) with
        | false => rw [h] at hw; simpa using hw
        | true =>
          rw [h, if_pos rfl] at hw
          rw [h, Bool.true_and] at hc
          have : (wy o s (m + 1)).2 = 0 := by simpa using hc
          omega
theorem chunks_pieces {o : Option AM} {s : ByteArray} (h : 1 ≤ (wy o s s.size).2) : Pieces o s 0 (chunksF o s s.size 0) := by
  cases hn : s.size with
  | zero => exact hn.symm
  | succ n =>
    rw [hn, wy_two] at h
    exact chunks_ok n (by omega) 0 0 (Nat.zero_le _) (by rw [show s.size - (n + 1) = 0 by omega]; rfl) h
/-- Where the members of a list end. -/
def posOf : Nat → List (List Nat) → List Int
  | _, [] => []
  | i, m :: r => ((i + m.length : Nat) : Int) :: posOf (i + m.length) r
theorem pieces_list {o : Option AM} {s : ByteArray} : ∀ {l : List Int} {at_ : Nat}, Pieces o s at_ l → ∃ ls, Mems o ls ∧ ls.flatten = (unB s).drop at_ ∧ posOf at_ ls = l
  | [], at_, h => ⟨[], (fun m hm => by cases hm), by rw [show at_ = s.size from h, List.drop_of_length_le (by rw [unB_size]; exact Nat.le_refl _)]; rfl, rfl⟩
  | e :: l, at_, h => by
    obtain ⟨e', rfl, h1, h2, h3, h4⟩ := h
    have hl := unB_size s
    obtain ⟨ls, k1, k2, k3⟩ := pieces_list h4
    have hlen : (((unB s).take e').drop at_).length = e' - at_ := by rw [List.length_drop, List.length_take]; omega
    rw [acc_ext] at h3
    refine ⟨((unB s).take e').drop at_ :: ls, mems_cons.2 ⟨⟨fun h => ?_, h3⟩, k1⟩, ?_, ?_⟩
    · rw [h] at hlen; simp at hlen; omega
    · rw [List.flatten_cons, k2]
      conv => rhs; rw [← List.take_append_drop e' (unB s), List.drop_append_of_le_length (by rw [List.length_take]; omega)]
    · show _ :: posOf _ ls = _
      rw [hlen, show at_ + (e' - at_) = e' by omega, k3]
/-- Two members one behind the other can be taken apart. -/
theorem ways_join {o : Option AM} {s t : ByteArray} (hs : acceptsM o s = true) (ht : acceptsM o t = true) : 1 ≤ (wy o (s ++ t) (s ++ t).size).2 := by
  have hu : unB (s ++ t) = unB s ++ unB t := by unfold unB; simp
  have h1 : accL o (unB s) = true := by rw [← acc_bA (unB_bytes s), bA_unB]; exact hs
  have h2 : accL o (unB t) = true := by rw [← acc_bA (unB_bytes t), bA_unB]; exact ht
  cases hn : (s ++ t).size with
  | zero => exact Nat.le_refl _
  | succ n =>
    rw [wy_two, wy_star n (by omega)]
    have hd := unB_drop (s := s ++ t) (k := n) (by omega)
    rw [show (s ++ t).size - (n + 1) = 0 by omega, List.drop_zero, hu] at hd
    rw [hu]
    generalize byteB (s ++ t) n = c at *
    generalize (unB s ++ unB t).drop ((s ++ t).size - n) = rest at *
    cases hx : unB s with
    | nil =>
      rw [hx, List.nil_append] at hd
      rw [hd] at h2
      have := star_of (a := o) _ rest [] (stepM o 0 c) rfl h2 (fun m hm => by cases hm)
      simpa using this
    | cons d x =>
      rw [hx, List.cons_append, List.cons.injEq] at hd
      obtain ⟨rfl, rfl⟩ := hd
      rw [hx] at h1
      by_cases hy : unB t = []
      · have := star_of (a := o) _ x [] (stepM o 0 d) rfl h1 (fun m hm => by cases hm)
        rw [hy]
        simpa using this
      · have := star_of (a := o) _ x [unB t] (stepM o 0 d) rfl h1 (fun m hm => by rw [List.mem_singleton] at hm; subst hm; exact ⟨hy, h2⟩)
        simpa using this
/-- .. in one way alone, where Iter finds no word. -/
theorem join_one {o : Option AM} {s t : ByteArray} (h0 : finM o 0 = false) (hs : acceptsM o s = true) (ht : acceptsM o t = true) (hno : ∀ u, bytes_ u → ¬ LeadsP (iterG o) (· = root) u) : chunksF o (s ++ t) (s ++ t).size 0 = [(s.size : Int), ((s.size + t.size : Nat) : Int)] := by
  have hu : unB (s ++ t) = unB s ++ unB t := by unfold unB; simp
  have h1 : accL o (unB s) = true := by rw [← acc_bA (unB_bytes s), bA_unB]; exact hs
  have h2 : accL o (unB t) = true := by rw [← acc_bA (unB_bytes t), bA_unB]; exact ht
  have hne : ∀ w, accL o w = true → w ≠ [] := fun w hw e => by
    rw [e] at hw
    have : accL o [] = finM o 0 := rfl
    rw [this, h0] at hw; cases hw
  obtain ⟨ls, k1, k2, k3⟩ := pieces_list (chunks_pieces (ways_join hs ht))
  rw [List.drop_zero, hu] at k2
  have hm : Mems o [unB s, unB t] := mems_cons.2 ⟨⟨hne _ h1, h1⟩, mems_cons.2 ⟨⟨hne _ h2, h2⟩, fun m hm => by cases hm⟩⟩
  by_cases he : ls = [unB s, unB t]
  · rw [← k3, he]
    show [_, _] = _
    rw [unB_size, unB_size, Nat.zero_add]
  · obtain ⟨x, y, e, hx⟩ := two_lists ls [unB s, unB t] k1 hm (by rw [k2]; simp) he
    refine absurd ⟨root, rfl, hx⟩ (hno x fun b hb => ?_)
    rw [k2] at e
    have : b ∈ unB s ++ unB t := by rw [e]; exact List.mem_append.2 (.inr hb)
    rcases List.mem_append.1 this with h | h
    · exact unB_bytes s b h
    · exact unB_bytes t b h
end Go.Proofs.Ytpnnedkpbmilkaa
