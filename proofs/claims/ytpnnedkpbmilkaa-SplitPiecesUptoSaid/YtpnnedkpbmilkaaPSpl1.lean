/- split.tails, split.Cuts, split.Cut. -/
import Derived.Test.YtpnnedkpbmilkaaPSame5
set_option linter.unusedVariables false
set_option linter.unusedSimpArgs false
set_option maxRecDepth 100000
namespace Go.Proofs.Ytpnnedkpbmilkaa
open Go.VC
attribute [local irreducible] mRun atRun

/-- From state q, is the rest from place i on taken? -/
def fromM (o : Option AM) (s : ByteArray) (i : Nat) (q : Int) : Bool := finM o ((s.data.toList.drop i).foldl (fun q b => stepM o q b.toNat) q)
theorem fromM_end (o : Option AM) (s : ByteArray) (q : Int) : fromM o s s.size q = finM o q := by
  unfold fromM
  rw [List.drop_eq_nil_of_le (by rw [Array.length_toList]; exact Nat.le_refl _)]; rfl
theorem fromM_step {o : Option AM} {s : ByteArray} {i : Nat} {b : UInt8} (h : s.data[i]? = some b) (q : Int) : fromM o s i q = fromM o s (i + 1) (stepM o q b.toNat) := by
  unfold fromM
  have h' : s.data.toList[i]? = some b := by rw [Array.getElem?_toList]; exact h
  obtain ⟨h1, h2⟩ := List.getElem?_eq_some_iff.1 h'
  rw [List.drop_eq_getElem_cons h1, h2]; rfl
def tailsL (o : Option AM) (s : ByteArray) (n : Nat) : List Bool := (List.range (s.size + 1)).map fun i => decide (s.size ≤ i + n) && fromM o s i 0
theorem tailsL_len (o : Option AM) (s : ByteArray) (n : Nat) : (tailsL o s n).length = s.size + 1 := by simp [tailsL]
theorem tailsL_get (o : Option AM) (s : ByteArray) (n : Nat) {i : Nat} (h : i < s.size + 1) : (tailsL o s n)[i]? = some (decide (s.size ≤ i + n) && fromM o s i 0) := by
  unfold tailsL
  rw [List.getElem?_map, List.getElem?_range h]; rfl
theorem tailsL_put (o : Option AM) (s : ByteArray) {n : Nat} (h : n + 1 ≤ s.size) : (tailsL o s n).set (s.size - (n + 1)) (fromM o s (s.size - (n + 1)) 0) = tailsL o s (n + 1) := by
  apply List.ext_getElem?
  intro j
  by_cases hj : j < s.size + 1
  · rw [tailsL_get o s (n + 1) hj, List.getElem?_set, tailsL_len]
    by_cases hjn : s.size - (n + 1) = j
    · subst hjn
      rw [if_pos rfl, if_pos hj, decide_eq_true (by omega)]; rfl
    · rw [if_neg hjn, tailsL_get o s n hj]
      have : decide (s.size ≤ j + n) = decide (s.size ≤ j + (n + 1)) := decide_eq_decide.2 (by omega)
      rw [this]
  · rw [List.getElem?_eq_none (by rw [List.length_set, tailsL_len]; omega), List.getElem?_eq_none (by rw [tailsL_len]; omega)]
theorem tailsL_zero (o : Option AM) (s : ByteArray) : (List.replicate (s.size + 1) false).set s.size (fromM o s s.size 0) = tailsL o s 0 := by
  apply List.ext_getElem?
  intro j
  by_cases hj : j < s.size + 1
  · rw [tailsL_get o s 0 hj, List.getElem?_set, List.length_replicate]
    by_cases hjn : s.size = j
    · subst hjn
      rw [if_pos rfl, if_pos hj, decide_eq_true (by omega)]; rfl
    · rw [if_neg hjn, List.getElem?_replicate, if_pos hj, decide_eq_false (by omega)]; rfl
  · rw [List.getElem?_eq_none (by simp; omega), List.getElem?_eq_none (by rw [tailsL_len]; omega)]
/-- For each state, is the rest taken? -/
def thenL (o : Option AM) (s : ByteArray) (i : Nat) : List Bool := (List.range (stN o)).map fun (q : Nat) => fromM o s i (q : Int)
theorem thenL_len (o : Option AM) (s : ByteArray) (i : Nat) : (thenL o s i).length = stN o := by simp [thenL]
theorem thenL_get (o : Option AM) (s : ByteArray) (i : Nat) {q : Nat} (h : q < stN o) : (thenL o s i)[q]? = some (fromM o s i (q : Int)) := by
  unfold thenL
  rw [List.getElem?_map, List.getElem?_range h]; rfl
theorem step_in {S : Nat → Prop} {H : Heap} {v : Value} {o : Option AM} (h : AutoV S H v o) {q b : Nat} (hq : q < stN o) (hb : b < 256) : 0 ≤ stepM o (q : Int) b ∧ stepM o (q : Int) b < stN o := by
  cases o with
  | none =>
    have : q = 0 := by simp only [stN] at hq; omega
    subst this
    decide +revert
  | some A =>
    obtain ⟨pb, rfl, hown, hok, _⟩ := h
    exact stepM_range hok (by omega) (by simp only [stN] at hq; omega) hb

set_option maxHeartbeats 4000000 in
theorem tails_c {S : Nat → Prop} {H : Heap} {v : Value} {o : Option AM} {s : ByteArray} (hS : ∀ k, S k → k < H.size) (h : AutoV S H v o) (hs : s.size ≤ 4194304) :
    FnOk Try.prog 64 #[v, .string s] H fun v' H' => Agr (Old H) H H' ∧ H.size ≤ H'.size ∧ ∃ b, v' = .slice (some ⟨b, 0, none⟩) (s.size + 1) (s.size + 1) ∧ SlO tBool (fun _ => False) H' H.size 4 v' (tailsL o s s.size) := by
  obtain ⟨hm1, hm2⟩ := stN_le h
  have hF : ∀ {H' : Heap}, Agr (Old H) H H' → AutoV S H' v o := fun k => h.frame (k.mono hS)
  have hL : ∀ {H' : Heap}, Agr (Old H) H H' → ∀ k, S k → k < H'.size := fun h k hk => old_lt h (hS k hk)
  refine FnOk.of_vc Try.func64 rfl (Try.call64 _) ?_
  (conv => whnf); rw [w64 (x := (s.size : Int) + 1) (by omega) (by omega)]
  (conv => whnf); refine vmake1 sl24 rfl (by omega) (by omega) (by omega) (by omega) ?_
  intro ob H1 hob hs1 hb1 ha1
  rw [show ((s.size : Int) + 1).toNat = s.size + 1 by omega] at hb1
  rw [show ((s.size : Int) + 1).toNat = s.size + 1 by omega]
  have hA1 : Agr (Old H) H H1 := ha1.mono fun j hj => by unfold Old at hj; omega
  (conv => whnf); refine pures (states_p (hF hA1)) fun H2 ha2 => ?_
  have hA2 := hA1.trans (ha2.mono fun k hk => old_lt hA1 hk)
  have hs2 := old_size ha2
  (conv => whnf); refine vmake1 sl24 rfl (by omega) (by omega) (by omega) (by omega) ?_
  intro tb H3 htb hs3 hb3 ha3
  rw [Int.toNat_natCast] at hb3
  rw [Int.toNat_natCast]
  have hA3 := hA2.trans (ha3.mono fun k hk => by have := old_lt hA2 hk; omega)
  (conv => whnf); refine pures (states_p (hF hA3)) fun H4 ha4 => ?_
  have hA4 := hA3.trans (ha4.mono fun k hk => old_lt hA3 hk)
  have hs4 := old_size ha4
  (conv => whnf); refine vmake1 sl24 rfl (by omega) (by omega) (by omega) (by omega) ?_
  intro hb' H5 hhb hs5 hb5 ha5
  rw [Int.toNat_natCast] at hb5
  rw [Int.toNat_natCast]
  have hA5 := hA4.trans (ha5.mono fun k hk => by have := old_lt hA4 hk; omega)
  have b1 := ((hb1.agr ha2 (show ob < H1.size by omega)).agr ha3 (show ob < tb by omega)).agr ha4 (show ob < H3.size by omega)
  have b15 := b1.agr ha5 (show ob < hb' by omega)
  have b35 := (hb3.agr ha4 (show tb < H3.size by omega)).agr ha5 (show tb < hb' by omega)
  have mk : ∀ {b n : Nat}, Blk H5 b 4 (List.replicate n (.bool false)) → H.size ≤ b → n ≤ 4194305 → SlO tBool (fun _ => False) H5 H.size 4 (.slice (some ⟨b, 0, none⟩) n n) (List.replicate n false) := fun h1 h2 h3 =>
    SlO.made (T := tBool) (v := false) (c := [.bool false]) h2 (by simpa using h1) rfl (by unfold maxLen; omega)
  have o5 := mk b15 (by omega) (by omega)
  have t5 := mk b35 (by omega) (by omega)
  have h5 := mk hb5 (by omega) (by omega)
  have hsz : ∀ k : Nat, k * tBool.size = k := fun k => Nat.mul_one k
  have hsz1 : tBool.size = 1 := rfl
  have ne : ob ≠ tb ∧ ob ≠ hb' ∧ tb ≠ hb' := by omega
  have one : ∀ {H' : Heap} {b c n cap : Nat} {xs : List Bool}, SlO tBool (fun _ => False) H' H.size 4 (.slice (some ⟨b, 0, none⟩) n cap) xs → ∀ {H'' : Heap}, Agr (fun j => j ≠ c) H' H'' → b ≠ c → SlO tBool (fun _ => False) H'' H.size 4 (.slice (some ⟨b, 0, none⟩) n cap) xs := fun h1 _ h2 h3 =>
    h1.agr h2 (fun j hj => by obtain ⟨o, n, c, e⟩ := hj; cases e; exact h3) (fun _ f => f.elim)
  have old : ∀ {H' : Heap} {b n cap : Nat} {xs : List Bool}, SlO tBool (fun _ => False) H' H.size 4 (.slice (some ⟨b, 0, none⟩) n cap) xs → ∀ {H'' : Heap}, Agr (Old H') H' H'' → SlO tBool (fun _ => False) H'' H.size 4 (.slice (some ⟨b, 0, none⟩) n cap) xs := fun h1 _ h2 =>
    h1.agr h2 (fun j hj => (h1.lt hj).2) (fun _ f => f.elim)
  have e0 : thenL o s s.size = (List.range (stN o)).map fun (q : Nat) => finM o (q : Int) := by
    unfold thenL
    exact List.map_congr_left fun q _ => fromM_end o s q
  have tl := thenL_len o s s.size
  (conv => whnf)
  refine VLoop.mk [23] (fun k : Nat => [.int .i64 k]) (fun k H6 => k ≤ stN o ∧ Agr (fun j => j < H5.size ∧ j ≠ tb) H5 H6 ∧ H5.size ≤ H6.size ∧ SlO tBool (fun _ => False) H6 H.size 4 (.slice (some ⟨tb, 0, none⟩) (stN o) (stN o)) ((thenL o s s.size).take k ++ List.replicate ((thenL o s s.size).length - k) false)) (fun k _ => stN o - k) ?_ ?_
  · (conv => whnf)
    exact ⟨0, rfl, by omega, Agr.refl _ _, Nat.le_refl _, by rw [fill_beg, tl]; exact t5⟩
  · rintro k H6 junk6 ⟨hk, ha6, hs6, t6⟩
    have hA6 := hA5.trans (ha6.mono fun j hj => ⟨old_lt hA5 hj, by unfold Old at hj; omega⟩)
    (conv => whnf); refine VIte.mk (fun h => ?_) (fun h => ?_) <;> simp only [decide_eq_true_eq, decide_eq_false_iff_not] at h
    · (conv => whnf); refine pures (final_p (hF hA6)) fun H7 ha7 => ?_
      have hs7 := old_size ha7
      have hget : (thenL o s s.size)[k]? = some (finM o (k : Int)) := by rw [thenL_get o s s.size (by omega), fromM_end]
      obtain ⟨-, -, -, l7, hblk7, hlen7, -, hput7⟩ := (old t6 ha7).placeS (i := k) (by rw [fill_len (by omega)]; omega)
      have := hsz k
      (conv => whnf); refine ix sl24 (by omega) (by omega) ?_
      (conv => whnf); refine st1 ct4 hblk7 (by omega) rfl ?_
      intro H8 hb8 ha8 hs8
      rw [show 0 + ((k : Nat) : Int).toNat * 1 = k * tBool.size by rw [hsz]; omega] at hb8
      have t8 := hput7 H8 [.bool (finM o (k : Int))] (finM o (k : Int)) (by rw [← splice_one (show k * tBool.size < l7.length by omega)] at hb8; exact hb8) (fun j hj => hj.elim) rfl
      rw [fill_set hget] at t8
      (conv => whnf); rw [w64 (x := (k : Int) + 1) (by omega) (by omega)]
      exact ⟨rfl, k + 1, by simp, ⟨by omega, (ha6.trans (ha7.mono fun j hj => by unfold Old; omega)).trans (ha8.mono fun j hj => hj.2), by omega, t8⟩, by omega⟩
    · obtain rfl : k = stN o := by omega
      have hfe := fill_end (l := thenL o s s.size) (z := false)
      rw [tl] at hfe t6
      rw [hfe] at t6
      have o6 : SlO tBool (fun _ => False) H6 H.size 4 (.slice (some ⟨ob, 0, none⟩) (s.size + 1) (s.size + 1)) (List.replicate (s.size + 1) false) := o5.agr ha6 (fun j hj => by obtain ⟨o, n, c, e⟩ := hj; cases e; omega) (fun _ f => f.elim)
      have h6 : SlO tBool (fun _ => False) H6 H.size 4 (.slice (some ⟨hb', 0, none⟩) (stN o) (stN o)) (List.replicate (stN o) false) := h5.agr ha6 (fun j hj => by obtain ⟨o, n, c, e⟩ := hj; cases e; omega) (fun _ f => f.elim)
      -- the last place
      have rd : ∀ {H' : Heap} {b n cap i : Nat} {xs : List Bool} {x : Bool}, SlO tBool (fun _ => False) H' H.size 4 (.slice (some ⟨b, 0, none⟩) n cap) xs → xs[i]? = some x → VC.cell H' b (0 + i * 1) = some (.bool x) := fun h1 h2 => by
        obtain ⟨-, -, -, _, _, _, hg, _⟩ := h1.placeS (i := _) (List.getElem?_eq_some_iff.1 h2).1
        obtain ⟨c, hc, rfl⟩ := hg _ h2
        have := hc.one
        rw [hsz] at this
        simpa using this
      have g0 : (thenL o s s.size)[0]? = some (fromM o s s.size 0) := thenL_get o s s.size (by omega)
      obtain ⟨-, -, -, l9, hblk9, hlen9, -, hput9⟩ := o6.placeS (i := s.size) (by simp)
      have := hsz s.size
      (conv => whnf); refine ix sl24 (by omega) (by omega) ?_
      (conv => whnf); refine ld1 (v := .bool (fromM o s s.size 0)) ct4 (rd t6 g0) trivial ?_
      (conv => whnf); refine ix sl24 (by omega) (by omega) ?_
      (conv => whnf); refine st1 ct4 hblk9 (by omega) rfl ?_
      intro H7 hb7 ha7 hs7
      rw [show 0 + ((s.size : Nat) : Int).toNat * 1 = s.size * tBool.size by rw [hsz]; omega] at hb7
      have o7 := hput9 H7 [.bool (fromM o s s.size 0)] (fromM o s s.size 0) (by rw [← splice_one (show s.size * tBool.size < l9.length by omega)] at hb7; exact hb7) (fun j hj => hj.elim) rfl
      rw [tailsL_zero] at o7
      have t7 := one t6 ha7 (by omega)
      have h7 := one h6 ha7 (by omega)
      (conv => whnf); rw [w64 (x := (s.size : Int) - 1) (by omega) (by omega)]
      (conv => whnf)
      refine VLoop.mk [6, 7, 9] (fun x : Nat × Nat × Nat => match x with | (n, tb, hb) => [.slice (some ⟨tb, 0, none⟩) (stN o) (stN o), .slice (some ⟨hb, 0, none⟩) (stN o) (stN o), .int .i64 ((s.size : Int) - 1 - n)])
        (fun x H8 => x.1 ≤ s.size ∧ Agr (Old H) H H8 ∧ H7.size ≤ H8.size ∧ (x.2.1 ≠ x.2.2 ∧ ob ≠ x.2.1 ∧ ob ≠ x.2.2 ∧ H.size ≤ x.2.1 ∧ H.size ≤ x.2.2) ∧ SlO tBool (fun _ => False) H8 H.size 4 (.slice (some ⟨ob, 0, none⟩) (s.size + 1) (s.size + 1)) (tailsL o s x.1) ∧
          SlO tBool (fun _ => False) H8 H.size 4 (.slice (some ⟨x.2.1, 0, none⟩) (stN o) (stN o)) (thenL o s (s.size - x.1)) ∧ ∃ ys : List Bool, ys.length = stN o ∧ SlO tBool (fun _ => False) H8 H.size 4 (.slice (some ⟨x.2.2, 0, none⟩) (stN o) (stN o)) ys) (fun x _ => s.size - x.1) ?_ ?_
      · (conv => whnf)
        exact ⟨(0, tb, hb'), by simp, by simp, hA6.trans (ha7.mono fun j hj => by unfold Old at hj; omega), Nat.le_refl _, ⟨by simp only; omega, by simp only; omega, by simp only; omega, by simp only; omega, by simp only; omega⟩, o7, t7, _, by simp, h7⟩
      · rintro ⟨n, tb2, hb2⟩ H8 junk8 ⟨hn, hA8, hs8, hne, o8, t8, ys, hyl, h8⟩
        simp only at hn hne t8 h8 o8
        (conv => whnf); refine VIte.mk (fun h => ?_) (fun h => ?_) <;> simp only [decide_eq_true_eq, decide_eq_false_iff_not] at h
        · obtain ⟨i, hi⟩ : ∃ i : Nat, i = s.size - (n + 1) := ⟨_, rfl⟩
          have hii : (s.size : Int) - 1 - (n : Int) = (i : Int) := by omega
          rw [show s.size - n = i + 1 by omega] at t8
          obtain ⟨b, hb⟩ := get_byte (s := s) (k := i) (by omega)
          have hb256 := UInt8.toNat_lt b
          have tl2 := thenL_len o s i
          rw [hii]
          (conv => whnf)
          refine VLoop.mk [49] (fun k : Nat => [.int .i64 k]) (fun k H9 => k ≤ stN o ∧ Agr (Old H) H H9 ∧ H8.size ≤ H9.size ∧ SlO tBool (fun _ => False) H9 H.size 4 (.slice (some ⟨ob, 0, none⟩) (s.size + 1) (s.size + 1)) (tailsL o s n) ∧ SlO tBool (fun _ => False) H9 H.size 4 (.slice (some ⟨tb2, 0, none⟩) (stN o) (stN o)) (thenL o s (i + 1)) ∧
            SlO tBool (fun _ => False) H9 H.size 4 (.slice (some ⟨hb2, 0, none⟩) (stN o) (stN o)) ((thenL o s i).take k ++ ys.drop k)) (fun k _ => stN o - k) ?_ ?_
          · (conv => whnf)
            exact ⟨0, rfl, by omega, hA8, Nat.le_refl _, o8, t8, by simpa using h8⟩
          · rintro k H9 junk9 ⟨hk9, hA9, hs9, o9, t9, h9⟩
            (conv => whnf); refine VIte.mk (fun h => ?_) (fun h => ?_) <;> simp only [decide_eq_true_eq, decide_eq_false_iff_not] at h
            · have hin := step_in (hF hA9) (q := k) (b := b.toNat) (by omega) hb256
              obtain ⟨q', hq'⟩ := Int.eq_ofNat_of_zero_le hin.1
              have hnext : fromM o s i (k : Int) = fromM o s (i + 1) (q' : Int) := by rw [fromM_step hb, hq']
              have hget : (thenL o s i)[k]? = some (fromM o s (i + 1) (q' : Int)) := by rw [thenL_get o s i (by omega), hnext]
              (conv => whnf); refine vidxs strT rfl hb ?_
              (conv => whnf); refine pures (step_p (hL hA9) (hF hA9) hb256) fun H10 ha10 => ?_
              rw [hq']
              have hA10 := hA9.trans (ha10.mono fun j hj => old_lt hA9 hj)
              have hs10 := old_size ha10
              have o10 := old o9 ha10
              have t10 := old t9 ha10
              have hlen : ((thenL o s i).take k ++ ys.drop k).length = stN o := by simp [tl2, hyl]; omega
              obtain ⟨-, -, -, l11, hblk11, hlen11, -, hput11⟩ := (old h9 ha10).placeS (i := k) (by omega)
              have := hsz k
              (conv => whnf); refine ix sl24 (by omega) (by omega) ?_
              (conv => whnf); refine ld1 (v := .bool (fromM o s (i + 1) (q' : Int))) ct4 (by rw [Int.toNat_natCast]; exact rd t10 (thenL_get o s (i + 1) (by omega))) trivial ?_
              (conv => whnf); refine ix sl24 (by omega) (by omega) ?_
              (conv => whnf); refine st1 ct4 hblk11 (by omega) rfl ?_
              intro H11 hb11 ha11 hs11
              rw [show 0 + ((k : Nat) : Int).toNat * 1 = k * tBool.size by rw [hsz]; omega] at hb11
              have h11 := hput11 H11 [.bool (fromM o s (i + 1) (q' : Int))] (fromM o s (i + 1) (q' : Int)) (by rw [← splice_one (show k * tBool.size < l11.length by omega)] at hb11; exact hb11) (fun j hj => hj.elim) rfl
              have hset : ((thenL o s i).take k ++ ys.drop k).set k (fromM o s (i + 1) (q' : Int)) = (thenL o s i).take (k + 1) ++ ys.drop (k + 1) := by
                rw [List.set_append_right _ _ (by simp; omega), List.length_take, tl2, Nat.min_eq_left (by omega), Nat.sub_self, List.drop_eq_getElem_cons (show k < ys.length by omega), List.set_cons_zero, take_succ_snoc hget, List.append_assoc]; rfl
              rw [hset] at h11
              (conv => whnf); rw [w64 (x := (k : Int) + 1) (by omega) (by omega)]
              exact ⟨rfl, k + 1, by simp, ⟨by omega, hA10.trans (ha11.mono fun j hj => by unfold Old at hj; omega), by omega, one o10 ha11 hne.2.2.1, one t10 ha11 hne.1, h11⟩, by omega⟩
            · obtain rfl : k = stN o := by omega
              rw [List.drop_eq_nil_of_le (by omega), List.append_nil, show (thenL o s i).take (stN o) = thenL o s i by rw [← tl2, List.take_length]] at h9
              have g1 : (thenL o s i)[0]? = some (fromM o s i 0) := thenL_get o s i (by omega)
              obtain ⟨-, -, -, l12, hblk12, hlen12, -, hput12⟩ := o9.placeS (i := i) (by rw [tailsL_len]; omega)
              have := hsz i
              (conv => whnf); refine ix sl24 (by omega) (by omega) ?_
              (conv => whnf); refine ld1 (v := .bool (fromM o s i 0)) ct4 (rd h9 g1) trivial ?_
              (conv => whnf); refine ix sl24 (by omega) (by omega) ?_
              (conv => whnf); refine st1 ct4 hblk12 (by omega) rfl ?_
              intro H12 hb12 ha12 hs12
              rw [show 0 + ((i : Nat) : Int).toNat * 1 = i * tBool.size by rw [hsz]; omega] at hb12
              have o12 := hput12 H12 [.bool (fromM o s i 0)] (fromM o s i 0) (by rw [← splice_one (show i * tBool.size < l12.length by omega)] at hb12; exact hb12) (fun j hj => hj.elim) rfl
              have hp := tailsL_put o s (n := n) (by omega)
              rw [← hi] at hp
              rw [hp] at o12
              (conv => whnf); rw [w64 (x := (i : Int) - 1) (by omega) (by omega)]
              refine ⟨rfl, (n + 1, hb2, tb2), ?_, ⟨by simp only; omega, hA9.trans (ha12.mono fun j hj => by unfold Old at hj; omega), by omega, ⟨by simp only; omega, by simp only; omega, by simp only; omega, by simp only; omega, by simp only; omega⟩, o12, ?_, _, thenL_len o s (i + 1), one t9 ha12 (Ne.symm hne.2.1)⟩, by simp only; omega⟩
              · simp only
                rw [show (s.size : Int) - 1 - ((n + 1 : Nat) : Int) = (i : Int) - 1 by omega]
              · simp only
                rw [show s.size - (n + 1) = i by omega]
                exact one h9 ha12 (Ne.symm hne.2.2.1)
        · obtain rfl : n = s.size := by omega
          (conv => whnf)
          exact ⟨hA8, by omega, ob, rfl, o8⟩

end Go.Proofs.Ytpnnedkpbmilkaa
