/- split.lists, split.Ways; speaks of layer 10. -/
import Derived.Test.YtpnnedkpbmilkaaPSpl3
set_option linter.unusedVariables false
set_option linter.unusedSimpArgs false
set_option maxRecDepth 100000
namespace Go.VC
theorem vmin2 {P : Program} {ats : Array TypeId} {t : TypeId} {k k' : IntKind} {a b : Int} {S : Nat → Prop} {H : Heap} {K : Value → Prop} (h : K (.int k (if b < a then b else a))) : VDet P (Builtin.min_ ats t [.int k a, .int k' b].toArray) S H K := by
  refine VDet.mk _ (fun w _ => ?_) h
  simp [Builtin.min_, Builtin.min2]
end Go.VC
namespace Go.Proofs.Ytpnnedkpbmilkaa
open Go.VC

/-- With n bytes to go: how many ways to end well from each state, how many lists make the rest. -/
def wy (o : Option AM) (s : ByteArray) : Nat → (Int → Nat) × Nat
  | 0 => (fun q => if finM o q then 1 else 0, 1)
  | n + 1 => (fun q => if finM o q then min 2 ((wy o s n).1 (stepM o q (s.data.toList.getD (s.size - (n + 1)) 0).toNat) + (wy o s n).1 (stepM o 0 (s.data.toList.getD (s.size - (n + 1)) 0).toNat)) else (wy o s n).1 (stepM o q (s.data.toList.getD (s.size - (n + 1)) 0).toNat),
      (wy o s n).1 (stepM o 0 (s.data.toList.getD (s.size - (n + 1)) 0).toNat))
def someN : AM := ⟨someM.sets, List.replicate 256 0, [[0 + 1], [1]], [false, true]⟩
theorem some_same : someM = someN := by
  have h1 : someM.cell = List.replicate 256 0 := by kernel_rfl
  have h2 : someM.next = [[0 + 1], [1]] := by kernel_rfl
  have h3 : someM.final = [false, true] := rfl
  unfold someN
  rw [← h1, ← h2, ← h3]
attribute [local irreducible] someM
theorem some_ways : (wy (some someM) ⟨#[97]⟩ 1).2 = 1 := by rw [some_same]; kernel_rfl
theorem some_cuts : cutsM (some someM) (some someM) ⟨#[97, 98, 99]⟩ = [1, 2] := by rw [some_same]; kernel_rfl
attribute [local irreducible] mRun atRun
theorem wy_le (o : Option AM) (s : ByteArray) : ∀ n, (∀ q, (wy o s n).1 q ≤ 2) ∧ (wy o s n).2 ≤ 2
  | 0 => ⟨fun q => by simp only [wy]; split <;> omega, by simp [wy]⟩
  | n + 1 => by
    have ih := (wy_le o s n).1
    refine ⟨fun q => ?_, by simp only [wy]; exact ih _⟩
    simp only [wy]
    split
    · omega
    · exact ih _
def wyL (o : Option AM) (s : ByteArray) (n : Nat) : List Int := (List.range (stN o)).map fun (q : Nat) => ((wy o s n).1 (q : Int) : Int)
theorem wyL_len (o : Option AM) (s : ByteArray) (n : Nat) : (wyL o s n).length = stN o := by simp [wyL]
theorem wyL_get (o : Option AM) (s : ByteArray) (n : Nat) {q : Nat} (h : q < stN o) : (wyL o s n)[q]? = some ((wy o s n).1 (q : Int) : Int) := by
  unfold wyL
  rw [List.getElem?_map, List.getElem?_range h]; rfl
/-- The counts at all places, as far as they are known. -/
def wayL (o : Option AM) (s : ByteArray) (n : Nat) : List Int := (List.range (s.size + 1)).map fun i => if s.size ≤ i + n then ((wy o s (s.size - i)).2 : Int) else 0
theorem wayL_len (o : Option AM) (s : ByteArray) (n : Nat) : (wayL o s n).length = s.size + 1 := by simp [wayL]
theorem wayL_get (o : Option AM) (s : ByteArray) (n : Nat) {i : Nat} (h : i < s.size + 1) : (wayL o s n)[i]? = some (if s.size ≤ i + n then ((wy o s (s.size - i)).2 : Int) else 0) := by
  unfold wayL
  rw [List.getElem?_map, List.getElem?_range h]; rfl
theorem wayL_put (o : Option AM) (s : ByteArray) {n : Nat} (h : n + 1 ≤ s.size) : (wayL o s n).set (s.size - (n + 1)) ((wy o s (n + 1)).2 : Int) = wayL o s (n + 1) := by
  apply List.ext_getElem?
  intro j
  by_cases hj : j < s.size + 1
  · rw [wayL_get o s (n + 1) hj, List.getElem?_set, wayL_len]
    by_cases hjn : s.size - (n + 1) = j
    · subst hjn
      rw [if_pos rfl, if_pos hj, if_pos (by omega), show s.size - (s.size - (n + 1)) = n + 1 by omega]
    · rw [if_neg hjn, wayL_get o s n hj]
      have : (s.size ≤ j + n) ↔ (s.size ≤ j + (n + 1)) := by omega
      simp only [this]
  · rw [List.getElem?_eq_none (by rw [List.length_set, wayL_len]; omega), List.getElem?_eq_none (by rw [wayL_len]; omega)]
theorem wayL_zero (o : Option AM) (s : ByteArray) : (List.replicate (s.size + 1) (0 : Int)).set s.size 1 = wayL o s 0 := by
  apply List.ext_getElem?
  intro j
  by_cases hj : j < s.size + 1
  · rw [wayL_get o s 0 hj, List.getElem?_set, List.length_replicate]
    by_cases hjn : s.size = j
    · subst hjn
      rw [if_pos rfl, if_pos hj, if_pos (by omega), Nat.sub_self]; rfl
    · rw [if_neg hjn, List.getElem?_replicate, if_pos hj, if_neg (by omega)]
  · rw [List.getElem?_eq_none (by simp; omega), List.getElem?_eq_none (by rw [wayL_len]; omega)]

set_option maxHeartbeats 8000000 in
theorem lists_c {S : Nat → Prop} {H : Heap} {v : Value} {o : Option AM} {s : ByteArray} (hS : ∀ k, S k → k < H.size) (h : AutoV S H v o) (hs : s.size ≤ 4194304) :
    FnOk Try.prog 66 #[v, .string s] H fun v' H' => Agr (Old H) H H' ∧ H.size ≤ H'.size ∧ ∃ b, v' = .slice (some ⟨b, 0, none⟩) (s.size + 1) (s.size + 1) ∧ SlO tI (fun _ => False) H' H.size 3 v' (wayL o s s.size) := by
  obtain ⟨hm1, hm2⟩ := stN_le h
  have hF : ∀ {H' : Heap}, Agr (Old H) H H' → AutoV S H' v o := fun k => h.frame (k.mono hS)
  have hL : ∀ {H' : Heap}, Agr (Old H) H H' → ∀ k, S k → k < H'.size := fun h k hk => old_lt h (hS k hk)
  have hsz : ∀ k : Nat, k * tI.size = k := fun k => Nat.mul_one k
  have hsz1 : tI.size = 1 := rfl
  have one : ∀ {H' : Heap} {b c n cap : Nat} {xs : List Int}, SlO tI (fun _ => False) H' H.size 3 (.slice (some ⟨b, 0, none⟩) n cap) xs → ∀ {H'' : Heap}, Agr (fun j => j ≠ c) H' H'' → b ≠ c → SlO tI (fun _ => False) H'' H.size 3 (.slice (some ⟨b, 0, none⟩) n cap) xs := fun h1 _ h2 h3 =>
    h1.agr h2 (fun j hj => by obtain ⟨o, n, c, e⟩ := hj; cases e; exact h3) (fun _ f => f.elim)
  have old : ∀ {H' : Heap} {b n cap : Nat} {xs : List Int}, SlO tI (fun _ => False) H' H.size 3 (.slice (some ⟨b, 0, none⟩) n cap) xs → ∀ {H'' : Heap}, Agr (Old H') H' H'' → SlO tI (fun _ => False) H'' H.size 3 (.slice (some ⟨b, 0, none⟩) n cap) xs := fun h1 _ h2 =>
    h1.agr h2 (fun j hj => (h1.lt hj).2) (fun _ f => f.elim)
  have rd : ∀ {H' : Heap} {b n cap i : Nat} {xs : List Int} {x : Int}, SlO tI (fun _ => False) H' H.size 3 (.slice (some ⟨b, 0, none⟩) n cap) xs → xs[i]? = some x → VC.cell H' b (0 + i * 1) = some (.int .i64 x) := fun h1 h2 => by
    obtain ⟨-, -, -, _, _, _, hg, _⟩ := h1.placeS (i := _) (List.getElem?_eq_some_iff.1 h2).1
    obtain ⟨c, hc, rfl, -⟩ := hg _ h2
    have := hc.one
    rw [hsz] at this
    simpa using this
  -- a store of a number
  have wr : ∀ {H' : Heap} {b n cap off : Nat} (i : Nat) {xs : List Int} {x : Int} {K : Heap → Prop}, SlO tI (fun _ => False) H' H.size 3 (.slice (some ⟨b, 0, none⟩) n cap) xs → off = i → i < xs.length → -9223372036854775808 ≤ x → x ≤ 9223372036854775807 →
      (∀ H'', SlO tI (fun _ => False) H'' H.size 3 (.slice (some ⟨b, 0, none⟩) n cap) (xs.set i x) → Agr (fun j => j ≠ b) H' H'' → H''.size = H'.size → K H'') → VEffU Try.prog (Instr.storeAt 3 (.pointer (some ⟨b, off, none⟩)) (.int .i64 x)) H' K := fun i _ _ _ h1 hoff hi hx0 hx1 k => by
    subst hoff
    obtain ⟨-, -, -, l, hblk, hlen, -, hput⟩ := h1.placeS hi
    rw [hsz] at hlen hput
    refine st1 ct3 hblk (by omega) rfl ?_
    intro H'' hb'' ha'' hs''
    refine k H'' (hput H'' [.int .i64 _] _ ?_ (fun j hj => hj.elim) ⟨rfl, hx0, hx1⟩) ha'' hs''
    rw [splice_one (by omega)]
    exact hb''
  refine FnOk.of_vc Try.func66 rfl (Try.call66 _) ?_
  (conv => whnf); rw [w64 (x := (s.size : Int) + 1) (by omega) (by omega)]
  (conv => whnf); refine vmake1 sl35 rfl (by omega) (by omega) (by omega) (by omega) ?_
  intro ob H1 hob hs1 hb1 ha1
  rw [show ((s.size : Int) + 1).toNat = s.size + 1 by omega] at hb1
  rw [show ((s.size : Int) + 1).toNat = s.size + 1 by omega]
  have hA1 : Agr (Old H) H H1 := ha1.mono fun j hj => by unfold Old at hj; omega
  have mk : ∀ {H' : Heap} {b n : Nat}, Blk H' b 3 (List.replicate n (.int .i64 0)) → H.size ≤ b → n ≤ 4194305 → SlO tI (fun _ => False) H' H.size 3 (.slice (some ⟨b, 0, none⟩) n n) (List.replicate n 0) := fun h1 h2 h3 =>
    SlO.made (T := tI) (v := (0 : Int)) (c := [.int .i64 0]) h2 (by simpa using h1) ⟨rfl, inI64 (x := 0) (by decide)⟩ (by unfold maxLen; omega)
  have o1 := mk hb1 (by omega) (by omega)
  (conv => whnf); refine ix sl35 (by omega) (by omega) ?_
  (conv => whnf); refine wr s.size o1 (by omega) (by simp) (by omega) (by omega) fun H2 o2 ha2 hs2 => ?_
  rw [wayL_zero o s] at o2
  have hA2 := hA1.trans (ha2.mono fun k hk => by unfold Old at hk; omega)
  (conv => whnf); refine pures (states_p (hF hA2)) fun H3 ha3 => ?_
  have hA3 := hA2.trans (ha3.mono fun k hk => old_lt hA2 hk)
  have hs3 := old_size ha3
  have o3 := old o2 ha3
  (conv => whnf); refine vmake1 sl35 rfl (by omega) (by omega) (by omega) (by omega) ?_
  intro tb H4 htb hs4 hb4 ha4
  rw [Int.toNat_natCast] at hb4
  rw [Int.toNat_natCast]
  have hA4 := hA3.trans (ha4.mono fun k hk => by have := old_lt hA3 hk; omega)
  have o4 := o3.agr ha4 (fun j hj => by have := (o3.lt hj).2; omega) (fun _ f => f.elim)
  have t4 := mk hb4 (by omega) (by omega)
  (conv => whnf); refine pures (states_p (hF hA4)) fun H5 ha5 => ?_
  have hA5 := hA4.trans (ha5.mono fun k hk => old_lt hA4 hk)
  have hs5 := old_size ha5
  (conv => whnf); refine vmake1 sl35 rfl (by omega) (by omega) (by omega) (by omega) ?_
  intro hb' H6 hhb hs6 hb6 ha6
  rw [Int.toNat_natCast] at hb6
  rw [Int.toNat_natCast]
  have hA6 := hA5.trans (ha6.mono fun k hk => by have := old_lt hA5 hk; omega)
  have o5 := old o4 ha5
  have t5 := old t4 ha5
  have o6 := o5.agr ha6 (fun j hj => by have := (o5.lt hj).2; omega) (fun _ f => f.elim)
  have t6 := t5.agr ha6 (fun j hj => by have := (t5.lt hj).2; omega) (fun _ f => f.elim)
  have h6 := mk hb6 (by omega) (by omega)
  have hob1 := (o1.lt ⟨0, _, _, rfl⟩).2
  have htb4 := (t4.lt ⟨0, _, _, rfl⟩).2
  have ne : ob ≠ tb ∧ ob ≠ hb' ∧ tb ≠ hb' := by omega
  have tl := wyL_len o s 0
  have hw0 : ∀ q : Int, (wy o s 0).1 q = if finM o q then 1 else 0 := fun q => rfl
  (conv => whnf)
  refine VLoop.mk [27] (fun k : Nat => [.int .i64 k]) (fun k H7 => k ≤ stN o ∧ Agr (Old H) H H7 ∧ H6.size ≤ H7.size ∧ SlO tI (fun _ => False) H7 H.size 3 (.slice (some ⟨ob, 0, none⟩) (s.size + 1) (s.size + 1)) (wayL o s 0) ∧ SlO tI (fun _ => False) H7 H.size 3 (.slice (some ⟨hb', 0, none⟩) (stN o) (stN o)) (List.replicate (stN o) 0) ∧
    SlO tI (fun _ => False) H7 H.size 3 (.slice (some ⟨tb, 0, none⟩) (stN o) (stN o)) ((wyL o s 0).take k ++ List.replicate ((wyL o s 0).length - k) 0)) (fun k _ => stN o - k) ?_ ?_
  · (conv => whnf)
    exact ⟨0, rfl, by omega, hA6, Nat.le_refl _, o6, h6, by rw [fill_beg, tl]; exact t6⟩
  · rintro k H7 junk7 ⟨hk, hA7, hs7, o7, h7, t7⟩
    (conv => whnf); refine VIte.mk (fun h => ?_) (fun h => ?_) <;> simp only [decide_eq_true_eq, decide_eq_false_iff_not] at h
    · (conv => whnf); refine VSeq.run ?_
      (conv => whnf); refine pures (final_p (hF hA7)) fun H8 ha8 => ?_
      have hA8 := hA7.trans (ha8.mono fun j hj => old_lt hA7 hj)
      have hs8 := old_size ha8
      have hget : (wyL o s 0)[k]? = some (((wy o s 0).1 (k : Int) : Nat) : Int) := wyL_get o s 0 (by omega)
      have t8 := old t7 ha8
      have o8 := old o7 ha8
      have h8 := old h7 ha8
      cases hfi : finM o (k : Int) with
      | true =>
        have hv : (((wy o s 0).1 (k : Int) : Nat) : Int) = 1 := by rw [hw0, hfi]; rfl
        rw [hv] at hget
        (conv => whnf); refine ix sl35 (by omega) (by omega) ?_
        (conv => whnf); refine wr k t8 (by omega) (by rw [fill_len (by omega)]; omega) (by omega) (by omega) fun H9 t9 ha9 hs9 => ?_
        rw [fill_set hget] at t9
        (conv => whnf); rw [w64 (x := (k : Int) + 1) (by omega) (by omega)]
        exact ⟨rfl, k + 1, by simp, ⟨by omega, hA8.trans (ha9.mono fun j hj => by unfold Old at hj; omega), by omega, one o8 ha9 ne.1, one h8 ha9 (Ne.symm ne.2.2), t9⟩, by omega⟩
      | false =>
        have hv : (((wy o s 0).1 (k : Int) : Nat) : Int) = 0 := by rw [hw0, hfi]; rfl
        rw [hv] at hget
        have e := fill_set (z := (0 : Int)) hget
        have e2 : ((wyL o s 0).take k ++ List.replicate ((wyL o s 0).length - k) (0 : Int)).set k 0 = (wyL o s 0).take k ++ List.replicate ((wyL o s 0).length - k) 0 := by
          obtain ⟨h1, h2⟩ := List.getElem?_eq_some_iff.1 (fill_get (l := wyL o s 0) (z := (0 : Int)) (show k < (wyL o s 0).length by omega))
          exact set_same (fill_get (l := wyL o s 0) (z := (0 : Int)) (show k < (wyL o s 0).length by omega))
        rw [e2] at e
        rw [e] at t8
        (conv => whnf); rw [w64 (x := (k : Int) + 1) (by omega) (by omega)]
        exact ⟨rfl, k + 1, by simp, ⟨by omega, hA8, by omega, o8, h8, t8⟩, by omega⟩
    · obtain rfl : k = stN o := by omega
      have hfe := fill_end (l := wyL o s 0) (z := (0 : Int))
      rw [tl] at hfe t7
      rw [hfe] at t7
      (conv => whnf); rw [w64 (x := (s.size : Int) - 1) (by omega) (by omega)]
      (conv => whnf)
      refine VLoop.mk [6, 7, 9] (fun x : Nat × Nat × Nat => match x with | (n, tb, hb) => [.slice (some ⟨tb, 0, none⟩) (stN o) (stN o), .slice (some ⟨hb, 0, none⟩) (stN o) (stN o), .int .i64 ((s.size : Int) - 1 - n)])
        (fun x H8 => x.1 ≤ s.size ∧ Agr (Old H) H H8 ∧ H7.size ≤ H8.size ∧ (x.2.1 ≠ x.2.2 ∧ ob ≠ x.2.1 ∧ ob ≠ x.2.2 ∧ H.size ≤ x.2.1 ∧ H.size ≤ x.2.2) ∧ SlO tI (fun _ => False) H8 H.size 3 (.slice (some ⟨ob, 0, none⟩) (s.size + 1) (s.size + 1)) (wayL o s x.1) ∧
          SlO tI (fun _ => False) H8 H.size 3 (.slice (some ⟨x.2.1, 0, none⟩) (stN o) (stN o)) (wyL o s x.1) ∧ ∃ ys : List Int, ys.length = stN o ∧ SlO tI (fun _ => False) H8 H.size 3 (.slice (some ⟨x.2.2, 0, none⟩) (stN o) (stN o)) ys) (fun x _ => s.size - x.1) ?_ ?_
      · (conv => whnf)
        exact ⟨(0, tb, hb'), by simp, by simp, hA7, Nat.le_refl _, ⟨by simp only; omega, by simp only; omega, by simp only; omega, by simp only; omega, by simp only; omega⟩, o7, t7, _, by simp, h7⟩
      · rintro ⟨n, tb2, hb2⟩ H8 junk8 ⟨hn, hA8, hs8, hne, o8, t8, ys, hyl, h8⟩
        simp only at hn hne t8 h8 o8
        (conv => whnf); refine VIte.mk (fun h => ?_) (fun h => ?_) <;> simp only [decide_eq_true_eq, decide_eq_false_iff_not] at h
        · obtain ⟨i, hi⟩ : ∃ i : Nat, i = s.size - (n + 1) := ⟨_, rfl⟩
          have hii : (s.size : Int) - 1 - (n : Int) = (i : Int) := by omega
          obtain ⟨b, hb⟩ := get_byte (s := s) (k := i) (by omega)
          have hbD : s.data.toList.getD (s.size - (n + 1)) 0 = b := by
            rw [← hi, List.getD_eq_getElem?_getD, Array.getElem?_toList, hb]; rfl
          have hW : (wy o s (n + 1)).2 = (wy o s n).1 (stepM o 0 b.toNat) := by simp only [wy, hbD]
          have hT : ∀ q : Int, (wy o s (n + 1)).1 q = if finM o q then min 2 ((wy o s n).1 (stepM o q b.toNat) + (wy o s (n + 1)).2) else (wy o s n).1 (stepM o q b.toNat) := fun q => by simp only [wy, hbD]
          have hb256 := UInt8.toNat_lt b
          have le2 := (wy_le o s n).1
          have leW := (wy_le o s (n + 1)).2
          have tl2 := wyL_len o s (n + 1)
          rw [hii]
          (conv => whnf); refine vidxs strT rfl hb ?_
          (conv => whnf); refine pures (step_p (hL hA8) (hF hA8) hb256) fun H9 ha9 => ?_
          have hA9 := hA8.trans (ha9.mono fun j hj => old_lt hA8 hj)
          have hs9 := old_size ha9
          have hin0 := step_in (hF hA8) (q := 0) (b := b.toNat) (by omega) hb256
          obtain ⟨q0, hq0⟩ := Int.eq_ofNat_of_zero_le hin0.1
          have hq0' : stepM o 0 b.toNat = (q0 : Int) := hq0
          rw [hq0'] at hW
          rw [hq0']
          (conv => whnf); refine ix sl35 (by omega) (by omega) ?_
          (conv => whnf); refine ld1 (v := .int .i64 (((wy o s (n + 1)).2 : Nat) : Int)) ct3 (by rw [Int.toNat_natCast, hW]; exact rd (old t8 ha9) (wyL_get o s n (by omega))) trivial ?_
          (conv => whnf); refine ix sl35 (by omega) (by omega) ?_
          (conv => whnf); refine wr i (old o8 ha9) (by omega) (by rw [wayL_len]; omega) (by omega) (by omega) fun H10 o10 ha10 hs10 => ?_
          have hp := wayL_put o s (n := n) (by omega)
          rw [← hi] at hp
          rw [hp] at o10
          have hA10 := hA9.trans (ha10.mono fun j hj => by unfold Old at hj; have := (o1.lt (b := ob) ⟨0, _, _, rfl⟩).1; omega)
          have t10 := one (old t8 ha9) ha10 (Ne.symm hne.2.1)
          have h10 := one (old h8 ha9) ha10 (Ne.symm hne.2.2.1)
          (conv => whnf)
          refine VLoop.mk [57] (fun k : Nat => [.int .i64 k]) (fun k H11 => k ≤ stN o ∧ Agr (Old H) H H11 ∧ H10.size ≤ H11.size ∧ SlO tI (fun _ => False) H11 H.size 3 (.slice (some ⟨ob, 0, none⟩) (s.size + 1) (s.size + 1)) (wayL o s (n + 1)) ∧ SlO tI (fun _ => False) H11 H.size 3 (.slice (some ⟨tb2, 0, none⟩) (stN o) (stN o)) (wyL o s n) ∧
            SlO tI (fun _ => False) H11 H.size 3 (.slice (some ⟨hb2, 0, none⟩) (stN o) (stN o)) ((wyL o s (n + 1)).take k ++ ys.drop k)) (fun k _ => stN o - k) ?_ ?_
          · (conv => whnf)
            exact ⟨0, rfl, by omega, hA10, Nat.le_refl _, o10, t10, by simpa using h10⟩
          · rintro k H11 junk11 ⟨hk11, hA11, hs11, o11, t11, h11⟩
            (conv => whnf); refine VIte.mk (fun h => ?_) (fun h => ?_) <;> simp only [decide_eq_true_eq, decide_eq_false_iff_not] at h
            · have hin := step_in (hF hA11) (q := k) (b := b.toNat) (by omega) hb256
              obtain ⟨q', hq'⟩ := Int.eq_ofNat_of_zero_le hin.1
              have hlen : ((wyL o s (n + 1)).take k ++ ys.drop k).length = stN o := by simp [tl2, hyl]; omega
              have hTk := hT (k : Int)
              rw [hq'] at hTk
              have hget : (wyL o s (n + 1))[k]? = some (((wy o s (n + 1)).1 (k : Int) : Nat) : Int) := wyL_get o s (n + 1) (by omega)
              have hset : ((wyL o s (n + 1)).take k ++ ys.drop k).set k (((wy o s (n + 1)).1 (k : Int) : Nat) : Int) = (wyL o s (n + 1)).take (k + 1) ++ ys.drop (k + 1) := by
                rw [List.set_append_right _ _ (by simp; omega), List.length_take, tl2, Nat.min_eq_left (by omega), Nat.sub_self, List.drop_eq_getElem_cons (show k < ys.length by omega), List.set_cons_zero, take_succ_snoc hget, List.append_assoc]; rfl
              have l2 := le2 (q' : Int)
              (conv => whnf); refine VSeq.run ?_
              (conv => whnf); refine vidxs strT rfl hb ?_
              (conv => whnf); refine pures (step_p (hL hA11) (hF hA11) hb256) fun H12 ha12 => ?_
              rw [hq']
              have hA12 := hA11.trans (ha12.mono fun j hj => old_lt hA11 hj)
              have hs12 := old_size ha12
              have o12 := old o11 ha12
              have t12 := old t11 ha12
              (conv => whnf); refine ix sl35 (by omega) (by omega) ?_
              (conv => whnf); refine ld1 (v := .int .i64 (((wy o s n).1 (q' : Int) : Nat) : Int)) ct3 (by rw [Int.toNat_natCast]; exact rd t12 (wyL_get o s n (by omega))) trivial ?_
              (conv => whnf); refine ix sl35 (by omega) (by omega) ?_
              (conv => whnf); refine wr k (old h11 ha12) (by omega) (by omega) (by omega) (by omega) fun H13 h13 ha13 hs13 => ?_
              have hA13 := hA12.trans (ha13.mono fun j hj => by unfold Old at hj; omega)
              have o13 := one o12 ha13 hne.2.2.1
              have t13 := one t12 ha13 hne.1
              (conv => whnf); refine pures (final_p (hF hA13)) fun H14 ha14 => ?_
              have hA14 := hA13.trans (ha14.mono fun j hj => old_lt hA13 hj)
              have hs14 := old_size ha14
              have o14 := old o13 ha14
              have t14 := old t13 ha14
              have h14 := old h13 ha14
              cases hfi : finM o (k : Int) with
              | false =>
                rw [hfi] at hTk
                simp only [Bool.false_eq_true, if_false] at hTk
                rw [hTk] at hset
                rw [hset] at h14
                (conv => whnf); rw [w64 (x := (k : Int) + 1) (by omega) (by omega)]
                exact ⟨rfl, k + 1, by simp, ⟨by omega, hA14, by omega, o14, t14, h14⟩, by omega⟩
              | true =>
                rw [hfi] at hTk
                simp only [if_true] at hTk
                have gk : (((wyL o s (n + 1)).take k ++ ys.drop k).set k (((wy o s n).1 (q' : Int) : Nat) : Int))[k]? = some (((wy o s n).1 (q' : Int) : Nat) : Int) := List.getElem?_set_self (by omega)
                have gi : (wayL o s (n + 1))[i]? = some (((wy o s (n + 1)).2 : Nat) : Int) := by rw [wayL_get o s (n + 1) (by omega), if_pos (by omega), show s.size - i = n + 1 by omega]
                have hsum : (if (((wy o s n).1 (q' : Int) : Nat) : Int) + (((wy o s (n + 1)).2 : Nat) : Int) < 2 then (((wy o s n).1 (q' : Int) : Nat) : Int) + (((wy o s (n + 1)).2 : Nat) : Int) else 2) = (((wy o s (n + 1)).1 (k : Int) : Nat) : Int) := by
                  rw [hTk]
                  split <;> omega
                (conv => whnf)
                refine VDraw.tail 13 (sq [0,1,2,3,4,5,6,7,8,9,10,11,12] (.f 13 .e)) rfl (by kernel_rfl) ?_
                (conv => whnf); refine ix sl35 (by omega) (by omega) ?_
                (conv => whnf); refine ld1 ct3 (by rw [Int.toNat_natCast]; exact rd h14 gk) trivial ?_
                (conv => whnf); refine ix sl35 (by omega) (by omega) ?_
                (conv => whnf); refine ld1 ct3 (by rw [Int.toNat_natCast]; exact rd o14 gi) trivial ?_
                (conv => whnf); rw [w64 (x := (((wy o s n).1 (q' : Int) : Nat) : Int) + (((wy o s (n + 1)).2 : Nat) : Int)) (by omega) (by omega)]
                (conv => whnf); refine vmin2 ?_
                rw [hsum]
                (conv => whnf); refine ix sl35 (by omega) (by omega) ?_
                have leT := (wy_le o s (n + 1)).1 (k : Int)
                (conv => whnf); refine wr k h14 (by omega) (by rw [List.length_set]; omega) (by omega) (by omega) fun H15 h15 ha15 hs15 => ?_
                rw [List.set_set, hset] at h15
                (conv => whnf); rw [w64 (x := (k : Int) + 1) (by omega) (by omega)]
                exact ⟨rfl, k + 1, by simp, ⟨by omega, hA14.trans (ha15.mono fun j hj => by unfold Old at hj; omega), by omega, one o14 ha15 hne.2.2.1, one t14 ha15 hne.1, h15⟩, by omega⟩
            · obtain rfl : k = stN o := by omega
              rw [List.drop_eq_nil_of_le (by omega), List.append_nil, show (wyL o s (n + 1)).take (stN o) = wyL o s (n + 1) by rw [← tl2, List.take_length]] at h11
              (conv => whnf); rw [w64 (x := (i : Int) - 1) (by omega) (by omega)]
              refine ⟨rfl, (n + 1, hb2, tb2), ?_, ⟨by simp only; omega, hA11, by omega, ⟨by simp only; omega, by simp only; omega, by simp only; omega, by simp only; omega, by simp only; omega⟩, o11, h11, _, wyL_len o s n, t11⟩, by simp only; omega⟩
              simp only
              rw [show (s.size : Int) - 1 - ((n + 1 : Nat) : Int) = (i : Int) - 1 by omega]
        · obtain rfl : n = s.size := by omega
          (conv => whnf)
          exact ⟨hA8, by omega, ob, rfl, o8⟩

theorem ways_p {S : Nat → Prop} {H : Heap} {v : Value} {o : Option AM} {s : ByteArray} (hS : ∀ k, S k → k < H.size) (h : AutoV S H v o) (hs : s.size ≤ 1048576) :
    Pure Try.prog 45 #[v, .string s] H (.tuple #[.int .i64 (((wy o s s.size).2 : Nat) : Int), .int .i64 0]) := by
  refine FnOk.of_vc Try.func45 rfl (Try.call45 _) ?_
  have d0 : decide ((1048576 : Int) < (s.size : Int)) = false := decide_eq_false (by omega)
  (conv => whnf); rw [d0]
  (conv => whnf); refine VCall.mk (lists_c hS h (by omega)) ?_
  rintro v1 H1 ⟨hA1, hs1, b, rfl, hw⟩
  have g0 := wayL_get o s s.size (i := 0) (by omega)
  rw [if_pos (by omega), Nat.sub_zero] at g0
  obtain ⟨-, -, -, _, _, _, hg, _⟩ := hw.placeS (i := 0) (List.getElem?_eq_some_iff.1 g0).1
  obtain ⟨c, hc, rfl, -⟩ := hg _ g0
  (conv => whnf); refine ix sl35 (by omega) (by omega) ?_
  (conv => whnf); refine ld1 ct3 hc.one trivial ?_
  (conv => whnf)
  exact ⟨rfl, hA1⟩

theorem speaks10_p (H : Heap) : Pure Try.prog 37 #[] H (.bool true) := by
  refine FnOk.of_vc Try.func37 rfl (Try.call37 _) ?_
  (conv => whnf); refine VCall.mk (some_c H) ?_
  rintro v1 H1 ⟨ha1, hs1, hv1⟩
  (conv => whnf); refine VCall.mk (some_c H1) ?_
  rintro v2 H2 ⟨ha2, hs2, hv2⟩
  have hA2 := ha1.trans (ha2.mono fun k hk => old_lt ha1 hk)
  (conv => whnf); refine VCall.mk (cuts_c (S := Old H2) (fun k hk => hk) ((hv1.frame (ha2.mono fun k hk => hk.2)).mono fun k hk => old_lt ha2 hk.2) (hv2.mono fun k hk => hk.2) (by decide)) ?_
  rintro v3 H3 ⟨ha3, hs3, w, rfl, hw⟩
  rw [some_cuts] at hw
  have hA3 := hA2.trans (ha3.mono fun k hk => old_lt hA2 hk)
  (conv => whnf); refine VCall.mk (some_c H3) ?_
  rintro v4 H4 ⟨ha4, hs4, hv4⟩
  (conv => whnf); refine pures (ways_p (S := Old H4) (fun k hk => hk) (hv4.mono fun k hk => hk.2) (by decide)) fun H5 ha5 => ?_
  rw [show (⟨#[97]⟩ : ByteArray).size = 1 from rfl, some_ways]
  have h35 := ha4.trans (ha5.mono fun k hk => old_lt ha4 hk)
  have hA5 := hA3.trans (h35.mono fun k hk => old_lt hA3 hk)
  obtain ⟨xa, xc, rfl, hx, -⟩ := (hw.agr h35 (fun j hj => (hw.lt hj).2) (fun _ f => f.elim)).view (S' := Old H5) (fun j hj => old_lt h35 (hw.lt hj).2) (fun _ f => f.elim)
  (conv => whnf); refine vbuild2 sl35 [.int .i64 1] [.int .i64 2] rfl rfl rfl rfl (by decide) (by decide) ?_
  intro b6 H6 hb6 hs6 hk6 ha6
  have h56 : Agr (Old H5) H5 H6 := ha6.mono fun k hk => by unfold Old at hk; omega
  have hA6 := hA5.trans (h56.mono fun k hk => old_lt hA5 hk)
  (conv => whnf); refine pures (ints_p xa (some ⟨b6, 0, none⟩) xc 2 [1, 2] (Old H6) H6 (fun k hk => hk) ((hx.frame h56).mono fun k hk => old_lt h56 hk) (SlD.ofBlk hk6 hk6.lt ⟨[_], [_], rfl, ⟨rfl, inI64 (x := 1) (by decide)⟩, Ty.reps_one ⟨rfl, inI64 (x := 2) (by decide)⟩⟩ rfl (by decide))) fun H7 ha7 => ?_
  (conv => whnf)
  exact ⟨rfl, hA6.trans (ha7.mono fun k hk => old_lt hA6 hk)⟩
end Go.Proofs.Ytpnnedkpbmilkaa
