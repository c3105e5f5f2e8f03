/- words.add, times, newTally, from. -/
import Derived.Test.YtkgmhkcncemmkaaPBits
import Derived.Test.YtkgmhkcncemmkaaPSame5
set_option linter.unusedVariables false
set_option linter.unusedSimpArgs false
set_option maxRecDepth 100000
namespace Go.Proofs.Ytkgmhkcncemmkaa
open Go.VC
attribute [local irreducible] mRun

abbrev TM : Nat := 9223372036854775808
theorem add_p (x y : Nat) (hx : x ≤ TM) (hy : y ≤ TM) (H : Heap) : Pure Try.prog 54 #[.int .u64 (x : Int), .int .u64 (y : Int)] H (.int .u64 ((min (x + y) TM : Nat) : Int)) := by
  unfold TM at *
  refine FnOk.of_vc Try.func54 rfl (Try.call54 _) ?_
  by_cases h1 : 9223372036854775808 ≤ x
  · have d1 : decide ((9223372036854775808 : Int) ≤ (x : Int)) = true := decide_eq_true (by omega)
    (conv => whnf); rw [d1]
    (conv => whnf)
    exact ⟨by rw [Nat.min_eq_right (by omega)]; rfl, Agr.refl _ _⟩
  · have d1 : decide ((9223372036854775808 : Int) ≤ (x : Int)) = false := decide_eq_false (by omega)
    (conv => whnf); rw [d1]
    by_cases h2 : 9223372036854775808 ≤ y
    · have d2 : decide ((9223372036854775808 : Int) ≤ (y : Int)) = true := decide_eq_true (by omega)
      (conv => whnf); rw [d2]
      (conv => whnf)
      exact ⟨by rw [Nat.min_eq_right (by omega)]; rfl, Agr.refl _ _⟩
    · have d2 : decide ((9223372036854775808 : Int) ≤ (y : Int)) = false := decide_eq_false (by omega)
      (conv => whnf); rw [d2]
      (conv => whnf); rw [wu_add (x := x) (y := y) (by omega)]
      (conv => whnf); refine vmin_ ?_
      (conv => whnf)
      refine ⟨?_, Agr.refl _ _⟩
      congr 1
      split <;> omega
theorem mul64_p (x y : Nat) (hx : x < 18446744073709551616) (hy : y ≤ 256) (H : Heap) : Pure Try.prog 92 #[.int .u64 (x : Int), .int .u64 (y : Int)] H (.tuple #[.int .u64 ((x * y / 18446744073709551616 : Nat) : Int), .int .u64 ((x * y % 18446744073709551616 : Nat) : Int)]) := by
  have a32 : ∀ n : Nat, (n &&& 4294967295) = n % 4294967296 := fun n => by rw [show (4294967295 : Nat) = 2 ^ 32 - 1 by decide, Nat.and_two_pow_sub_one_eq_mod]
  have i32 : inK .u64 ((4294967295 : Nat) : Int) := inU64 (by decide)
  obtain ⟨x0, hx0⟩ : ∃ x0, x0 = x % 4294967296 := ⟨_, rfl⟩
  obtain ⟨x1, hx1⟩ : ∃ x1, x1 = x / 2 ^ 32 := ⟨_, rfl⟩
  have p0 : x0 * y ≤ 4294967295 * 256 := Nat.mul_le_mul (by omega) hy
  have p1 : x1 * y ≤ 4294967295 * 256 := Nat.mul_le_mul (by omega) hy
  have hxe : x = 4294967296 * x1 + x0 := by omega
  have hxy : x * y = 4294967296 * (x1 * y) + x0 * y := by rw [hxe, Nat.add_mul, Nat.mul_assoc]
  refine FnOk.of_vc Try.func92 rfl (Try.call92 _) ?_
  (conv => whnf); refine vand (a := x) (b := 4294967295) (inU64 hx) i32 ?_
  rw [a32, ← hx0]
  (conv => whnf); refine vshr (a := x) (b := 32) (by decide) ?_
  rw [← hx1]
  (conv => whnf); refine vand (a := y) (b := 4294967295) (inU64 (by omega)) i32 ?_
  rw [a32, Nat.mod_eq_of_lt (show y < 4294967296 by omega)]
  (conv => whnf); refine vshr (a := y) (b := 32) (by decide) ?_
  rw [show y / 2 ^ 32 = 0 from Nat.div_eq_of_lt (by omega)]
  (conv => whnf); rw [wu_mul x0 y, Nat.mod_eq_of_lt (show x0 * y < 18446744073709551616 by omega)]
  (conv => whnf); rw [wu_mul x1 y, Nat.mod_eq_of_lt (show x1 * y < 18446744073709551616 by omega)]
  (conv => whnf); refine vshr (a := x0 * y) (b := 32) (by decide) ?_
  (conv => whnf); rw [wu_add (x := x1 * y) (y := x0 * y / 2 ^ 32) (by omega)]
  obtain ⟨t, ht⟩ : ∃ t, t = x1 * y + x0 * y / 2 ^ 32 := ⟨_, rfl⟩
  rw [← ht]
  (conv => whnf); refine vand (a := t) (b := 4294967295) (inU64 (by omega)) i32 ?_
  rw [a32]
  (conv => whnf); refine vshr (a := t) (b := 32) (by decide) ?_
  (conv => whnf); rw [wu_mul x0 0, Nat.mul_zero, Nat.zero_mod]
  (conv => whnf); rw [wu_add (x := t % 4294967296) (y := 0) (by omega), Nat.add_zero]
  (conv => whnf); rw [wu_mul x1 0, Nat.mul_zero, Nat.zero_mod]
  (conv => whnf); rw [wu_add (x := 0) (y := t / 2 ^ 32) (by omega), Nat.zero_add]
  (conv => whnf); refine vshr (a := t % 4294967296) (b := 32) (by decide) ?_
  (conv => whnf); rw [wu_add (x := t / 2 ^ 32) (y := t % 4294967296 / 2 ^ 32) (by omega)]
  (conv => whnf); rw [wu_mul x y]
  (conv => whnf)
  have e : t / 2 ^ 32 + t % 4294967296 / 2 ^ 32 = x * y / 18446744073709551616 := by omega
  rw [e]
  exact ⟨rfl, Agr.refl _ _⟩
theorem times_p (x y : Nat) (hx : x ≤ TM) (hy : y ≤ 256) (H : Heap) : Pure Try.prog 74 #[.int .u64 (x : Int), .int .u64 (y : Int)] H (.int .u64 ((min (x * y) TM : Nat) : Int)) := by
  unfold TM at *
  refine FnOk.of_vc Try.func74 rfl (Try.call74 _) ?_
  (conv => whnf); refine pures (mul64_p x y (by omega) hy H) fun H1 ha1 => ?_
  by_cases h1 : 0 < x * y / 18446744073709551616
  · have d1 : decide ((0 : Int) < ((x * y / 18446744073709551616 : Nat) : Int)) = true := decide_eq_true (by omega)
    (conv => whnf); rw [d1]
    (conv => whnf)
    exact ⟨by rw [Nat.min_eq_right (by omega)]; rfl, ha1⟩
  · have d1 : decide ((0 : Int) < ((x * y / 18446744073709551616 : Nat) : Int)) = false := decide_eq_false (by omega)
    (conv => whnf); rw [d1]
    (conv => whnf); refine vmin_ ?_
    (conv => whnf)
    refine ⟨?_, ha1⟩
    congr 1
    split <;> omega

/-! ### the counts -/
/-- How many words of n bytes lead from q to a final state; no more than TM told. -/
def cntP (o : Option AM) : Nat → Int → Nat
  | 0, q => if finM o q then 1 else 0
  | n + 1, q => (cellsM o).foldl (fun acc c => min (acc + min (cntP o n (stepM o q (nextM c 0).1) * countM c) TM) TM) 0
def cellF (o : Option AM) (n : Nat) (q : Int) (acc : Nat) (c : BitVec 256) : Nat := min (acc + min (cntP o n (stepM o q (nextM c 0).1) * countM c) TM) TM
theorem cntP_succ (o : Option AM) (n : Nat) (q : Int) : cntP o (n + 1) q = (cellsM o).foldl (cellF o n q) 0 := rfl
theorem cellF_le (o : Option AM) (n : Nat) (q : Int) : ∀ (l : List (BitVec 256)) (a : Nat), a ≤ TM → l.foldl (cellF o n q) a ≤ TM
  | [], _, h => h
  | c :: l, a, _ => cellF_le o n q l _ (Nat.min_le_right _ _)
theorem cntP_le (o : Option AM) : ∀ (n : Nat) (q : Int), cntP o n q ≤ TM
  | 0, q => by
    show (if finM o q then 1 else 0) ≤ TM
    split <;> decide
  | n + 1, q => cellF_le o n q _ 0 (by decide)
abbrev tU : Ty Int := tInt .u64
def rowP (o : Option AM) (n : Nat) : List Int := (List.range (stN o)).map fun (q : Nat) => (cntP o n (q : Int) : Int)
theorem rowP_len (o : Option AM) (n : Nat) : (rowP o n).length = stN o := by simp [rowP]
theorem rowP_get (o : Option AM) (n : Nat) {q : Nat} (h : q < stN o) : (rowP o n)[q]? = some (cntP o n (q : Int) : Int) := by
  unfold rowP
  rw [List.getElem?_map, List.getElem?_range h]; rfl
def rowsP (o : Option AM) (L : Nat) : List (List Int) := (List.range L).map (rowP o)
theorem rowsP_len (o : Option AM) (L : Nat) : (rowsP o L).length = L := by simp [rowsP]
theorem rowsP_get (o : Option AM) {L n : Nat} (h : n < L) : (rowsP o L)[n]? = some (rowP o n) := by
  unfold rowsP
  rw [List.getElem?_map, List.getElem?_range h]; rfl
theorem rowsP_succ (o : Option AM) (L : Nat) : rowsP o (L + 1) = rowsP o L ++ [rowP o L] := by simp [rowsP, List.range_succ]

/-- A tally in block pb, with L rows; all its memory lies in F. -/
structure Tal (F : Nat → Prop) (H : Heap) (va : Value) (o : Option AM) (pb L : Nat) : Prop where
  own : F pb
  rep : ∃ ca cc ra rc S C, Blk H pb 131 [va, .slice ca (cellsM o).length cc, .slice ra L rc] ∧ SlD tSet C H ca cc (cellsM o) ∧ SlO (tSl tU) S H 0 132 (.slice ra L rc) (rowsP o L) ∧
    (∀ k, S k → F k ∧ k ≠ pb ∧ ¬ slB (.slice ra L rc) k) ∧ (∀ k, slB (.slice ra L rc) k → F k ∧ k ≠ pb) ∧ (∀ k, C k → F k ∧ k ≠ pb ∧ ¬ slB (.slice ra L rc) k)
theorem Tal.frame {F : Nat → Prop} {H H' : Heap} {va : Value} {o : Option AM} {pb L : Nat} (h : Tal F H va o pb L) (k : Agr F H H') : Tal F H' va o pb L := by
  obtain ⟨h1, ca, cc, ra, rc, S, C, h2, h3, h4, h5, h6, h7⟩ := h
  exact ⟨h1, ca, cc, ra, rc, S, C, h2.agr k h1, h3.frame (k.mono fun b hb => (h7 b hb).1), h4.agr k (fun b hb => (h6 b hb).1) (fun b hb => (h5 b hb).1), h5, h6, h7⟩
def pTal (F : Nat → Prop) (va : Value) (o : Option AM) (pb L : Nat) : Pc := ⟨F, fun H => Tal F H va o pb L, fun h hp => hp.frame h⟩

theorem step_rng {S : Nat → Prop} {H : Heap} {v : Value} {o : Option AM} (h : AutoV S H v o) {q b : Nat} (hq : q < stN o) (hb : b < 256) : 0 ≤ stepM o (q : Int) b ∧ stepM o (q : Int) b < stN o := by
  cases o with
  | none =>
    have : q = 0 := by simp only [stN] at hq; omega
    subst this
    decide +revert
  | some A =>
    obtain ⟨pb, rfl, hown, hok, _⟩ := h
    exact stepM_range hok (by omega) (by simp only [stN] at hq; omega) hb
theorem auto_ptr {S : Nat → Prop} {H : Heap} {v : Value} {o : Option AM} (h : AutoV S H v o) : ∃ p, v = .pointer p := by
  cases o with
  | none => exact ⟨none, h⟩
  | some A => obtain ⟨pb, h1, _⟩ := h; exact ⟨_, h1⟩
set_option maxHeartbeats 4000000 in
theorem newTally_c {S : Nat → Prop} {H : Heap} {v : Value} {o : Option AM} (hS : ∀ k, S k → k < H.size) (h : AutoV S H v o) :
    FnOk Try.prog 41 #[v] H fun v' H' => Agr (Old H) H H' ∧ ∃ pb F, v' = .pointer (some ⟨pb, 0, none⟩) ∧ Tal F H' v o pb 1 ∧ ∀ k, F k → H.size ≤ k ∧ k < H'.size := by
  obtain ⟨hn1, hn2⟩ := stN_le h
  have hF : ∀ {H' : Heap}, Agr (Old H) H H' → AutoV S H' v o := fun k => h.frame (k.mono hS)
  obtain ⟨p, rfl⟩ := auto_ptr h
  refine FnOk.of_vc Try.func41 rfl (Try.call41 _) ?_
  (conv => whnf); refine VCall.mk (cells_c hS h) ?_
  rintro _ H1 ⟨ha1, hs1, ca, cc, rfl, hc⟩
  (conv => whnf); refine vbuildS rfl rfl _ rfl [.pointer p, .slice ca (cellsM o).length cc, .slice none 0 0] (by rfl) ?_
  (conv => whnf); refine vbox [.pointer p, .slice ca (cellsM o).length cc, .slice none 0 0] rfl ?_
  intro pb H2 hpb hs2 hb2 ha2
  have h12 : Agr (Old H1) H1 H2 := ha2.mono fun k hk => by unfold Old at hk; omega
  have st2 := (St.nil H1).box hpb hs2 hb2 ha2
  have e1 : ∀ {H' : Heap}, Agr (Old H1) H1 H' → Agr (Old H) H H' := fun k => ha1.trans (k.mono fun j hj => old_lt ha1 hj)
  (conv => whnf); refine pures (states_p (hF (e1 h12))) fun H3 ha3 => ?_
  have st3 := st2.call ha3
  (conv => whnf); refine vmake1 sl132 rfl (by omega) (by omega) (by omega) (by omega) ?_
  intro rb H4 hrb hs4 hb4 ha4
  rw [Int.toNat_natCast] at hb4
  rw [Int.toNat_natCast]
  have st4 := st3.new (T := tU) (n := stN o) (xs := List.replicate (stN o) 0) hrb hs4 hb4 ha4 (reps_of_ones (by simp) fun i v x h1 h2 => by
    rw [List.getElem?_replicate] at h1 h2
    split at h1
    · rename_i hi; rw [if_pos hi] at h2; cases h1; cases h2; exact ⟨rfl, inU64 (x := 0) (by decide)⟩
    · cases h1) (by simp) (by unfold maxLen; omega)
  have rl := rowP_len o 0
  (conv => whnf)
  refine VLoop.mk [16] (fun k : Nat => [.int .i64 k]) (fun k H5 => k ≤ stN o ∧ St H1 H5 [pB 131 pb [.pointer p, .slice ca (cellsM o).length cc, .slice none 0 0], pS tU 76 (some ⟨rb, 0, none⟩) (stN o) (stN o) ((rowP o 0).take k ++ List.replicate ((rowP o 0).length - k) 0)]) (fun k _ => stN o - k) ?_ ?_
  · (conv => whnf)
    exact ⟨0, rfl, by omega, by rw [fill_beg, rl]; exact st4⟩
  · rintro k H5 junk ⟨hk, st⟩
    (conv => whnf); refine VIte.mk (fun h => ?_) (fun h => ?_) <;> simp only [decide_eq_true_eq, decide_eq_false_iff_not] at h
    · have hget : (rowP o 0)[k]? = some ((if finM o (k : Int) then 1 else 0 : Nat) : Int) := rowP_get o 0 (by omega)
      (conv => whnf); refine VSeq.run ?_
      (conv => whnf); refine pures (final_p (hF (e1 st.old))) fun H6 ha6 => ?_
      have st6 := st.call ha6
      cases hf : finM o (k : Int) with
      | true =>
        rw [hf] at hget
        have hget : (rowP o 0)[k]? = some 1 := hget
        (conv => whnf); refine ix sl132 (by omega) (by omega) ?_
        (conv => whnf); refine st1O (x := 1) st6 1 ct76 rfl rfl (by rw [Nat.zero_add, Nat.mul_one, Int.toNat_natCast]) (by rw [fill_len (by omega)]; omega) rfl (fun _ _ => ⟨rfl, inU64 (x := 1) (by decide)⟩) fun H7 st7 => ?_
        rw [fill_set hget] at st7
        (conv => whnf); rw [w64 (x := (k : Int) + 1) (by omega) (by omega)]
        exact ⟨rfl, k + 1, by simp, ⟨by omega, st7⟩, by omega⟩
      | false =>
        rw [hf] at hget
        have hget : (rowP o 0)[k]? = some 0 := hget
        have e := fill_set (z := (0 : Int)) hget
        rw [set_same (fill_get (l := rowP o 0) (z := (0 : Int)) (show k < (rowP o 0).length by omega))] at e
        rw [e] at st6
        (conv => whnf); rw [w64 (x := (k : Int) + 1) (by omega) (by omega)]
        exact ⟨rfl, k + 1, by simp, ⟨by omega, st6⟩, by omega⟩
    · obtain rfl : k = stN o := by omega
      have hfe := fill_end (l := rowP o 0) (z := (0 : Int))
      rw [rl] at hfe st
      rw [hfe] at st
      (conv => whnf); refine VC.fa fl131_2 ?_
      (conv => whnf); refine ld1 ct129 (by rw [(st.blk 0 rfl).cell]; rfl) trivial ?_
      (conv => whnf); refine vbuild1 sl129 [.slice (some ⟨rb, 0, none⟩) (stN o) (stN o)] rfl rfl (by decide) (by decide) ?_
      intro q7 H7 hq7 hs7 hb7 ha7
      have st7 := st.skip hq7 ha7
      have hrow := st7.view 1 rfl
      -- the rows: a slice of one row
      have hrow' : SlD tU (fun j => j = rb) H7 (some ⟨rb, 0, none⟩) (stN o) (rowP o 0) := by
        obtain ⟨_, _, e, h, -⟩ := (st7.at_ 1 rfl).1.view (S' := fun j => j = rb) (fun b hb => by obtain ⟨_, _, _, e⟩ := hb; cases e; rfl) (fun _ f => f.elim)
        injection e with e1 e2 e3
        subst e1; subst e3; exact h
      have hrb7 := (st7.in_ 1 rfl (.inl ⟨0, _, _, rfl⟩)).2
      have hpb7 := (st7.in_ 0 rfl (k := pb) rfl).2
      have hrbpb : rb ≠ pb := by
        have := st4.dis
        simp only [List.nil_append, List.singleton_append, List.pairwise_cons] at this
        exact fun e => this.1 _ (List.mem_singleton.2 rfl) pb rfl (.inl ⟨0, _, _, by rw [e]⟩)
      (conv => whnf); refine vappendO (T := tSl tU) (S := fun j => j = rb) (lo := H7.size) (xs := []) (ys := [rowP o 0]) sl129 SlO.nil (Nat.le_refl _) (fun j hj => ⟨by omega, fun hb => by obtain ⟨_, _, _, e⟩ := hb; cases e⟩) (hb7.cells fun j v hv => by simpa using hv)
          (Ty.reps_one ⟨some ⟨rb, 0, none⟩, stN o, by rw [rl], hrow'⟩) rfl (by intro u hu; cases List.mem_singleton.1 hu; rfl) (by simp [maxLen]) (by simp) ?_
      intro v8 H8 hv8 ha8 hs8 hfr8
      obtain ⟨ra, rc, rfl⟩ := hv8.hull
      have h78 : Agr (Old H7) H7 H8 := ha8.mono fun j hj => ⟨hj, fun hb => by obtain ⟨_, _, _, e⟩ := hb; cases e⟩
      have st8 := st7.call h78
      (conv => whnf); refine VC.fa fl131_2 ?_
      (conv => whnf); refine VC.st1 ct129 (st8.blk 0 rfl) (by simp) rfl ?_
      intro H9 hb9 ha9 hs9
      have h19 : Agr (Old H1) H1 H9 := st8.old.trans (ha9.mono fun j hj => by unfold Old at hj; omega)
      have hl7 := st7.size
      have hl3 := st3.size
      (conv => whnf)
      refine ⟨e1 h19, pb, Fresh H H9, rfl, ⟨⟨by omega, by omega⟩, ca, cc, ra, rc, fun j => j = rb, Fresh H H1, hb9, hc.frame (h19.mono fun j hj => hj.2), ?_, ?_, ?_, ?_⟩, fun k hk => hk⟩
      · exact (hv8.lower (Nat.zero_le _)).agr ha9 (fun b hb => by have := (hv8.lt hb).1; omega) (fun b hb => by omega)
      · rintro k rfl
        exact ⟨⟨by omega, by omega⟩, hrbpb, fun hb => by have := (hv8.lt hb).1; omega⟩
      · intro k hk
        have := hv8.lt hk
        exact ⟨⟨by omega, by omega⟩, by omega⟩
      · intro k hk
        exact ⟨⟨hk.1, by have := hk.2; omega⟩, by have := hk.2; omega, fun hb => by have := (hv8.lt hb).1; have := hk.2; omega⟩
end Go.Proofs.Ytkgmhkcncemmkaa
