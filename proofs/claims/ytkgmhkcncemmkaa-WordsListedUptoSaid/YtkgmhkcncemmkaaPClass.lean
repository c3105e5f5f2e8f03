/- What the functions of package class compute: sets of bytes as 256 bits. -/
import Derived.Test.YtkgmhkcncemmkaaVOps
import Derived.Test.YtkgmhkcncemmkaaVFacts
set_option linter.unusedVariables false
set_option linter.unusedSimpArgs false
set_option maxRecDepth 100000
namespace Go.Proofs.Ytkgmhkcncemmkaa
open Go.VC

/-- Word i of a set. -/
def wd (s : BitVec 256) (i : Nat) : Nat := (s.toNat / 2 ^ (64 * i)) % 2 ^ 64
def setV (s : BitVec 256) : Value := .agg #[.int .u64 (wd s 0), .int .u64 (wd s 1), .int .u64 (wd s 2), .int .u64 (wd s 3)]
def setL (s : BitVec 256) : List Value := [.int .u64 (wd s 0), .int .u64 (wd s 1), .int .u64 (wd s 2), .int .u64 (wd s 3)]
theorem wd_lt (s : BitVec 256) (i : Nat) : wd s i < 2 ^ 64 := Nat.mod_lt _ (by decide)
theorem wd_in (s : BitVec 256) (i : Nat) : inK .u64 (wd s i : Int) := by
  have := wd_lt s i
  refine ⟨?_, ?_⟩ <;> simp only [IntKind.min, IntKind.max, IntKind.signed, IntKind.bits] <;> simp <;> omega
theorem wd_bit (s : BitVec 256) (i j : Nat) (hj : j < 64) : (wd s i).testBit j = s.getLsbD (64 * i + j) := by
  unfold wd
  rw [Nat.testBit_mod_two_pow, Nat.testBit_div_two_pow, BitVec.testBit_toNat]
  simp [hj]; congr 1; omega
theorem wd_inj {s t : BitVec 256} (h : ∀ i, i < 4 → wd s i = wd t i) : s = t := by
  apply BitVec.eq_of_getLsbD_eq
  intro k hk
  have h1 := wd_bit s (k / 64) (k % 64) (Nat.mod_lt _ (by decide))
  have h2 := wd_bit t (k / 64) (k % 64) (Nat.mod_lt _ (by decide))
  rw [show 64 * (k / 64) + k % 64 = k by omega] at h1 h2
  rw [← h1, ← h2, h _ (by omega)]
theorem setV_inj {s t : BitVec 256} (h : setV s = setV t) : s = t := by
  unfold setV at h
  simp only [Value.agg.injEq, Array.mk.injEq, List.cons.injEq, Value.int.injEq, true_and, and_true, Int.natCast_inj] at h
  apply wd_inj
  intro i hi
  match i, hi with
  | 0, _ => exact h.1
  | 1, _ => exact h.2.1
  | 2, _ => exact h.2.2.1
  | 3, _ => exact h.2.2.2

theorem has_c (s : BitVec 256) (b : Nat) (hb : b < 256) (H : Heap) : Pure Try.prog 79 #[setV s, .int .u8 b] H (.bool (s.getLsbD b)) := by
  refine FnOk.of_vc Try.func79 rfl (Try.call79 _) ?_
  (conv => whnf)
  refine vbox (setL s) rfl ?_
  intro p H1 hp hs1 hb1 ha1
  (conv => whnf); refine vshr (b := 6) (by decide) ?_
  (conv => whnf); refine ixa ar78 (by omega) (by omega) ?_
  (conv => whnf); refine ld1 ct76 (v := .int .u64 (wd s (b / 64))) ?_ trivial ?_
  · rw [hb1.cell]
    have : b / 2 ^ 6 < 4 := by omega
    rw [show b / 64 = b / 2 ^ 6 by omega]
    generalize b / 2 ^ 6 = q at this
    match q, this with
    | 0, _ => rfl
    | 1, _ => rfl
    | 2, _ => rfl
    | 3, _ => rfl
  (conv => whnf); refine vand (b := 63) ⟨by simp [IntKind.min, IntKind.signed], by simp [IntKind.max, IntKind.signed, IntKind.bits]; omega⟩ ⟨by decide, by decide⟩ ?_
  (conv => whnf); refine vshr (Nat.le_trans Nat.and_le_right (by decide)) ?_
  (conv => whnf); refine vand (b := 1) (inK_le (wd_in s _) (Nat.div_le_self _ _)) ⟨by decide, by decide⟩ ?_
  (conv => whnf)
  refine ⟨?_, by rw [← hp]; exact ha1⟩
  congr 1
  have e1 : b &&& 63 = b % 64 := by rw [show (63 : Nat) = 2 ^ 6 - 1 by decide, Nat.and_two_pow_sub_one_eq_mod]
  have h1 := wd_bit s (b / 64) (b % 64) (Nat.mod_lt _ (by decide))
  rw [show 64 * (b / 64) + b % 64 = b by omega] at h1
  rw [e1, ← h1, Nat.testBit_eq_decide_div_mod_eq, Nat.and_one_is_mod]
  have := Nat.mod_two_eq_zero_or_one (wd s (b / 64) / 2 ^ (b % 64))
  rcases this with h | h <;> simp [h]

/-- The four loads and bit operations of Meet, Union. -/
theorem wd_and (a b : BitVec 256) (i : Nat) : wd (a &&& b) i = wd a i &&& wd b i := by
  apply Nat.eq_of_testBit_eq
  intro j
  rw [Nat.testBit_and]
  by_cases hj : j < 64
  · rw [wd_bit _ _ _ hj, wd_bit _ _ _ hj, wd_bit _ _ _ hj, BitVec.getLsbD_and]
  · rw [Nat.testBit_lt_two_pow (Nat.lt_of_lt_of_le (wd_lt _ _) (Nat.pow_le_pow_right (by decide) (by omega))),
      Nat.testBit_lt_two_pow (x := wd a i) (Nat.lt_of_lt_of_le (wd_lt _ _) (Nat.pow_le_pow_right (by decide) (by omega)))]; rfl
theorem wd_or (a b : BitVec 256) (i : Nat) : wd (a ||| b) i = wd a i ||| wd b i := by
  apply Nat.eq_of_testBit_eq
  intro j
  rw [Nat.testBit_or]
  by_cases hj : j < 64
  · rw [wd_bit _ _ _ hj, wd_bit _ _ _ hj, wd_bit _ _ _ hj, BitVec.getLsbD_or]
  · rw [Nat.testBit_lt_two_pow (Nat.lt_of_lt_of_le (wd_lt _ _) (Nat.pow_le_pow_right (by decide) (by omega))),
      Nat.testBit_lt_two_pow (x := wd a i) (Nat.lt_of_lt_of_le (wd_lt _ _) (Nat.pow_le_pow_right (by decide) (by omega))),
      Nat.testBit_lt_two_pow (x := wd b i) (Nat.lt_of_lt_of_le (wd_lt _ _) (Nat.pow_le_pow_right (by decide) (by omega)))]; rfl

theorem meet_c (a b : BitVec 256) (H : Heap) : Pure Try.prog 89 #[setV a, setV b] H (setV (a &&& b)) := by
  refine FnOk.of_vc Try.func89 rfl (Try.call89 _) ?_
  (conv => whnf); refine vbox (setL a) rfl ?_
  intro p H1 hp hs1 hb1 ha1
  (conv => whnf); refine vbox (setL b) rfl ?_
  intro q H2 hq hs2 hb2 ha2
  (conv => whnf); refine valloc (setV 0) (setL 0) rfl rfl ?_
  intro r H3 hr hs3 hb3 ha3
  replace hb1 := (hb1.agr ha2 (show p < q by omega)).agr ha3 (show p < r by omega)
  replace hb2 := hb2.agr ha3 (show q < r by omega)
  (conv => whnf); refine ixa ar78 (by decide) (by decide) ?_
  (conv => whnf); refine ld1 ct76 ((hb1.cell _).trans rfl) trivial ?_
  (conv => whnf); refine ixa ar78 (by decide) (by decide) ?_
  (conv => whnf); refine ld1 ct76 ((hb2.cell _).trans rfl) trivial ?_
  (conv => whnf); refine vand (wd_in a _) (wd_in b _) ?_
  (conv => whnf); refine ixa ar78 (by decide) (by decide) ?_
  (conv => whnf); refine ld1 ct76 ((hb1.cell _).trans rfl) trivial ?_
  (conv => whnf); refine ixa ar78 (by decide) (by decide) ?_
  (conv => whnf); refine ld1 ct76 ((hb2.cell _).trans rfl) trivial ?_
  (conv => whnf); refine vand (wd_in a _) (wd_in b _) ?_
  (conv => whnf); refine ixa ar78 (by decide) (by decide) ?_
  (conv => whnf); refine ld1 ct76 ((hb1.cell _).trans rfl) trivial ?_
  (conv => whnf); refine ixa ar78 (by decide) (by decide) ?_
  (conv => whnf); refine ld1 ct76 ((hb2.cell _).trans rfl) trivial ?_
  (conv => whnf); refine vand (wd_in a _) (wd_in b _) ?_
  (conv => whnf); refine ixa ar78 (by decide) (by decide) ?_
  (conv => whnf); refine ld1 ct76 ((hb1.cell _).trans rfl) trivial ?_
  (conv => whnf); refine ixa ar78 (by decide) (by decide) ?_
  (conv => whnf); refine ld1 ct76 ((hb2.cell _).trans rfl) trivial ?_
  (conv => whnf); refine vand (wd_in a _) (wd_in b _) ?_
  (conv => whnf); refine vbuildA ar78 (setV 0) rfl [Value.int .u64 ((wd a 0 &&& wd b 0 : Nat) : Int), Value.int .u64 ((wd a 1 &&& wd b 1 : Nat) : Int), Value.int .u64 ((wd a 2 &&& wd b 2 : Nat) : Int), Value.int .u64 ((wd a 3 &&& wd b 3 : Nat) : Int)] rfl ?_
  (conv => whnf); refine stN rfl hb3 (show 0 + 4 ≤ 4 by decide) rfl ?_
  intro H4 hb4 ha4 hs4
  (conv => whnf); refine ldN (cs := [Value.int .u64 ((wd a 0 &&& wd b 0 : Nat) : Int), Value.int .u64 ((wd a 1 &&& wd b 1 : Nat) : Int), Value.int .u64 ((wd a 2 &&& wd b 2 : Nat) : Int), Value.int .u64 ((wd a 3 &&& wd b 3 : Nat) : Int)]) ag78 (hb4.cells (fun j v hv => by simpa [splice, setL] using hv)) trivial ?_
  refine ⟨?_, ?_⟩
  · unfold setV; rw [wd_and, wd_and, wd_and, wd_and]
  · intro k hk; rw [ha4 k (by omega), ha3 k (by omega), ha2 k (by omega), ha1 k (by omega)]

theorem union_c (a b : BitVec 256) (H : Heap) : Pure Try.prog 90 #[setV a, setV b] H (setV (a ||| b)) := by
  refine FnOk.of_vc Try.func90 rfl (Try.call90 _) ?_
  (conv => whnf); refine vbox (setL a) rfl ?_
  intro p H1 hp hs1 hb1 ha1
  (conv => whnf); refine vbox (setL b) rfl ?_
  intro q H2 hq hs2 hb2 ha2
  (conv => whnf); refine valloc (setV 0) (setL 0) rfl rfl ?_
  intro r H3 hr hs3 hb3 ha3
  replace hb1 := (hb1.agr ha2 (show p < q by omega)).agr ha3 (show p < r by omega)
  replace hb2 := hb2.agr ha3 (show q < r by omega)
  (conv => whnf); refine ixa ar78 (by decide) (by decide) ?_
  (conv => whnf); refine ld1 ct76 ((hb1.cell _).trans rfl) trivial ?_
  (conv => whnf); refine ixa ar78 (by decide) (by decide) ?_
  (conv => whnf); refine ld1 ct76 ((hb2.cell _).trans rfl) trivial ?_
  (conv => whnf); refine vor (wd_in a _) (wd_in b _) ?_
  (conv => whnf); refine ixa ar78 (by decide) (by decide) ?_
  (conv => whnf); refine ld1 ct76 ((hb1.cell _).trans rfl) trivial ?_
  (conv => whnf); refine ixa ar78 (by decide) (by decide) ?_
  (conv => whnf); refine ld1 ct76 ((hb2.cell _).trans rfl) trivial ?_
  (conv => whnf); refine vor (wd_in a _) (wd_in b _) ?_
  (conv => whnf); refine ixa ar78 (by decide) (by decide) ?_
  (conv => whnf); refine ld1 ct76 ((hb1.cell _).trans rfl) trivial ?_
  (conv => whnf); refine ixa ar78 (by decide) (by decide) ?_
  (conv => whnf); refine ld1 ct76 ((hb2.cell _).trans rfl) trivial ?_
  (conv => whnf); refine vor (wd_in a _) (wd_in b _) ?_
  (conv => whnf); refine ixa ar78 (by decide) (by decide) ?_
  (conv => whnf); refine ld1 ct76 ((hb1.cell _).trans rfl) trivial ?_
  (conv => whnf); refine ixa ar78 (by decide) (by decide) ?_
  (conv => whnf); refine ld1 ct76 ((hb2.cell _).trans rfl) trivial ?_
  (conv => whnf); refine vor (wd_in a _) (wd_in b _) ?_
  (conv => whnf); refine vbuildA ar78 (setV 0) rfl [Value.int .u64 ((wd a 0 ||| wd b 0 : Nat) : Int), Value.int .u64 ((wd a 1 ||| wd b 1 : Nat) : Int), Value.int .u64 ((wd a 2 ||| wd b 2 : Nat) : Int), Value.int .u64 ((wd a 3 ||| wd b 3 : Nat) : Int)] rfl ?_
  (conv => whnf); refine stN rfl hb3 (show 0 + 4 ≤ 4 by decide) rfl ?_
  intro H4 hb4 ha4 hs4
  (conv => whnf); refine ldN (cs := [Value.int .u64 ((wd a 0 ||| wd b 0 : Nat) : Int), Value.int .u64 ((wd a 1 ||| wd b 1 : Nat) : Int), Value.int .u64 ((wd a 2 ||| wd b 2 : Nat) : Int), Value.int .u64 ((wd a 3 ||| wd b 3 : Nat) : Int)]) ag78 (hb4.cells (fun j v hv => by simpa [splice, setL] using hv)) trivial ?_
  refine ⟨?_, ?_⟩
  · unfold setV; rw [wd_or, wd_or, wd_or, wd_or]
  · intro k hk; rw [ha4 k (by omega), ha3 k (by omega), ha2 k (by omega), ha1 k (by omega)]

theorem and63 (b : Nat) : b &&& 63 = b % 64 := by rw [show (63 : Nat) = 2 ^ 6 - 1 by decide, Nat.and_two_pow_sub_one_eq_mod]
theorem setL_get (s : BitVec 256) (b : Nat) (hb : b < 256) : (setL s)[b / 2 ^ 6]? = some (.int .u64 (wd s (b / 64))) := by
  have : b / 2 ^ 6 < 4 := by omega
  rw [show b / 64 = b / 2 ^ 6 by omega]
  generalize b / 2 ^ 6 = q at this
  match q, this with
  | 0, _ => rfl
  | 1, _ => rfl
  | 2, _ => rfl
  | 3, _ => rfl
theorem wd_put (s : BitVec 256) (b i : Nat) (hb : b < 256) : wd (s ||| BitVec.twoPow 256 b) i = if i = b / 64 then wd s i ||| 2 ^ (b % 64) else wd s i := by
  apply Nat.eq_of_testBit_eq
  intro j
  by_cases hj : j < 64
  · rw [wd_bit _ _ _ hj, BitVec.getLsbD_or, BitVec.getLsbD_twoPow]
    by_cases hi : i = b / 64
    · rw [if_pos hi, Nat.testBit_or, wd_bit _ _ _ hj, Nat.testBit_two_pow]
      congr 1
      by_cases h : b % 64 = j
      · have : b = 64 * i + j := by omega
        simp [h, ← this, hb]
      · have : ¬ b = 64 * i + j := by omega
        simp [h, this]
    · rw [if_neg hi, wd_bit _ _ _ hj]
      have : ¬ b = 64 * i + j := by omega
      simp [this]
  · have hbig : 2 ^ 64 ≤ 2 ^ j := Nat.pow_le_pow_right (by decide) (by omega)
    rw [Nat.testBit_lt_two_pow (Nat.lt_of_lt_of_le (wd_lt _ _) hbig)]
    split
    · rw [Nat.testBit_or, Nat.testBit_lt_two_pow (Nat.lt_of_lt_of_le (wd_lt _ _) hbig), Nat.testBit_two_pow]
      simp; omega
    · rw [Nat.testBit_lt_two_pow (Nat.lt_of_lt_of_le (wd_lt _ _) hbig)]
theorem setL_put (s : BitVec 256) (b : Nat) (hb : b < 256) : (setL s).set (b / 64) (.int .u64 ((wd s (b / 64) ||| 2 ^ (b % 64) : Nat) : Int)) = setL (s ||| BitVec.twoPow 256 b) := by
  have h : b / 64 < 4 := by omega
  unfold setL
  rw [wd_put s b 0 hb, wd_put s b 1 hb, wd_put s b 2 hb, wd_put s b 3 hb]
  generalize b / 64 = q at h
  match q, h with
  | 0, _ => rfl
  | 1, _ => rfl
  | 2, _ => rfl
  | 3, _ => rfl

theorem span_c (lo hi : Nat) (hlo : lo < 256) (hhi : hi < 256) (H : Heap) : FnOk Try.prog 40 #[.int .u8 lo, .int .u8 hi] H fun v H' =>
    (∃ s, v = setV s ∧ ∀ b, b < 256 → s.getLsbD b = (decide (lo ≤ b) && decide (b ≤ hi))) ∧ Agr (Old H) H H' := by
  refine FnOk.of_vc Try.func40 rfl (Try.call40 _) ?_
  (conv => whnf); refine valloc (setV 0) (setL 0) rfl rfl ?_
  intro r H1 hr hs1 hb1 ha1
  (conv => whnf); refine valloc (setV 0) (setL 0) rfl rfl ?_
  intro p H2 hp hs2 hb2 ha2
  replace hb1 := hb1.agr ha2 (show r < p by omega)
  (conv => whnf); rw [w64 (x := (lo : Int)) (by omega) (by omega)]
  refine VLoop.mk [6] (fun b : Nat => [.int .i64 b]) (fun b H3 => lo ≤ b ∧ (b ≤ hi + 1 ∨ b = lo) ∧ Agr (fun k => k ≠ p) H2 H3 ∧ H3.size = H2.size ∧ ∃ s : BitVec 256, Blk H3 p 78 (setL s) ∧ ∀ c, c < 256 → s.getLsbD c = (decide (lo ≤ c) && decide (c < b))) (fun b _ => 256 - b) ?_ ?_
  · (conv => whnf)
    exact ⟨lo, rfl, by omega, by omega, Agr.refl _ _, rfl, 0, hb2, fun c hc => by simp⟩
  · rintro b H3 junk ⟨h1, h2, ha3, hs3, s, hb3, hs⟩
    (conv => whnf); rw [w64 (x := (hi : Int)) (by omega) (by omega)]
    refine VIte.mk (fun h => ?_) (fun h => ?_) <;> simp only [decide_eq_true_eq, decide_eq_false_iff_not] at h
    · (conv => whnf)
      refine VDraw.tail 9 (sq [0,1,2,3,4,5,6,7,8] (.f 9 .e)) rfl (by kernel_rfl) ?_
      (conv => whnf); refine vshr (b := 6) (by decide) ?_
      (conv => whnf); refine ixa ar78 (by omega) (by omega) ?_
      (conv => whnf); refine ld1 ct76 (v := .int .u64 (wd s (b / 64))) (by rw [hb3.cell, Nat.zero_add, Nat.mul_one]; exact setL_get s b (by omega)) trivial ?_
      (conv => whnf); refine vand (b := 63) (inI64 (by omega)) (inI64 (by decide)) ?_
      have hpow : 2 ^ (b % 64) < 2 ^ 64 := Nat.pow_lt_pow_right (by decide) (by omega)
      rw [and63]
      have hin : inK .u64 ((1 * 2 ^ (b % 64) : Nat) : Int) := inU64 (by omega)
      (conv => whnf); refine vshl (a := 1) (by simp [IntKind.bits]; omega) hin ?_
      (conv => whnf); refine vor (wd_in s _) hin ?_
      (conv => whnf); refine ixa ar78 (by omega) (by omega) ?_
      (conv => whnf); refine st1 ct76 hb3 (by simp [setL]; omega) rfl ?_
      intro H4 hb4 ha4 hs4
      (conv => whnf); rw [w64 (x := (b : Int) + 1) (by omega) (by omega)]
      refine ⟨rfl, b + 1, by simp, ⟨by omega, by omega, ha3.trans ha4, by omega, s ||| BitVec.twoPow 256 b, ?_, fun c hc => ?_⟩, by omega⟩
      · rw [Nat.zero_add, Nat.mul_one, Nat.one_mul] at hb4
        rw [← setL_put s b (by omega)]
        exact hb4
      · rw [BitVec.getLsbD_or, hs c hc, BitVec.getLsbD_twoPow]
        by_cases hbc : b = c
        · subst hbc; simp [hc, h1]
        · have : (decide (c < b + 1)) = decide (c < b) := by simp; omega
          simp [hbc, this]
    · (conv => whnf)
      refine ldN (cs := setL s) ag78 (hb3.cells (fun j v hv => by simpa using hv)) trivial ?_
      (conv => whnf); refine stN rfl (hb1.agr ha3 (show r ≠ p by omega)) (show 0 + 4 ≤ 4 by decide) rfl ?_
      intro H4 hb4 ha4 hs4
      (conv => whnf); refine ldN (cs := setL s) ag78 (hb4.cells (fun j v hv => by simpa [splice, setL] using hv)) trivial ?_
      refine ⟨⟨s, rfl, fun c hc => ?_⟩, fun k hk => ?_⟩
      · rw [hs c hc]
        rcases h2 with h2 | h2
        · have : (decide (c < b)) = decide (c ≤ hi) := by simp; omega
          rw [this]
        · subst h2
          by_cases hcl : b ≤ c
          · simp [show ¬ c < b by omega, show ¬ c ≤ hi by omega]
          · simp [hcl]
      · unfold Old at hk
        rw [ha4 k (by omega), ha3 k (by omega), ha2 k (by omega), ha1 k (by omega)]

/-! ### sets as data, and their equality -/
def tSet : Ty (BitVec 256) where
  size := 4
  rep _ _ cs s := cs = setL s
  len h := by rw [h]; rfl
  frame h _ := h
  mono h _ := h
def setLits (s : BitVec 256) : List Lit := [.int .u64 (wd s 0), .int .u64 (wd s 1), .int .u64 (wd s 2), .int .u64 (wd s 3)]
theorem setLits_inj (a b : BitVec 256) : decide (a = b) = true ↔ setLits a = setLits b := by
  rw [decide_eq_true_eq]
  constructor
  · rintro rfl; rfl
  · intro h
    unfold setLits at h
    simp only [List.cons.injEq, Lit.int.injEq, true_and, and_true, Int.natCast_inj] at h
    apply wd_inj
    intro i hi
    match i, hi with
    | 0, _ => exact h.1
    | 1, _ => exact h.2.1
    | 2, _ => exact h.2.2.1
    | 3, _ => exact h.2.2.2
theorem set_wf (s : BitVec 256) (i : Nat) : (Lit.int .u64 (wd s i)).wf = true := by
  have := wd_in s i
  unfold Lit.wf
  simp only [Bool.and_eq_true, decide_eq_true_eq]
  exact this
theorem set_lits (s : BitVec 256) : Try.prog.keyLits 2 78 (setL s) = some (setLits s) := by
  have c1 : Try.prog.cellsOf 78 = 4 := rfl
  have c2 : Try.prog.cellsOf 76 = 1 := rfl
  simp [Program.keyLits, Try.underlying78, Try.underlying76, c1, c2, setL, setLits, set_wf, List.range, List.range.loop]
theorem set_eq (a b : BitVec 256) {x y : Operand} {S : Nat → Prop} {H : Heap} {K : Value → Prop} (k : K (.bool (decide (a = b)))) :
    VDet Try.prog (do eqGuard .eql 78 x y (setV a) (setV b); binOp .eql 78 (setV a) (setV b)) S H K :=
  veq (m := 2) (la := setLits a) (lb := setLits b) rfl (by decide) (Try.eqGuardType78) rfl rfl (set_lits a) (set_lits b) (setLits_inj a b) k
theorem set_neq (a b : BitVec 256) {x y : Operand} {S : Nat → Prop} {H : Heap} {K : Value → Prop} (k : K (.bool (!decide (a = b)))) :
    VDet Try.prog (do eqGuard .neq 78 x y (setV a) (setV b); binOp .neq 78 (setV a) (setV b)) S H K :=
  vneq (m := 2) (la := setLits a) (lb := setLits b) rfl (by decide) (Try.eqGuardType78) rfl rfl (set_lits a) (set_lits b) (setLits_inj a b) k


def spanS (lo hi : Nat) : BitVec 256 := BitVec.ofNat 256 ((2 ^ (hi + 1 - lo) - 1) <<< lo)
theorem spanS_bit (lo hi b : Nat) (hb : b < 256) : (spanS lo hi).getLsbD b = (decide (lo ≤ b) && decide (b ≤ hi)) := by
  unfold spanS
  rw [BitVec.getLsbD_ofNat, Nat.testBit_shiftLeft, Nat.testBit_two_pow_sub_one]
  by_cases h : lo ≤ b
  · simp only [hb, decide_true, Bool.true_and, h, ge_iff_le]
    congr 1
    rw [eq_iff_iff]; omega
  · simp [h]
theorem span_p (lo hi : Nat) (hlo : lo < 256) (hhi : hi < 256) (H : Heap) : Pure Try.prog 40 #[.int .u8 lo, .int .u8 hi] H (setV (spanS lo hi)) := by
  refine (span_c lo hi hlo hhi H).mono ?_
  rintro v H' ⟨⟨s, rfl, hs⟩, ha⟩
  refine ⟨?_, ha⟩
  congr 1
  apply BitVec.eq_of_getLsbD_eq
  intro b hb
  rw [hs b hb, spanS_bit lo hi b hb]
theorem spanS_full : spanS 0 255 = BitVec.allOnes 256 := by
  apply BitVec.eq_of_getLsbD_eq
  intro b hb
  rw [spanS_bit 0 255 b hb, BitVec.getLsbD_allOnes]
  simp [hb]; omega

end Go.Proofs.Ytkgmhkcncemmkaa
