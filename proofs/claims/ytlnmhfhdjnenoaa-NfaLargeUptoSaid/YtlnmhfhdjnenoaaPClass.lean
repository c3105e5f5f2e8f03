/- What the functions of package class compute: sets of bytes as 256 bits. -/
import Derived.Test.YtlnmhfhdjnenoaaVOps
import Derived.Test.YtlnmhfhdjnenoaaVFacts
set_option linter.unusedVariables false
set_option linter.unusedSimpArgs false
set_option maxRecDepth 100000
namespace Go.Proofs.Ytlnmhfhdjnenoaa
open Go.VC

/-- Word i of a set. -/
def wd (s : BitVec 256) (i : Nat) : Nat := (s.toNat / 2 ^ (64 * i)) % 2 ^ 64
def setV (s : BitVec 256) : Value := .agg #[.int .u64 (wd s 0), .int .u64 (wd s 1), .int .u64 (wd s 2), .int .u64 (wd s 3)]
def setL (s : BitVec 256) : List Value := [.int .u64 (wd s 0), .int .u64 (wd s 1), .int .u64 (wd s 2), .int .u64 (wd s 3)]
theorem wd_lt (s : BitVec 256) (i : Nat) : wd s i < 2 ^ 64 := Nat.mod_lt _ (by decide)
theorem wd_in (s : BitVec 256) (i : Nat) : inK .u64 (wd s i : Int) := by
  have := wd_lt s i
  refine ⟨?_, ?_⟩ <;> simp only [IntKind.min, IntKind.max, IntKind.signed, IntKind.bits] <;> simp <;> omega
theorem wd_bit (s : BitVec 256) (i j : Nat) (hj : j < 64) : (wd s i).testBit j = s.getLsbD (64 * i + j) := by
  unfold wd
  rw [Nat.testBit_mod_two_pow, Nat.testBit_div_two_pow, BitVec.testBit_toNat]
  simp [hj]; congr 1; omega
theorem wd_inj {s t : BitVec 256} (h : ∀ i, i < 4 → wd s i = wd t i) : s = t := by
  apply BitVec.eq_of_getLsbD_eq
  intro k hk
  have h1 := wd_bit s (k / 64) (k % 64) (Nat.mod_lt _ (by decide))
  have h2 := wd_bit t (k / 64) (k % 64) (Nat.mod_lt _ (by decide))
  rw [show 64 * (k / 64) + k % 64 = k by omega] at h1 h2
  rw [← h1, ← h2, h _ (by omega)]
theorem setV_inj {s t : BitVec 256} (h : setV s = setV t) : s = t := by
  unfold setV at h
  simp only [Value.agg.injEq, Array.mk.injEq, List.cons.injEq, Value.int.injEq, true_and, and_true, Int.natCast_inj] at h
  apply wd_inj
  intro i hi
  match i, hi with
  | 0, _ => exact h.1
  | 1, _ => exact h.2.1
  | 2, _ => exact h.2.2.1
  | 3, _ => exact h.2.2.2

theorem has_c (s : BitVec 256) (b : Nat) (hb : b < 256) (H : Heap) : Pure Try.prog 34 #[setV s, .int .u8 b] H (.bool (s.getLsbD b)) := by
  refine FnOk.of_vc Try.func34 rfl (Try.call34 _) ?_
  (conv => whnf)
  refine vbox (setL s) rfl ?_
  intro p H1 hp hs1 hb1 ha1
  (conv => whnf); refine vshr (b := 6) (by decide) ?_
  (conv => whnf); refine ixa ar65 (by omega) (by omega) ?_
  (conv => whnf); refine ld1 ct57 (v := .int .u64 (wd s (b / 64))) ?_ trivial ?_
  · rw [hb1.cell]
    have : b / 2 ^ 6 < 4 := by omega
    rw [show b / 64 = b / 2 ^ 6 by omega]
    generalize b / 2 ^ 6 = q at this
    match q, this with
    | 0, _ => rfl
    | 1, _ => rfl
    | 2, _ => rfl
    | 3, _ => rfl
  (conv => whnf); refine vand (b := 63) ⟨by simp [IntKind.min, IntKind.signed], by simp [IntKind.max, IntKind.signed, IntKind.bits]; omega⟩ ⟨by decide, by decide⟩ ?_
  (conv => whnf); refine vshr (Nat.le_trans Nat.and_le_right (by decide)) ?_
  (conv => whnf); refine vand (b := 1) (inK_le (wd_in s _) (Nat.div_le_self _ _)) ⟨by decide, by decide⟩ ?_
  (conv => whnf)
  refine ⟨?_, by rw [← hp]; exact ha1⟩
  congr 1
  have e1 : b &&& 63 = b % 64 := by rw [show (63 : Nat) = 2 ^ 6 - 1 by decide, Nat.and_two_pow_sub_one_eq_mod]
  have h1 := wd_bit s (b / 64) (b % 64) (Nat.mod_lt _ (by decide))
  rw [show 64 * (b / 64) + b % 64 = b by omega] at h1
  rw [e1, ← h1, Nat.testBit_eq_decide_div_mod_eq, Nat.and_one_is_mod]
  have := Nat.mod_two_eq_zero_or_one (wd s (b / 64) / 2 ^ (b % 64))
  rcases this with h | h <;> simp [h]

/-- The four loads and bit operations of Meet, Union. -/
theorem wd_and (a b : BitVec 256) (i : Nat) : wd (a &&& b) i = wd a i &&& wd b i := by
  apply Nat.eq_of_testBit_eq
  intro j
  rw [Nat.testBit_and]
  by_cases hj : j < 64
  · rw [wd_bit _ _ _ hj, wd_bit _ _ _ hj, wd_bit _ _ _ hj, BitVec.getLsbD_and]
  · rw [Nat.testBit_lt_two_pow (Nat.lt_of_lt_of_le (wd_lt _ _) (Nat.pow_le_pow_right (by decide) (by omega))),
      Nat.testBit_lt_two_pow (x := wd a i) (Nat.lt_of_lt_of_le (wd_lt _ _) (Nat.pow_le_pow_right (by decide) (by omega)))]; rfl
theorem wd_or (a b : BitVec 256) (i : Nat) : wd (a ||| b) i = wd a i ||| wd b i := by
  apply Nat.eq_of_testBit_eq
  intro j
  rw [Nat.testBit_or]
  by_cases hj : j < 64
  · rw [wd_bit _ _ _ hj, wd_bit _ _ _ hj, wd_bit _ _ _ hj, BitVec.getLsbD_or]
  · rw [Nat.testBit_lt_two_pow (Nat.lt_of_lt_of_le (wd_lt _ _) (Nat.pow_le_pow_right (by decide) (by omega))),
      Nat.testBit_lt_two_pow (x := wd a i) (Nat.lt_of_lt_of_le (wd_lt _ _) (Nat.pow_le_pow_right (by decide) (by omega))),
      Nat.testBit_lt_two_pow (x := wd b i) (Nat.lt_of_lt_of_le (wd_lt _ _) (Nat.pow_le_pow_right (by decide) (by omega)))]; rfl

theorem and63 (b : Nat) : b &&& 63 = b % 64 := by rw [show (63 : Nat) = 2 ^ 6 - 1 by decide, Nat.and_two_pow_sub_one_eq_mod]
theorem setL_get (s : BitVec 256) (b : Nat) (hb : b < 256) : (setL s)[b / 2 ^ 6]? = some (.int .u64 (wd s (b / 64))) := by
  have : b / 2 ^ 6 < 4 := by omega
  rw [show b / 64 = b / 2 ^ 6 by omega]
  generalize b / 2 ^ 6 = q at this
  match q, this with
  | 0, _ => rfl
  | 1, _ => rfl
  | 2, _ => rfl
  | 3, _ => rfl
theorem wd_put (s : BitVec 256) (b i : Nat) (hb : b < 256) : wd (s ||| BitVec.twoPow 256 b) i = if i = b / 64 then wd s i ||| 2 ^ (b % 64) else wd s i := by
  apply Nat.eq_of_testBit_eq
  intro j
  by_cases hj : j < 64
  · rw [wd_bit _ _ _ hj, BitVec.getLsbD_or, BitVec.getLsbD_twoPow]
    by_cases hi : i = b / 64
    · rw [if_pos hi, Nat.testBit_or, wd_bit _ _ _ hj, Nat.testBit_two_pow]
      congr 1
      by_cases h : b % 64 = j
      · have : b = 64 * i + j := by omega
        simp [h, ← this, hb]
      · have : ¬ b = 64 * i + j := by omega
        simp [h, this]
    · rw [if_neg hi, wd_bit _ _ _ hj]
      have : ¬ b = 64 * i + j := by omega
      simp [this]
  · have hbig : 2 ^ 64 ≤ 2 ^ j := Nat.pow_le_pow_right (by decide) (by omega)
    rw [Nat.testBit_lt_two_pow (Nat.lt_of_lt_of_le (wd_lt _ _) hbig)]
    split
    · rw [Nat.testBit_or, Nat.testBit_lt_two_pow (Nat.lt_of_lt_of_le (wd_lt _ _) hbig), Nat.testBit_two_pow]
      simp; omega
    · rw [Nat.testBit_lt_two_pow (Nat.lt_of_lt_of_le (wd_lt _ _) hbig)]
theorem setL_put (s : BitVec 256) (b : Nat) (hb : b < 256) : (setL s).set (b / 64) (.int .u64 ((wd s (b / 64) ||| 2 ^ (b % 64) : Nat) : Int)) = setL (s ||| BitVec.twoPow 256 b) := by
  have h : b / 64 < 4 := by omega
  unfold setL
  rw [wd_put s b 0 hb, wd_put s b 1 hb, wd_put s b 2 hb, wd_put s b 3 hb]
  generalize b / 64 = q at h
  match q, h with
  | 0, _ => rfl
  | 1, _ => rfl
  | 2, _ => rfl
  | 3, _ => rfl

/-! ### sets as data, and their equality -/
def tSet : Ty (BitVec 256) where
  size := 4
  rep _ _ cs s := cs = setL s
  len h := by rw [h]; rfl
  frame h _ := h
  mono h _ := h
def setLits (s : BitVec 256) : List Lit := [.int .u64 (wd s 0), .int .u64 (wd s 1), .int .u64 (wd s 2), .int .u64 (wd s 3)]
theorem setLits_inj (a b : BitVec 256) : decide (a = b) = true ↔ setLits a = setLits b := by
  rw [decide_eq_true_eq]
  constructor
  · rintro rfl; rfl
  · intro h
    unfold setLits at h
    simp only [List.cons.injEq, Lit.int.injEq, true_and, and_true, Int.natCast_inj] at h
    apply wd_inj
    intro i hi
    match i, hi with
    | 0, _ => exact h.1
    | 1, _ => exact h.2.1
    | 2, _ => exact h.2.2.1
    | 3, _ => exact h.2.2.2
theorem set_wf (s : BitVec 256) (i : Nat) : (Lit.int .u64 (wd s i)).wf = true := by
  have := wd_in s i
  unfold Lit.wf
  simp only [Bool.and_eq_true, decide_eq_true_eq]
  exact this
theorem set_lits (s : BitVec 256) : Try.prog.keyLits 2 65 (setL s) = some (setLits s) := by
  have c1 : Try.prog.cellsOf 65 = 4 := rfl
  have c2 : Try.prog.cellsOf 57 = 1 := rfl
  simp [Program.keyLits, Try.underlying65, Try.underlying57, c1, c2, setL, setLits, set_wf, List.range, List.range.loop]
theorem set_eq (a b : BitVec 256) {x y : Operand} {S : Nat → Prop} {H : Heap} {K : Value → Prop} (k : K (.bool (decide (a = b)))) :
    VDet Try.prog (do eqGuard .eql 65 x y (setV a) (setV b); binOp .eql 65 (setV a) (setV b)) S H K :=
  veq (m := 2) (la := setLits a) (lb := setLits b) rfl (by decide) (Try.eqGuardType65) rfl rfl (set_lits a) (set_lits b) (setLits_inj a b) k
theorem set_neq (a b : BitVec 256) {x y : Operand} {S : Nat → Prop} {H : Heap} {K : Value → Prop} (k : K (.bool (!decide (a = b)))) :
    VDet Try.prog (do eqGuard .neq 65 x y (setV a) (setV b); binOp .neq 65 (setV a) (setV b)) S H K :=
  vneq (m := 2) (la := setLits a) (lb := setLits b) rfl (by decide) (Try.eqGuardType65) rfl rfl (set_lits a) (set_lits b) (setLits_inj a b) k


def spanS (lo hi : Nat) : BitVec 256 := BitVec.ofNat 256 ((2 ^ (hi + 1 - lo) - 1) <<< lo)
theorem spanS_bit (lo hi b : Nat) (hb : b < 256) : (spanS lo hi).getLsbD b = (decide (lo ≤ b) && decide (b ≤ hi)) := by
  unfold spanS
  rw [BitVec.getLsbD_ofNat, Nat.testBit_shiftLeft, Nat.testBit_two_pow_sub_one]
  by_cases h : lo ≤ b
  · simp only [hb, decide_true, Bool.true_and, h, ge_iff_le]
    congr 1
    rw [eq_iff_iff]; omega
  · simp [h]
theorem spanS_full : spanS 0 255 = BitVec.allOnes 256 := by
  apply BitVec.eq_of_getLsbD_eq
  intro b hb
  rw [spanS_bit 0 255 b hb, BitVec.getLsbD_allOnes]
  simp [hb]; omega

end Go.Proofs.Ytlnmhfhdjnenoaa
