/- class.Next, class.Count; words of bits. -/
import Derived.Test.YtkgmhkcncemmkaaPClass
import Derived.Test.YtkgmhkcncemmkaaVMem
set_option linter.unusedVariables false
set_option linter.unusedSimpArgs false
set_option maxRecDepth 100000
namespace Go.VC
theorem vmin_ {P : Program} {ats : Array TypeId} {t : TypeId} {k k' : IntKind} {a b : Int} {S : Nat → Prop} {H : Heap} {K : Value → Prop} (h : K (.int k (if b < a then b else a))) : VDet P (Builtin.min_ ats t [.int k a, .int k' b].toArray) S H K := by
  refine VDet.mk _ (fun w _ => ?_) h
  simp [Builtin.min_, Builtin.min2]
theorem vmax_ {P : Program} {ats : Array TypeId} {t : TypeId} {k k' : IntKind} {a b : Int} {S : Nat → Prop} {H : Heap} {K : Value → Prop} (h : K (.int k (if a < b then b else a))) : VDet P (Builtin.max_ ats t [.int k a, .int k' b].toArray) S H K := by
  refine VDet.mk _ (fun w _ => ?_) h
  simp [Builtin.max_, Builtin.max2]
theorem wu_mod (n : Nat) : IntKind.wrap .u64 (n : Int) = ((n % 18446744073709551616 : Nat) : Int) := by
  unfold IntKind.wrap
  simp only [IntKind.bits, IntKind.signed, Bool.false_and, Bool.false_eq_true, if_false, Nat.reducePow, Int.reducePow]
  omega
theorem wu_add {x y : Nat} (h : x + y < 18446744073709551616) : IntKind.wrap .u64 ((x : Int) + (y : Int)) = ((x + y : Nat) : Int) := by
  rw [← Int.natCast_add, wu_mod, Nat.mod_eq_of_lt h]
theorem wu_mul (x y : Nat) : IntKind.wrap .u64 ((x : Int) * (y : Int)) = ((x * y % 18446744073709551616 : Nat) : Int) := by
  rw [← Int.natCast_mul, wu_mod]
theorem wi_nat {n : Nat} (h : n < 9223372036854775808) : IntKind.wrap .i64 (n : Int) = (n : Int) := w64 (by omega) (by omega)
end Go.VC
namespace Go.Proofs.Ytkgmhkcncemmkaa
open Go.VC

/-! ### counting bits -/
theorem and_digit {a c x y : Nat} (ha : a < 256) (hc : c < 256) : (a + 256 * x) &&& (c + 256 * y) = (a &&& c) + 256 * (x &&& y) := by
  have h1 : ((a + 256 * x) &&& (c + 256 * y)) % 2 ^ 8 = (a &&& c) := by rw [Nat.and_mod_two_pow, show (a + 256 * x) % 2 ^ 8 = a by omega, show (c + 256 * y) % 2 ^ 8 = c by omega]
  have h2 : ((a + 256 * x) &&& (c + 256 * y)) / 2 ^ 8 = (x &&& y) := by rw [Nat.and_div_two_pow, show (a + 256 * x) / 2 ^ 8 = x by omega, show (c + 256 * y) / 2 ^ 8 = y by omega]
  omega
def mk_ (c : Nat) : Nat → Nat
  | 0 => 0
  | m + 1 => c + 256 * mk_ c m
theorem mk_succ (c m : Nat) : mk_ c (m + 1) = c + 256 * mk_ c m := rfl
def sw1 (m w : Nat) : Nat := ((w / 2) &&& mk_ 85 m) + (w &&& mk_ 85 m)
def sw2 (m w : Nat) : Nat := ((w / 4) &&& mk_ 51 m) + (w &&& mk_ 51 m)
def sw3 (m w : Nat) : Nat := (w / 16 + w) &&& mk_ 15 m
def pc8 (a : Nat) : Nat := ((List.range 8).filter fun j => a.testBit j).length
def popB (m w : Nat) : Nat := ((List.range m).filter fun j => w.testBit j).length
def g1 (a : Nat) : Nat := ((a / 2) &&& 85) + (a &&& 85)
def g2 (a : Nat) : Nat := ((a / 4) &&& 51) + (a &&& 51)
theorem g1_lt : ∀ a, a < 256 → g1 a < 256 := by decide +kernel
theorem g1_hi : ∀ a, a < 256 → ∀ r, r < 2 → ((a / 2 + 128 * r) &&& 85) = ((a / 2) &&& 85) := by decide +kernel
theorem g2_hi : ∀ a, a < 256 → ∀ r, r < 4 → ((a / 4 + 64 * r) &&& 51) = ((a / 4) &&& 51) := by decide +kernel
theorem g2_lt : ∀ a, a < 256 → g2 a < 256 ∧ (g2 (g1 a)) % 16 ≤ 4 ∧ g2 (g1 a) / 16 ≤ 4 := by decide +kernel
theorem g3_eq : ∀ a, a < 256 → ∀ r, r < 5 → ((g2 (g1 a) / 16 + 16 * r + g2 (g1 a)) &&& 15) = pc8 a := by decide +kernel
theorem pc8_le : ∀ a, a < 256 → pc8 a ≤ 8 := by decide +kernel
theorem sw1_digit {m a b : Nat} (ha : a < 256) : sw1 (m + 1) (a + 256 * b) = g1 a + 256 * sw1 m b := by
  unfold sw1
  rw [mk_succ]
  have e : (a + 256 * b) / 2 = (a / 2 + 128 * (b % 2)) + 256 * (b / 2) := by omega
  rw [e, and_digit (by omega) (by decide), and_digit ha (by decide), g1_hi a ha _ (by omega)]
  unfold g1; omega
theorem sw2_digit {m a b : Nat} (ha : a < 256) : sw2 (m + 1) (a + 256 * b) = g2 a + 256 * sw2 m b := by
  unfold sw2
  rw [mk_succ]
  have e : (a + 256 * b) / 4 = (a / 4 + 64 * (b % 4)) + 256 * (b / 4) := by omega
  rw [e, and_digit (by omega) (by decide), and_digit ha (by decide), g2_hi a ha _ (by omega)]
  unfold g2; omega
theorem sw_low (m b : Nat) (hb : b < 256 ^ m) : sw2 m (sw1 m b) % 16 ≤ 4 := by
  cases m with
  | zero =>
    obtain rfl : b = 0 := by simp at hb; omega
    decide
  | succ m =>
    have e : b = b % 256 + 256 * (b / 256) := by omega
    rw [e, sw1_digit (by omega), sw2_digit (g1_lt _ (by omega))]
    have := (g2_lt (b % 256) (by omega)).2.1
    omega
theorem sw_digit {m a b : Nat} (ha : a < 256) (hb : b < 256 ^ m) : sw3 (m + 1) (sw2 (m + 1) (sw1 (m + 1) (a + 256 * b))) = pc8 a + 256 * sw3 m (sw2 m (sw1 m b)) := by
  rw [sw1_digit ha, sw2_digit (g1_lt a ha)]
  have hl := sw_low m b hb
  have hg := g2_lt a ha
  generalize sw2 m (sw1 m b) = x at *
  unfold sw3
  rw [mk_succ]
  have e : (g2 (g1 a) + 256 * x) / 16 + (g2 (g1 a) + 256 * x) = (g2 (g1 a) / 16 + 16 * (x % 16) + g2 (g1 a)) + 256 * (x / 16 + x) := by omega
  rw [e, and_digit (by omega) (by decide), g3_eq a ha _ (by omega)]
theorem popB_digit (m w : Nat) : popB (8 + m) w = pc8 (w % 256) + popB m (w / 256) := by
  unfold popB pc8
  rw [List.range_add, List.filter_append, List.length_append, List.filter_map, List.length_map]
  congr 1
  · congr 1
    refine List.filter_congr fun j hj => ?_
    rw [List.mem_range] at hj
    rw [show (256 : Nat) = 2 ^ 8 from rfl, Nat.testBit_mod_two_pow]
    simp [hj]
  · congr 1
    refine List.filter_congr fun j _ => ?_
    simp only [Function.comp]
    rw [show (256 : Nat) = 2 ^ 8 from rfl, Nat.testBit_div_two_pow, Nat.add_comm]
def p8 (w i : Nat) : Nat := pc8 (w / 256 ^ i % 256)
theorem sw_all (w : Nat) (hw : w < 18446744073709551616) : sw3 8 (sw2 8 (sw1 8 w)) = p8 w 0 + 256 * (p8 w 1 + 256 * (p8 w 2 + 256 * (p8 w 3 + 256 * (p8 w 4 + 256 * (p8 w 5 + 256 * (p8 w 6 + 256 * p8 w 7)))))) ∧
    popB 64 w = p8 w 0 + (p8 w 1 + (p8 w 2 + (p8 w 3 + (p8 w 4 + (p8 w 5 + (p8 w 6 + p8 w 7)))))) := by
  have st : ∀ (m w i : Nat), w / 256 ^ i < 256 ^ (m + 1) → sw3 (m + 1) (sw2 (m + 1) (sw1 (m + 1) (w / 256 ^ i))) = p8 w i + 256 * sw3 m (sw2 m (sw1 m (w / 256 ^ (i + 1)))) := by
    intro m w i h
    have e : w / 256 ^ i = w / 256 ^ i % 256 + 256 * (w / 256 ^ (i + 1)) := by rw [Nat.pow_succ, ← Nat.div_div_eq_div_mul]; omega
    have h2 : w / 256 ^ (i + 1) < 256 ^ m := by
      rw [Nat.pow_succ, ← Nat.div_div_eq_div_mul, Nat.div_lt_iff_lt_mul (by decide)]
      rw [Nat.pow_succ] at h; exact h
    conv => lhs; rw [e]
    rw [sw_digit (by omega) h2]; rfl
  have sp : ∀ (m i : Nat), popB (8 + m) (w / 256 ^ i) = p8 w i + popB m (w / 256 ^ (i + 1)) := by
    intro m i
    rw [popB_digit, Nat.pow_succ, ← Nat.div_div_eq_div_mul]; rfl
  have h0 : w = w / 256 ^ 0 := by simp
  have hz : sw3 0 (sw2 0 (sw1 0 (w / 256 ^ 8))) = 0 := by
    rw [Nat.div_eq_of_lt (by simpa using hw)]; decide
  have bd : ∀ i, i ≤ 8 → w / 256 ^ i < 256 ^ (8 - i) := by
    intro i hi
    rw [Nat.div_lt_iff_lt_mul (Nat.pow_pos (by decide)), ← Nat.pow_add, show 8 - i + i = 8 by omega]
    simpa using hw
  constructor
  · conv => lhs; rw [h0]
    rw [st 7 w 0 (bd 0 (by omega)), st 6 w 1 (bd 1 (by omega)), st 5 w 2 (bd 2 (by omega)), st 4 w 3 (bd 3 (by omega)), st 3 w 4 (bd 4 (by omega)), st 2 w 5 (bd 5 (by omega)), st 1 w 6 (bd 6 (by omega)), st 0 w 7 (bd 7 (by omega)), hz]
    omega
  · conv => lhs; rw [h0]
    rw [show (64 : Nat) = 8 + 56 from rfl, sp 56 0, show (56 : Nat) = 8 + 48 from rfl, sp 48 1, show (48 : Nat) = 8 + 40 from rfl, sp 40 2, show (40 : Nat) = 8 + 32 from rfl, sp 32 3, show (32 : Nat) = 8 + 24 from rfl, sp 24 4, show (24 : Nat) = 8 + 16 from rfl, sp 16 5,
      show (16 : Nat) = 8 + 8 from rfl, sp 8 6, show (8 : Nat) = 8 + 0 from rfl, sp 0 7]
    rfl
theorem ones_p (w : Nat) (hw : w < 18446744073709551616) (H : Heap) : Pure Try.prog 93 #[.int .u64 (w : Int)] H (.int .i64 (popB 64 w : Int)) := by
  obtain ⟨hs, hp⟩ := sw_all w hw
  have b0 := pc8_le (w / 256 ^ 0 % 256) (by omega)
  have b1 := pc8_le (w / 256 ^ 1 % 256) (by omega)
  have b2 := pc8_le (w / 256 ^ 2 % 256) (by omega)
  have b3 := pc8_le (w / 256 ^ 3 % 256) (by omega)
  have b4 := pc8_le (w / 256 ^ 4 % 256) (by omega)
  have b5 := pc8_le (w / 256 ^ 5 % 256) (by omega)
  have b6 := pc8_le (w / 256 ^ 6 % 256) (by omega)
  have b7 := pc8_le (w / 256 ^ 7 % 256) (by omega)
  change p8 w 0 ≤ 8 at b0; change p8 w 1 ≤ 8 at b1; change p8 w 2 ≤ 8 at b2; change p8 w 3 ≤ 8 at b3; change p8 w 4 ≤ 8 at b4; change p8 w 5 ≤ 8 at b5; change p8 w 6 ≤ 8 at b6; change p8 w 7 ≤ 8 at b7
  have m1 : mk_ 85 8 = 6148914691236517205 := by decide
  have m2 : mk_ 51 8 = 3689348814741910323 := by decide
  have m3 : mk_ 15 8 = 1085102592571150095 := by decide
  have i1 : inK .u64 ((6148914691236517205 : Nat) : Int) := inU64 (by decide)
  have i2 : inK .u64 ((3689348814741910323 : Nat) : Int) := inU64 (by decide)
  have i3 : inK .u64 ((1085102592571150095 : Nat) : Int) := inU64 (by decide)
  refine FnOk.of_vc Try.func93 rfl (Try.call93 _) ?_
  have l1 : ((w / 2 ^ 1) &&& 6148914691236517205) + (w &&& 6148914691236517205) < 18446744073709551616 := by
    have := Nat.and_le_right (n := w / 2 ^ 1) (m := 6148914691236517205)
    have := Nat.and_le_right (n := w) (m := 6148914691236517205)
    omega
  (conv => whnf); refine vshr (a := w) (b := 1) (by decide) ?_
  (conv => whnf); refine vand (a := w / 2 ^ 1) (b := 6148914691236517205) (inU64 (by omega)) i1 ?_
  (conv => whnf); refine vand (a := w) (b := 6148914691236517205) (inU64 hw) i1 ?_
  (conv => whnf); rw [wu_add l1]
  have e1 : ((w / 2 ^ 1) &&& 6148914691236517205) + (w &&& 6148914691236517205) = sw1 8 w := by unfold sw1; rw [m1]
  rw [e1] at l1 ⊢
  generalize sw1 8 w = x1 at *
  have l2 : ((x1 / 2 ^ 2) &&& 3689348814741910323) + (x1 &&& 3689348814741910323) < 18446744073709551616 := by
    have := Nat.and_le_right (n := x1 / 2 ^ 2) (m := 3689348814741910323)
    have := Nat.and_le_right (n := x1) (m := 3689348814741910323)
    omega
  (conv => whnf); refine vshr (a := x1) (b := 2) (by decide) ?_
  (conv => whnf); refine vand (a := x1 / 2 ^ 2) (b := 3689348814741910323) (inU64 (by omega)) i2 ?_
  (conv => whnf); refine vand (a := x1) (b := 3689348814741910323) (inU64 l1) i2 ?_
  (conv => whnf); rw [wu_add l2]
  have e2 : ((x1 / 2 ^ 2) &&& 3689348814741910323) + (x1 &&& 3689348814741910323) = sw2 8 x1 := by unfold sw2; rw [m2]
  have l2' : ((x1 / 2 ^ 2) &&& 3689348814741910323) + (x1 &&& 3689348814741910323) ≤ 7378697629483820646 := by
    have := Nat.and_le_right (n := x1 / 2 ^ 2) (m := 3689348814741910323)
    have := Nat.and_le_right (n := x1) (m := 3689348814741910323)
    omega
  rw [e2] at l2 l2' ⊢
  generalize sw2 8 x1 = x2 at *
  (conv => whnf); refine vshr (a := x2) (b := 4) (by decide) ?_
  (conv => whnf); rw [wu_add (x := x2 / 2 ^ 4) (y := x2) (by omega)]
  (conv => whnf); refine vand (a := x2 / 2 ^ 4 + x2) (b := 1085102592571150095) (inU64 (by omega)) i3 ?_
  have e3 : ((x2 / 2 ^ 4 + x2) &&& 1085102592571150095) = sw3 8 x2 := by unfold sw3; rw [m3]
  rw [e3]
  generalize sw3 8 x2 = x3 at *
  generalize p8 w 0 = q0 at *
  generalize p8 w 1 = q1 at *
  generalize p8 w 2 = q2 at *
  generalize p8 w 3 = q3 at *
  generalize p8 w 4 = q4 at *
  generalize p8 w 5 = q5 at *
  generalize p8 w 6 = q6 at *
  generalize p8 w 7 = q7 at *
  have lx : x3 < 1152921504606846976 := by omega
  (conv => whnf); refine vshr (a := x3) (b := 8) (by decide) ?_
  (conv => whnf); rw [wu_add (x := x3) (y := x3 / 2 ^ 8) (by omega)]
  (conv => whnf); refine vshr (a := x3 + x3 / 2 ^ 8) (b := 16) (by decide) ?_
  (conv => whnf); rw [wu_add (x := x3 + x3 / 2 ^ 8) (y := (x3 + x3 / 2 ^ 8) / 2 ^ 16) (by omega)]
  obtain ⟨y, hy⟩ : ∃ y, y = x3 + x3 / 2 ^ 8 := ⟨_, rfl⟩
  rw [← hy]
  obtain ⟨z, hz⟩ : ∃ z, z = y + y / 2 ^ 16 := ⟨_, rfl⟩
  rw [← hz]
  (conv => whnf); refine vshr (a := z) (b := 32) (by decide) ?_
  (conv => whnf); rw [wu_add (x := z) (y := z / 2 ^ 32) (by omega)]
  obtain ⟨u, hu⟩ : ∃ u, u = z + z / 2 ^ 32 := ⟨_, rfl⟩
  rw [← hu]
  (conv => whnf); rw [wi_nat (n := u) (by omega)]
  (conv => whnf); refine vand (a := u) (b := 127) (inI64 (by omega)) (inI64 (by decide)) ?_
  (conv => whnf)
  have hand : (u &&& 127) = popB 64 w := by
    rw [show (127 : Nat) = 2 ^ 7 - 1 by decide, Nat.and_two_pow_sub_one_eq_mod, hp]
    have k1 : x3 / 2 ^ 8 = q1 + 256 * (q2 + 256 * (q3 + 256 * (q4 + 256 * (q5 + 256 * (q6 + 256 * q7))))) := by omega
    have k2 : y / 2 ^ 16 = (q2 + q3) + 256 * ((q3 + q4) + 256 * ((q4 + q5) + 256 * ((q5 + q6) + 256 * ((q6 + q7) + 256 * q7)))) := by rw [hy, k1, hs]; clear hu hz hy k1 hs; omega
    have k3 : z / 2 ^ 32 = (q4 + q5 + q6 + q7) + 256 * ((q5 + q6 + q7) + 256 * ((q6 + q7) + 256 * q7)) := by rw [hz, k2, hy, k1, hs]; clear hu hz hy k1 k2 hs; omega
    rw [hu, k3, hz, k2, hy, k1, hs]
    clear hu hz hy k1 k2 k3 hs
    omega
  rw [hand]
  exact ⟨rfl, Agr.refl _ _⟩

def countM (s : BitVec 256) : Nat := ((List.range 256).filter fun b => s.getLsbD b).length
theorem count_words (s : BitVec 256) : countM s = popB 64 (wd s 0) + (popB 64 (wd s 1) + (popB 64 (wd s 2) + popB 64 (wd s 3))) := by
  have one : ∀ i m, ((List.range (64 + m)).filter fun j => s.getLsbD (64 * i + j)).length = popB 64 (wd s i) + ((List.range m).filter fun j => s.getLsbD (64 * (i + 1) + j)).length := by
    intro i m
    rw [List.range_add, List.filter_append, List.length_append, List.filter_map, List.length_map]
    congr 1
    · unfold popB
      congr 1
      refine List.filter_congr fun j hj => ?_
      rw [List.mem_range] at hj
      rw [wd_bit s i j hj]
    · congr 1
      refine List.filter_congr fun j _ => ?_
      simp only [Function.comp]
      rw [show 64 * i + (64 + j) = 64 * (i + 1) + j by omega]
  have h0 : countM s = ((List.range (64 + 192)).filter fun j => s.getLsbD (64 * 0 + j)).length := by
    unfold countM
    simp only [Nat.mul_zero, Nat.zero_add, Nat.reduceAdd]
  rw [h0, one 0 192, show (192 : Nat) = 64 + 128 from rfl, one 1 128, show (128 : Nat) = 64 + 64 from rfl, one 2 64, show (64 : Nat) = 64 + 0 from rfl, one 3 0]
  first | done | rfl
theorem popB_le (m w : Nat) : popB m w ≤ m := by
  unfold popB
  exact Nat.le_trans (List.length_filter_le _ _) (by simp)
theorem count_le (s : BitVec 256) : countM s ≤ 256 := by
  unfold countM
  exact Nat.le_trans (List.length_filter_le _ _) (by simp)
def cntTo4 (s : BitVec 256) : Nat → Nat
  | 0 => 0
  | i + 1 => cntTo4 s i + popB 64 (wd s i)
theorem cntTo4_le (s : BitVec 256) : ∀ i, cntTo4 s i ≤ 64 * i
  | 0 => Nat.le_refl _
  | i + 1 => by have := cntTo4_le s i; have := popB_le 64 (wd s i); simp only [cntTo4]; omega
theorem count_p (s : BitVec 256) (H : Heap) : Pure Try.prog 75 #[setV s] H (.int .i64 (countM s : Int)) := by
  refine FnOk.of_vc Try.func75 rfl (Try.call75 _) ?_
  (conv => whnf); refine vbox (setL s) rfl ?_
  intro pb H1 hpb hs1 hb1 ha1
  have hA1 : Agr (Old H) H H1 := ha1.mono fun j hj => by unfold Old at hj; omega
  (conv => whnf); refine ldN (cs := setL s) ag78 (hb1.cells fun j v hv => by rw [Nat.zero_add]; exact hv) trivial ?_
  (conv => whnf)
  refine VLoop.mk [3, 7] (fun i : Nat => [.int .i64 (cntTo4 s i : Int), .int .i64 i]) (fun i H2 => i ≤ 4 ∧ Agr (Old H) H H2) (fun i _ => 4 - i) ?_ ?_
  · (conv => whnf); exact ⟨0, rfl, by omega, hA1⟩
  · rintro i H2 junk ⟨hi, ha2⟩
    (conv => whnf); refine VIte.mk (fun h => ?_) (fun h => ?_) <;> simp only [decide_eq_true_eq, decide_eq_false_iff_not] at h
    · have hget : (setL s)[i]? = some (.int .u64 (wd s i)) := by
        have : i = 0 ∨ i = 1 ∨ i = 2 ∨ i = 3 := by omega
        rcases this with rfl | rfl | rfl | rfl <;> rfl
      have hle := cntTo4_le s i
      have hpl := popB_le 64 (wd s i)
      (conv => whnf); refine ixv1 (v := .int .u64 (wd s i)) ar78 ct76 (by omega) (by omega) (by rw [Int.toNat_natCast, Nat.mul_one]; simpa using hget) ?_
      (conv => whnf); refine pures (ones_p (wd s i) (wd_lt s i) H2) fun H3 ha3 => ?_
      (conv => whnf); rw [w64 (x := (cntTo4 s i : Int) + (popB 64 (wd s i) : Int)) (by omega) (by omega)]
      (conv => whnf); rw [w64 (x := (i : Int) + 1) (by omega) (by omega)]
      exact ⟨rfl, i + 1, by simp [cntTo4], ⟨by omega, ha2.trans (ha3.mono fun k hk => old_lt ha2 hk)⟩, by omega⟩
    · obtain rfl : i = 4 := by omega
      (conv => whnf)
      refine ⟨?_, ha2⟩
      rw [count_words]
      simp only [cntTo4]
      congr 2
      omega

/-! ### the least byte -/
def nextM (s : BitVec 256) (n : Nat) : Nat × Bool := match (List.range 256).find? fun b => decide (n ≤ b) && s.getLsbD b with
  | some b => (b, true)
  | none => (0, false)
theorem nextM_lt (s : BitVec 256) (n : Nat) : (nextM s n).1 < 256 := by
  unfold nextM
  split
  · rename_i b h
    have := List.mem_of_find?_eq_some h
    simpa using this
  · decide
theorem next_p (s : BitVec 256) (n : Nat) (hn : n ≤ 256) (H : Heap) : Pure Try.prog 51 #[setV s, .int .i64 n] H (.tuple #[.int .u8 ((nextM s n).1 : Int), .bool (nextM s n).2]) := by
  refine FnOk.of_vc Try.func51 rfl (Try.call51 _) ?_
  (conv => whnf); refine vbox (setL s) rfl ?_
  intro pb H1 hpb hs1 hb1 ha1
  have st1 := (St.nil H).box hpb hs1 hb1 ha1
  (conv => whnf); refine vmax_ ?_
  rw [if_neg (by omega)]
  (conv => whnf)
  refine VLoop.mk [4, 5, 6] (fun k : Nat => [.int .u8 0, .bool false, .int .i64 k]) (fun k H2 => n ≤ k ∧ k ≤ 256 ∧ (∀ j, n ≤ j → j < k → s.getLsbD j = false) ∧ St H H2 [pB 78 pb (setL s)]) (fun k _ => 256 - k) ?_ ?_
  · (conv => whnf); exact ⟨n, rfl, Nat.le_refl _, hn, fun j h1 h2 => by omega, st1⟩
  · rintro k H2 junk ⟨hnk, hk, hno, st⟩
    (conv => whnf); refine VIte.mk (fun h => ?_) (fun h => ?_) <;> simp only [decide_eq_true_eq, decide_eq_false_iff_not] at h
    · have hk8 : k < 256 := by omega
      (conv => whnf); refine ldN (cs := setL s) ag78 ((st.blk 0 rfl).cells fun j v hv => by rw [Nat.zero_add]; exact hv) trivial ?_
      (conv => whnf); rw [w8 (x := (k : Int)) (by omega) (by omega)]
      (conv => whnf); refine pures (has_c s k hk8 H2) fun H3 ha3 => ?_
      have st3 := st.call ha3
      cases hb : s.getLsbD k with
      | true =>
        (conv => whnf); rw [w8 (x := (k : Int)) (by omega) (by omega)]
        (conv => whnf)
        have hf : ((List.range 256).find? fun b => decide (n ≤ b) && s.getLsbD b) = some k := by
          rw [List.find?_range_eq_some]
          refine ⟨by simp [hnk, hb], by simpa using hk8, fun j hj => ?_⟩
          by_cases hnj : n ≤ j
          · simp [hno j hnj hj]
          · simp [hnj]
        refine ⟨?_, st3.old⟩
        unfold nextM
        rw [hf]; first | done | rfl
      | false =>
        (conv => whnf); rw [w64 (x := (k : Int) + 1) (by omega) (by omega)]
        refine ⟨rfl, k + 1, by simp, ⟨by omega, by omega, fun j h1 h2 => ?_, st3⟩, by omega⟩
        by_cases hjk : j = k
        · subst hjk; exact hb
        · exact hno j h1 (by omega)
    · obtain rfl : k = 256 := by omega
      (conv => whnf)
      have hf : ((List.range 256).find? fun b => decide (n ≤ b) && s.getLsbD b) = none := by
        rw [List.find?_range_eq_none]
        intro j hj
        by_cases hnj : n ≤ j
        · simp [hno j hnj (by simpa using hj)]
        · simp [hnj]
      refine ⟨?_, st.old⟩
      unfold nextM
      rw [hf]; first | done | rfl
end Go.Proofs.Ytkgmhkcncemmkaa
