/- Parts of the proof: PBits, PSound, PMerge, PWake, PNew, PAuto, PLaw5, PCellO, PAtm, PDet3 -/
import Derived.Test.YtfbghcpdinlmcaaGreatDoorKLq2
import Derived.Test.YtfbghcpdinlmcaaGreatDoorKLq1
/- class.Next, class.Count; words of bits. -/
set_option linter.unusedVariables false
set_option linter.unusedSimpArgs false
set_option maxRecDepth 100000
namespace Go.VC
theorem vmax_ {P : Program} {ats : Array TypeId} {t : TypeId} {k k' : IntKind} {a b : Int} {S : Nat → Prop} {H : Heap} {K : Value → Prop} (h : K (.int k (if a < b then b else a))) : VDet P (Builtin.max_ ats t [.int k a, .int k' b].toArray) S H K := by
  refine VDet.mk _ (fun w _ => ?_) h
  simp [Builtin.max_, Builtin.max2]
theorem wu_mod (n : Nat) : IntKind.wrap .u64 (n : Int) = ((n % 18446744073709551616 : Nat) : Int) := by
  unfold IntKind.wrap
  simp only [IntKind.bits, IntKind.signed, Bool.false_and, Bool.false_eq_true, if_false, Nat.reducePow, Int.reducePow]
  omega
theorem wu_add {x y : Nat} (h : x + y < 18446744073709551616) : IntKind.wrap .u64 ((x : Int) + (y : Int)) = ((x + y : Nat) : Int) := by
  rw [← Int.natCast_add, wu_mod, Nat.mod_eq_of_lt h]
theorem wi_nat {n : Nat} (h : n < 9223372036854775808) : IntKind.wrap .i64 (n : Int) = (n : Int) := w64 (by omega) (by omega)
end Go.VC
namespace Go.Proofs.YtfbghcpdinlmcaaGreatDoor
open Go.VC

/-! ### counting bits -/
theorem and_digit {a c x y : Nat} (ha : a < 256) (hc : c < 256) : (a + 256 * x) &&& (c + 256 * y) = (a &&& c) + 256 * (x &&& y) := by
  have h1 : ((a + 256 * x) &&& (c + 256 * y)) % 2 ^ 8 = (a &&& c) := by rw [Nat.and_mod_two_pow, show (a + 256 * x) % 2 ^ 8 = a by omega, show (c + 256 * y) % 2 ^ 8 = c by omega]
  have h2 : ((a + 256 * x) &&& (c + 256 * y)) / 2 ^ 8 = (x &&& y) := by rw [Nat.and_div_two_pow, show (a + 256 * x) / 2 ^ 8 = x by omega, show (c + 256 * y) / 2 ^ 8 = y by omega]
  omega
def mk_ (c : Nat) : Nat → Nat
  | 0 => 0
  | m + 1 => c + 256 * mk_ c m
theorem mk_succ (c m : Nat) : mk_ c (m + 1) = c + 256 * mk_ c m := rfl
def sw1 (m w : Nat) : Nat := ((w / 2) &&& mk_ 85 m) + (w &&& mk_ 85 m)
def sw2 (m w : Nat) : Nat := ((w / 4) &&& mk_ 51 m) + (w &&& mk_ 51 m)
def sw3 (m w : Nat) : Nat := (w / 16 + w) &&& mk_ 15 m
def pc8 (a : Nat) : Nat := ((List.range 8).filter fun j => a.testBit j).length
def popB (m w : Nat) : Nat := ((List.range m).filter fun j => w.testBit j).length
def g1 (a : Nat) : Nat := ((a / 2) &&& 85) + (a &&& 85)
def g2 (a : Nat) : Nat := ((a / 4) &&& 51) + (a &&& 51)
theorem g1_lt : ∀ a, a < 256 → g1 a < 256 := by decide +kernel
theorem g1_hi : ∀ a, a < 256 → ∀ r, r < 2 → ((a / 2 + 128 * r) &&& 85) = ((a / 2) &&& 85) := by decide +kernel
theorem g2_hi : ∀ a, a < 256 → ∀ r, r < 4 → ((a / 4 + 64 * r) &&& 51) = ((a / 4) &&& 51) := by decide +kernel
theorem g2_lt : ∀ a, a < 256 → g2 a < 256 ∧ (g2 (g1 a)) % 16 ≤ 4 ∧ g2 (g1 a) / 16 ≤ 4 := by decide +kernel
theorem g3_eq : ∀ a, a < 256 → ∀ r, r < 5 → ((g2 (g1 a) / 16 + 16 * r + g2 (g1 a)) &&& 15) = pc8 a := by decide +kernel
theorem pc8_le : ∀ a, a < 256 → pc8 a ≤ 8 := by decide +kernel
theorem sw1_digit {m a b : Nat} (ha : a < 256) : sw1 (m + 1) (a + 256 * b) = g1 a + 256 * sw1 m b := by
  unfold sw1
  rw [mk_succ]
  have e : (a + 256 * b) / 2 = (a / 2 + 128 * (b % 2)) + 256 * (b / 2) := by omega
  rw [e, and_digit (by omega) (by decide), and_digit ha (by decide), g1_hi a ha _ (by omega)]
  unfold g1; omega
theorem sw2_digit {m a b : Nat} (ha : a < 256) : sw2 (m + 1) (a + 256 * b) = g2 a + 256 * sw2 m b := by
  unfold sw2
  rw [mk_succ]
  have e : (a + 256 * b) / 4 = (a / 4 + 64 * (b % 4)) + 256 * (b / 4) := by omega
  rw [e, and_digit (by omega) (by decide), and_digit ha (by decide), g2_hi a ha _ (by omega)]
  unfold g2; omega
theorem sw_low (m b : Nat) (hb : b < 256 ^ m) : sw2 m (sw1 m b) % 16 ≤ 4 := by
  cases m with
  | zero =>
    obtain rfl : b = 0 := by simp at hb; omega
    decide
  | succ m =>
    have e : b = b % 256 + 256 * (b / 256) := by omega
    rw [e, sw1_digit (by omega), sw2_digit (g1_lt _ (by omega))]
    have := (g2_lt (b % 256) (by omega)).2.1
    omega
theorem sw_digit {m a b : Nat} (ha : a < 256) (hb : b < 256 ^ m) : sw3 (m + 1) (sw2 (m + 1) (sw1 (m + 1) (a + 256 * b))) = pc8 a + 256 * sw3 m (sw2 m (sw1 m b)) := by
  rw [sw1_digit ha, sw2_digit (g1_lt a ha)]
  have hl := sw_low m b hb
  have hg := g2_lt a ha
  generalize sw2 m (sw1 m b) = x at *
  unfold sw3
  rw [mk_succ]
  have e : (g2 (g1 a) + 256 * x) / 16 + (g2 (g1 a) + 256 * x) = (g2 (g1 a) / 16 + 16 * (x % 16) + g2 (g1 a)) + 256 * (x / 16 + x) := by omega
  rw [e, and_digit (by omega) (by decide), g3_eq a ha _ (by omega)]
theorem popB_digit (m w : Nat) : popB (8 + m) w = pc8 (w % 256) + popB m (w / 256) := by
  unfold popB pc8
  rw [List.range_add, List.filter_append, List.length_append, List.filter_map, List.length_map]
  congr 1
  · congr 1
    refine List.filter_congr fun j hj => ?_
    rw [List.mem_range] at hj
    rw [show (256 : Nat) = 2 ^ 8 from rfl, Nat.testBit_mod_two_pow]
    simp [hj]
  · congr 1
    refine List.filter_congr fun j _ => ?_
    simp only [Function.comp]
    rw [show (256 : Nat) = 2 ^ 8 from rfl, Nat.testBit_div_two_pow, Nat.add_comm]
def p8 (w i : Nat) : Nat := pc8 (w / 256 ^ i % 256)
theorem sw_all (w : Nat) (hw : w < 18446744073709551616) : sw3 8 (sw2 8 (sw1 8 w)) = p8 w 0 + 256 * (p8 w 1 + 256 * (p8 w 2 + 256 * (p8 w 3 + 256 * (p8 w 4 + 256 * (p8 w 5 + 256 * (p8 w 6 + 256 * p8 w 7)))))) ∧
    popB 64 w = p8 w 0 + (p8 w 1 + (p8 w 2 + (p8 w 3 + (p8 w 4 + (p8 w 5 + (p8 w 6 + p8 w 7)))))) := by
  have st : ∀ (m w i : Nat), w / 256 ^ i < 256 ^ (m + 1) → sw3 (m + 1) (sw2 (m + 1) (sw1 (m + 1) (w / 256 ^ i))) = p8 w i + 256 * sw3 m (sw2 m (sw1 m (w / 256 ^ (i + 1)))) := by
    intro m w i h
    have e : w / 256 ^ i = w / 256 ^ i % 256 + 256 * (w / 256 ^ (i + 1)) := by rw [Nat.pow_succ, ← Nat.div_div_eq_div_mul]; omega
    have h2 : w / 256 ^ (i + 1) < 256 ^ m := by
      rw [Nat.pow_succ, ← Nat.div_div_eq_div_mul, Nat.div_lt_iff_lt_mul (by decide)]
      rw [Nat.pow_succ] at h; exact h
    conv => lhs; rw [e]
    rw [sw_digit (by omega) h2]; rfl
  have sp : ∀ (m i : Nat), popB (8 + m) (w / 256 ^ i) = p8 w i + popB m (w / 256 ^ (i + 1)) := by
    intro m i
    rw [popB_digit, Nat.pow_succ, ← Nat.div_div_eq_div_mul]; rfl
  have h0 : w = w / 256 ^ 0 := by simp
  have hz : sw3 0 (sw2 0 (sw1 0 (w / 256 ^ 8))) = 0 := by
    rw [Nat.div_eq_of_lt (by simpa using hw)]; decide
  have bd : ∀ i, i ≤ 8 → w / 256 ^ i < 256 ^ (8 - i) := by
    intro i hi
    rw [Nat.div_lt_iff_lt_mul (Nat.pow_pos (by decide)), ← Nat.pow_add, show 8 - i + i = 8 by omega]
    simpa using hw
  constructor
  · conv => lhs; rw [h0]
    rw [st 7 w 0 (bd 0 (by omega)), st 6 w 1 (bd 1 (by omega)), st 5 w 2 (bd 2 (by omega)), st 4 w 3 (bd 3 (by omega)), st 3 w 4 (bd 4 (by omega)), st 2 w 5 (bd 5 (by omega)), st 1 w 6 (bd 6 (by omega)), st 0 w 7 (bd 7 (by omega)), hz]
    omega
  · conv => lhs; rw [h0]
    rw [show (64 : Nat) = 8 + 56 from rfl, sp 56 0, show (56 : Nat) = 8 + 48 from rfl, sp 48 1, show (48 : Nat) = 8 + 40 from rfl, sp 40 2, show (40 : Nat) = 8 + 32 from rfl, sp 32 3, show (32 : Nat) = 8 + 24 from rfl, sp 24 4, show (24 : Nat) = 8 + 16 from rfl, sp 16 5,
      show (16 : Nat) = 8 + 8 from rfl, sp 8 6, show (8 : Nat) = 8 + 0 from rfl, sp 0 7]
    rfl
theorem ones_p (w : Nat) (hw : w < 18446744073709551616) (H : Heap) : Pure Tryz.prog 209 #[.int .u64 (w : Int)] H (.int .i64 (popB 64 w : Int)) := by
  obtain ⟨hs, hp⟩ := sw_all w hw
  have b0 := pc8_le (w / 256 ^ 0 % 256) (by omega)
  have b1 := pc8_le (w / 256 ^ 1 % 256) (by omega)
  have b2 := pc8_le (w / 256 ^ 2 % 256) (by omega)
  have b3 := pc8_le (w / 256 ^ 3 % 256) (by omega)
  have b4 := pc8_le (w / 256 ^ 4 % 256) (by omega)
  have b5 := pc8_le (w / 256 ^ 5 % 256) (by omega)
  have b6 := pc8_le (w / 256 ^ 6 % 256) (by omega)
  have b7 := pc8_le (w / 256 ^ 7 % 256) (by omega)
  change p8 w 0 ≤ 8 at b0; change p8 w 1 ≤ 8 at b1; change p8 w 2 ≤ 8 at b2; change p8 w 3 ≤ 8 at b3; change p8 w 4 ≤ 8 at b4; change p8 w 5 ≤ 8 at b5; change p8 w 6 ≤ 8 at b6; change p8 w 7 ≤ 8 at b7
  have m1 : mk_ 85 8 = 6148914691236517205 := by decide
  have m2 : mk_ 51 8 = 3689348814741910323 := by decide
  have m3 : mk_ 15 8 = 1085102592571150095 := by decide
  have i1 : inK .u64 ((6148914691236517205 : Nat) : Int) := inU64 (by decide)
  have i2 : inK .u64 ((3689348814741910323 : Nat) : Int) := inU64 (by decide)
  have i3 : inK .u64 ((1085102592571150095 : Nat) : Int) := inU64 (by decide)
  refine FnOk.of_vc Tryz.func209 rfl (Tryz.call209 _) ?_
  have l1 : ((w / 2 ^ 1) &&& 6148914691236517205) + (w &&& 6148914691236517205) < 18446744073709551616 := by
    have := Nat.and_le_right (n := w / 2 ^ 1) (m := 6148914691236517205)
    have := Nat.and_le_right (n := w) (m := 6148914691236517205)
    omega
  (conv => whnf); refine vshr (a := w) (b := 1) (by decide) ?_
  (conv => whnf); refine vand (a := w / 2 ^ 1) (b := 6148914691236517205) (inU64 (by omega)) i1 ?_
  (conv => whnf); refine vand (a := w) (b := 6148914691236517205) (inU64 hw) i1 ?_
  (conv => whnf); rw [wu_add l1]
  have e1 : ((w / 2 ^ 1) &&& 6148914691236517205) + (w &&& 6148914691236517205) = sw1 8 w := by unfold sw1; rw [m1]
  rw [e1] at l1 ⊢
  generalize sw1 8 w = x1 at *
  have l2 : ((x1 / 2 ^ 2) &&& 3689348814741910323) + (x1 &&& 3689348814741910323) < 18446744073709551616 := by
    have := Nat.and_le_right (n := x1 / 2 ^ 2) (m := 3689348814741910323)
    have := Nat.and_le_right (n := x1) (m := 3689348814741910323)
    omega
  (conv => whnf); refine vshr (a := x1) (b := 2) (by decide) ?_
  (conv => whnf); refine vand (a := x1 / 2 ^ 2) (b := 3689348814741910323) (inU64 (by omega)) i2 ?_
  (conv => whnf); refine vand (a := x1) (b := 3689348814741910323) (inU64 l1) i2 ?_
  (conv => whnf); rw [wu_add l2]
  have e2 : ((x1 / 2 ^ 2) &&& 3689348814741910323) + (x1 &&& 3689348814741910323) = sw2 8 x1 := by unfold sw2; rw [m2]
  have l2' : ((x1 / 2 ^ 2) &&& 3689348814741910323) + (x1 &&& 3689348814741910323) ≤ 7378697629483820646 := by
    have := Nat.and_le_right (n := x1 / 2 ^ 2) (m := 3689348814741910323)
    have := Nat.and_le_right (n := x1) (m := 3689348814741910323)
    omega
  rw [e2] at l2 l2' ⊢
  generalize sw2 8 x1 = x2 at *
  (conv => whnf); refine vshr (a := x2) (b := 4) (by decide) ?_
  (conv => whnf); rw [wu_add (x := x2 / 2 ^ 4) (y := x2) (by omega)]
  (conv => whnf); refine vand (a := x2 / 2 ^ 4 + x2) (b := 1085102592571150095) (inU64 (by omega)) i3 ?_
  have e3 : ((x2 / 2 ^ 4 + x2) &&& 1085102592571150095) = sw3 8 x2 := by unfold sw3; rw [m3]
  rw [e3]
  generalize sw3 8 x2 = x3 at *
  generalize p8 w 0 = q0 at *
  generalize p8 w 1 = q1 at *
  generalize p8 w 2 = q2 at *
  generalize p8 w 3 = q3 at *
  generalize p8 w 4 = q4 at *
  generalize p8 w 5 = q5 at *
  generalize p8 w 6 = q6 at *
  generalize p8 w 7 = q7 at *
  have lx : x3 < 1152921504606846976 := by omega
  (conv => whnf); refine vshr (a := x3) (b := 8) (by decide) ?_
  (conv => whnf); rw [wu_add (x := x3) (y := x3 / 2 ^ 8) (by omega)]
  (conv => whnf); refine vshr (a := x3 + x3 / 2 ^ 8) (b := 16) (by decide) ?_
  (conv => whnf); rw [wu_add (x := x3 + x3 / 2 ^ 8) (y := (x3 + x3 / 2 ^ 8) / 2 ^ 16) (by omega)]
  obtain ⟨y, hy⟩ : ∃ y, y = x3 + x3 / 2 ^ 8 := ⟨_, rfl⟩
  rw [← hy]
  obtain ⟨z, hz⟩ : ∃ z, z = y + y / 2 ^ 16 := ⟨_, rfl⟩
  rw [← hz]
  (conv => whnf); refine vshr (a := z) (b := 32) (by decide) ?_
  (conv => whnf); rw [wu_add (x := z) (y := z / 2 ^ 32) (by omega)]
  obtain ⟨u, hu⟩ : ∃ u, u = z + z / 2 ^ 32 := ⟨_, rfl⟩
  rw [← hu]
  (conv => whnf); rw [wi_nat (n := u) (by omega)]
  (conv => whnf); refine vand (a := u) (b := 127) (inI64 (by omega)) (inI64 (by decide)) ?_
  (conv => whnf)
  have hand : (u &&& 127) = popB 64 w := by
    rw [show (127 : Nat) = 2 ^ 7 - 1 by decide, Nat.and_two_pow_sub_one_eq_mod, hp]
    have k1 : x3 / 2 ^ 8 = q1 + 256 * (q2 + 256 * (q3 + 256 * (q4 + 256 * (q5 + 256 * (q6 + 256 * q7))))) := by omega
    have k2 : y / 2 ^ 16 = (q2 + q3) + 256 * ((q3 + q4) + 256 * ((q4 + q5) + 256 * ((q5 + q6) + 256 * ((q6 + q7) + 256 * q7)))) := by rw [hy, k1, hs]; clear hu hz hy k1 hs; omega
    have k3 : z / 2 ^ 32 = (q4 + q5 + q6 + q7) + 256 * ((q5 + q6 + q7) + 256 * ((q6 + q7) + 256 * q7)) := by rw [hz, k2, hy, k1, hs]; clear hu hz hy k1 k2 hs; omega
    rw [hu, k3, hz, k2, hy, k1, hs]
    clear hu hz hy k1 k2 k3 hs
    omega
  rw [hand]
  exact ⟨rfl, Agr.refl _ _⟩

def countM (s : BitVec 256) : Nat := ((List.range 256).filter fun b => s.getLsbD b).length
theorem count_words (s : BitVec 256) : countM s = popB 64 (wd s 0) + (popB 64 (wd s 1) + (popB 64 (wd s 2) + popB 64 (wd s 3))) := by
  have one : ∀ i m, ((List.range (64 + m)).filter fun j => s.getLsbD (64 * i + j)).length = popB 64 (wd s i) + ((List.range m).filter fun j => s.getLsbD (64 * (i + 1) + j)).length := by
    intro i m
    rw [List.range_add, List.filter_append, List.length_append, List.filter_map, List.length_map]
    congr 1
    · unfold popB
      congr 1
      refine List.filter_congr fun j hj => ?_
      rw [List.mem_range] at hj
      rw [wd_bit s i j hj]
    · congr 1
      refine List.filter_congr fun j _ => ?_
      simp only [Function.comp]
      rw [show 64 * i + (64 + j) = 64 * (i + 1) + j by omega]
  have h0 : countM s = ((List.range (64 + 192)).filter fun j => s.getLsbD (64 * 0 + j)).length := by
    unfold countM
    simp only [Nat.mul_zero, Nat.zero_add, Nat.reduceAdd]
  rw [h0, one 0 192, show (192 : Nat) = 64 + 128 from rfl, one 1 128, show (128 : Nat) = 64 + 64 from rfl, one 2 64, show (64 : Nat) = 64 + 0 from rfl, one 3 0]
  first | done | rfl
theorem popB_le (m w : Nat) : popB m w ≤ m := by
  unfold popB
  exact Nat.le_trans (List.length_filter_le _ _) (by simp)
def cntTo4 (s : BitVec 256) : Nat → Nat
  | 0 => 0
  | i + 1 => cntTo4 s i + popB 64 (wd s i)
theorem cntTo4_le (s : BitVec 256) : ∀ i, cntTo4 s i ≤ 64 * i
  | 0 => Nat.le_refl _
  | i + 1 => by have := cntTo4_le s i; have := popB_le 64 (wd s i); simp only [cntTo4]; omega
theorem count_p (s : BitVec 256) (H : Heap) : Pure Tryz.prog 186 #[setV s] H (.int .i64 (countM s : Int)) := by
  refine FnOk.of_vc Tryz.func186 rfl (Tryz.call186 _) ?_
  (conv => whnf); refine vbox (setL s) rfl ?_
  intro pb H1 hpb hs1 hb1 ha1
  have hA1 : Agr (Old H) H H1 := ha1.mono fun j hj => by unfold Old at hj; omega
  (conv => whnf); refine ldN (cs := setL s) ag101 (hb1.cells fun j v hv => by rw [Nat.zero_add]; exact hv) trivial ?_
  (conv => whnf)
  refine VLoop.mk [3, 7] (fun i : Nat => [.int .i64 (cntTo4 s i : Int), .int .i64 i]) (fun i H2 => i ≤ 4 ∧ Agr (Old H) H H2) (fun i _ => 4 - i) ?_ ?_
  · (conv => whnf); exact ⟨0, rfl, by omega, hA1⟩
  · rintro i H2 junk ⟨hi, ha2⟩
    (conv => whnf); refine VIte.mk (fun h => ?_) (fun h => ?_) <;> simp only [decide_eq_true_eq, decide_eq_false_iff_not] at h
    · have hget : (setL s)[i]? = some (.int .u64 (wd s i)) := by
        have : i = 0 ∨ i = 1 ∨ i = 2 ∨ i = 3 := by omega
        rcases this with rfl | rfl | rfl | rfl <;> rfl
      have hle := cntTo4_le s i
      have hpl := popB_le 64 (wd s i)
      (conv => whnf); refine ixv1 (v := .int .u64 (wd s i)) ar101 ct99 (by omega) (by omega) (by rw [Int.toNat_natCast, Nat.mul_one]; simpa using hget) ?_
      (conv => whnf); refine pures (ones_p (wd s i) (wd_lt s i) H2) fun H3 ha3 => ?_
      (conv => whnf); rw [w64 (x := (cntTo4 s i : Int) + (popB 64 (wd s i) : Int)) (by omega) (by omega)]
      (conv => whnf); rw [w64 (x := (i : Int) + 1) (by omega) (by omega)]
      exact ⟨rfl, i + 1, by simp [cntTo4], ⟨by omega, ha2.trans (ha3.mono fun k hk => old_lt ha2 hk)⟩, by omega⟩
    · obtain rfl : i = 4 := by omega
      (conv => whnf)
      refine ⟨?_, ha2⟩
      rw [count_words]
      simp only [cntTo4]
      congr 2
      omega

/-! ### the least byte -/
def nextM (s : BitVec 256) (n : Nat) : Nat × Bool := match (List.range 256).find? fun b => decide (n ≤ b) && s.getLsbD b with
  | some b => (b, true)
  | none => (0, false)
theorem nextM_lt (s : BitVec 256) (n : Nat) : (nextM s n).1 < 256 := by
  unfold nextM
  split
  · rename_i b h
    have := List.mem_of_find?_eq_some h
    simpa using this
  · decide
theorem next_p (s : BitVec 256) (n : Nat) (hn : n ≤ 256) (H : Heap) : Pure Tryz.prog 67 #[setV s, .int .i64 n] H (.tuple #[.int .u8 ((nextM s n).1 : Int), .bool (nextM s n).2]) := by
  refine FnOk.of_vc Tryz.func67 rfl (Tryz.call67 _) ?_
  (conv => whnf); refine vbox (setL s) rfl ?_
  intro pb H1 hpb hs1 hb1 ha1
  have st1 := (St.nil H).box hpb hs1 hb1 ha1
  (conv => whnf); refine vmax_ ?_
  rw [if_neg (by omega)]
  (conv => whnf)
  refine VLoop.mk [4, 5, 6] (fun k : Nat => [.int .u8 0, .bool false, .int .i64 k]) (fun k H2 => n ≤ k ∧ k ≤ 256 ∧ (∀ j, n ≤ j → j < k → s.getLsbD j = false) ∧ St H H2 [pB 101 pb (setL s)]) (fun k _ => 256 - k) ?_ ?_
  · (conv => whnf); exact ⟨n, rfl, Nat.le_refl _, hn, fun j h1 h2 => by omega, st1⟩
  · rintro k H2 junk ⟨hnk, hk, hno, st⟩
    (conv => whnf); refine VIte.mk (fun h => ?_) (fun h => ?_) <;> simp only [decide_eq_true_eq, decide_eq_false_iff_not] at h
    · have hk8 : k < 256 := by omega
      (conv => whnf); refine ldN (cs := setL s) ag101 ((st.blk 0 rfl).cells fun j v hv => by rw [Nat.zero_add]; exact hv) trivial ?_
      (conv => whnf); rw [w8 (x := (k : Int)) (by omega) (by omega)]
      (conv => whnf); refine pures (has_c s k hk8 H2) fun H3 ha3 => ?_
      have st3 := st.call ha3
      cases hb : s.getLsbD k with
      | true =>
        (conv => whnf); rw [w8 (x := (k : Int)) (by omega) (by omega)]
        (conv => whnf)
        have hf : ((List.range 256).find? fun b => decide (n ≤ b) && s.getLsbD b) = some k := by
          rw [List.find?_range_eq_some]
          refine ⟨by simp [hnk, hb], by simpa using hk8, fun j hj => ?_⟩
          by_cases hnj : n ≤ j
          · simp [hno j hnj hj]
          · simp [hnj]
        refine ⟨?_, st3.old⟩
        unfold nextM
        rw [hf]; first | done | rfl
      | false =>
        (conv => whnf); rw [w64 (x := (k : Int) + 1) (by omega) (by omega)]
        refine ⟨rfl, k + 1, by simp, ⟨by omega, by omega, fun j h1 h2 => ?_, st3⟩, by omega⟩
        by_cases hjk : j = k
        · subst hjk; exact hb
        · exact hno j h1 (by omega)
    · obtain rfl : k = 256 := by omega
      (conv => whnf)
      have hf : ((List.range 256).find? fun b => decide (n ≤ b) && s.getLsbD b) = none := by
        rw [List.find?_range_eq_none]
        intro j hj
        by_cases hnj : n ≤ j
        · simp [hno j hnj (by simpa using hj)]
        · simp [hnj]
      refine ⟨?_, st.old⟩
      unfold nextM
      rw [hf]; first | done | rfl
end Go.Proofs.YtfbghcpdinlmcaaGreatDoor
/- What dfa.sound and dfa.alike compute. -/
set_option linter.unusedVariables false
set_option linter.unusedSimpArgs false
set_option maxRecDepth 100000
namespace Go.Proofs.YtfbghcpdinlmcaaGreatDoor
open Go.VC

abbrev tI : Ty Int := tInt .i64
abbrev tRows : Ty (List Int) := tSl tI

theorem sound_p (ca na fa : Option Addr) (cc nc fc fl : Nat) (cells : List (BitVec 256)) (next : List (List Int)) (S : Nat → Prop) (H : Heap) (hS : ∀ k, S k → k < H.size)
    (hc : SlD tSet S H ca cc cells) (hn : SlD tRows S H na nc next) (hfl : fl ≤ 9223372036854775807) :
    Pure Tryz.prog 115 #[.slice ca cells.length cc, .slice na next.length nc, .slice fa fl fc] H (.bool (soundB cells next fl)) := by
  have lc := hc.le
  have ln := hn.le
  unfold maxLen at lc ln
  refine FnOk.of_vc Tryz.func115 rfl (Tryz.call115 _) ?_
  (conv => whnf); refine valloc (setV 0) (setL 0) rfl rfl ?_
  intro p H1 hp hs1 hb1 ha1
  (conv => whnf)
  refine VLoop.mk [16] (fun k : Nat => [.int .i64 k]) (fun k H2 => k ≤ cells.length ∧ Agr (Old H) H H2 ∧ p < H2.size ∧ ∃ all, disjGo 0#256 (cells.take k) = some all ∧ Blk H2 p 101 (setL all)) (fun k _ => cells.length - k) ?_ ?_
  · (conv => whnf)
    exact ⟨0, rfl, by omega, ha1.mono (fun k hk => by unfold Old at hk; omega), by omega, 0, rfl, hb1⟩
  · rintro k H2 junk ⟨hk, ha2, hp2, all, hall, hb2⟩
    (conv => whnf)
    refine VIte.mk (fun h => ?_) (fun h => ?_) <;> simp only [decide_eq_true_eq, decide_eq_false_iff_not] at h
    · obtain ⟨c, hck⟩ := get_some (l := cells) (k := k) (by omega)
      (conv => whnf); refine ixr sl106 (hc.frame (ha2.mono hS)) hck rfl ?_
      rintro b o cs hSb hcells rfl
      (conv => whnf); refine ldN (cs := setL c) ag101 hcells trivial ?_
      (conv => whnf); refine valloc (setV 0) (setL 0) rfl rfl ?_
      intro q H3 hq hs3 hb3 ha3
      (conv => whnf); refine stN rfl hb3 (show 0 + 4 ≤ 4 by decide) rfl ?_
      intro H4 hb4 ha4 hs4
      have hb4' : Blk H4 q 101 (setL c) := hb4
      have hb2' : Blk H4 p 101 (setL all) := (hb2.agr ha3 (show p < q by omega)).agr ha4 (show p ≠ q by omega)
      (conv => whnf); refine ldN (cs := setL all) ag101 (hb2'.cells (fun j v hv => by simpa using hv)) trivial ?_
      (conv => whnf); refine ldN (cs := setL c) ag101 (hb4'.cells (fun j v hv => by simpa using hv)) trivial ?_
      (conv => whnf); refine pures (meet_c all c H4) ?_
      intro H5 ha5
      (conv => whnf); refine vbuildA ar101 (setV 0) rfl (setL 0) rfl ?_
      (conv => whnf); refine set_neq (all &&& c) 0#256 ?_
      have hA : Agr (Old H) H H5 := (ha2.trans ((ha3.mono (fun k hk => by unfold Old at hk; omega)).trans (ha4.mono (fun k hk => by unfold Old at hk; omega)))).trans (ha5.mono (fun k hk => by unfold Old at *; omega))
      by_cases hm : all &&& c = 0#256
      · rw [show decide (all &&& c = 0#256) = true by simpa using hm]
        have hb5 := hb2'.agr ha5 (show p < H4.size by omega)
        have hb5' := hb4'.agr ha5 (show q < H4.size by omega)
        (conv => whnf); refine ldN (cs := setL all) ag101 (hb5.cells (fun j v hv => by simpa using hv)) trivial ?_
        (conv => whnf); refine ldN (cs := setL c) ag101 (hb5'.cells (fun j v hv => by simpa using hv)) trivial ?_
        (conv => whnf); refine pures (union_c all c H5) ?_
        intro H6 ha6
        (conv => whnf); refine stN rfl (hb5.agr ha6 hb5.lt) (show 0 + 4 ≤ 4 by decide) rfl ?_
        intro H7 hb7 ha7 hs7
        (conv => whnf); rw [w64 (x := (k : Int) + 1) (by omega) (by omega)]
        have h56 := old_size ha6
        have h45 := old_size ha5
        refine ⟨rfl, k + 1, by simp, ⟨by omega, ?_, by omega, all ||| c, ?_, hb7⟩, by omega⟩
        · exact (hA.trans (ha6.mono (fun k hk => by unfold Old at *; omega))).trans (ha7.mono (fun k hk => by unfold Old at hk; omega))
        · rw [take_succ_snoc hck, disjGo_snoc hall, if_pos hm]
      · rw [show decide (all &&& c = 0#256) = false by simpa using hm]
        (conv => whnf)
        refine ⟨?_, hA⟩
        have : disjGo 0#256 cells = none := by
          rw [← List.take_append_drop (k + 1) cells, disjGo_append, take_succ_snoc hck, disjGo_snoc hall, if_neg hm]; rfl
        simp [soundB, this]
    · have hkc : k = cells.length := by omega
      subst hkc
      rw [List.take_length] at hall
      (conv => whnf)
      refine VDraw.quiet (Old H2) rfl (by kernel_rfl) ?_
      have hOld : ∀ {H' : Heap}, Agr (Old H2) H2 H' → Agr (fun k => k < H.size) H H' := fun h => ha2.trans (h.mono (fun k hk => by unfold Old at *; omega))
      (conv => whnf); refine ldN (cs := setL all) ag101 (hb2.cells (fun j v hv => by simpa using hv)) hp2 ?_
      (conv => whnf); refine pureq (fun H' _ => span_p 0 255 (by decide) (by decide) H') ?_
      (conv => whnf); refine set_neq all (spanS 0 255) ?_
      rw [spanS_full]
      (conv => whnf); refine VIte.mk (fun h1 => ?_) (fun h1 => ?_) <;> simp only [Bool.not_eq_true', Bool.not_eq_false', decide_eq_true_eq, decide_eq_false_iff_not] at h1
      · (conv => whnf); intro H5 ha5
        (conv => whnf); exact ⟨by
          have e : (all == BitVec.allOnes 256) = false := beq_eq_false_iff_ne.2 h1
          rw [soundB, hall]; simp only [e, Bool.false_and], hOld ha5⟩
      (conv => whnf); refine VIte.mk (fun h2 => ?_) (fun h2 => ?_) <;> simp only [decide_eq_true_eq, decide_eq_false_iff_not] at h2
      · (conv => whnf); intro H5 ha5
        (conv => whnf); exact ⟨by simp [soundB, hall, show ¬ 1 ≤ next.length by omega], hOld ha5⟩
      (conv => whnf); refine VIte.mk (fun h3 => ?_) (fun h3 => ?_) <;> simp only [decide_eq_true_eq, decide_eq_false_iff_not] at h3
      · (conv => whnf); intro H5 ha5
        (conv => whnf); exact ⟨by simp [soundB, hall, show ¬ next.length ≤ 65536 by omega], hOld ha5⟩
      (conv => whnf); intro H5 ha5
      (conv => whnf); refine VIte.mk (fun h4 => ?_) (fun h4 => ?_) <;> simp only [bne_iff_ne, ne_eq, bne_eq_false_iff_eq] at h4
      · (conv => whnf); exact ⟨by simp [soundB, hall, show ¬ next.length = fl by omega], hOld ha5⟩
      have h4' : next.length = fl := by omega
      have hsound : soundB cells next fl = next.all (rowOk next.length cells.length) := by
        have e : (all == BitVec.allOnes 256) = true := beq_iff_eq.2 h1
        rw [soundB, hall]
        simp only [e, decide_eq_true (show 1 ≤ next.length by omega), decide_eq_true (show next.length ≤ 65536 by omega), beq_iff_eq.2 h4', Bool.and_self, Bool.true_and]
      rw [hsound]
      have bad : ∀ {k : Nat} {row : List Int}, next[k]? = some row → rowOk next.length cells.length row = false → next.all (rowOk next.length cells.length) = false := by
        intro k row h1 h2
        rw [List.all_eq_false]
        exact ⟨row, List.mem_of_getElem? h1, by simp [h2]⟩
      have hn5 := hn.frame ((hOld ha5).mono hS)
      (conv => whnf)
      refine VLoop.mk [51] (fun k : Nat => [.int .i64 k]) (fun k H' => H' = H5 ∧ k ≤ next.length ∧ (next.take k).all (rowOk next.length cells.length) = true) (fun k _ => next.length - k) ?_ ?_
      · (conv => whnf)
        exact ⟨0, rfl, rfl, by omega, rfl⟩
      · rintro k H6 junk2 ⟨rfl, hk2, hall2⟩
        (conv => whnf)
        refine VIte.mk (fun h => ?_) (fun h => ?_) <;> simp only [decide_eq_true_eq, decide_eq_false_iff_not] at h
        · obtain ⟨row, hrow⟩ := get_some (l := next) (k := k) (by omega)
          (conv => whnf); refine ixr sl35 hn5 hrow rfl ?_
          rintro b o cs hSb hcells ⟨ra, rc, rfl, hr⟩
          have lr := hr.le
          unfold maxLen at lr
          (conv => whnf); refine ld1 ct41 hcells.one trivial ?_
          (conv => whnf); refine VIte.mk (fun h5 => ?_) (fun h5 => ?_) <;> simp only [bne_iff_ne, ne_eq, bne_eq_false_iff_eq] at h5
          · (conv => whnf); exact ⟨by rw [bad hrow (by simp [rowOk]; intro h; omega)], hOld ha5⟩
          (conv => whnf)
          refine VLoop.mk [62] (fun j : Nat => [.int .i64 j]) (fun j H' => H' = H6 ∧ j ≤ row.length ∧ (row.take j).all (fun q => decide (0 ≤ q) && decide (q < (next.length : Int))) = true) (fun j _ => row.length - j) ?_ ?_
          · (conv => whnf)
            exact ⟨0, rfl, rfl, by omega, rfl⟩
          · rintro j H7 junk3 ⟨rfl, hj, hall3⟩
            (conv => whnf)
            refine VIte.mk (fun h => ?_) (fun h => ?_) <;> simp only [decide_eq_true_eq, decide_eq_false_iff_not] at h
            · obtain ⟨q, hq⟩ := get_some (l := row) (k := j) (by omega)
              have badq : ¬ (0 ≤ q ∧ q < (next.length : Int)) → rowOk next.length cells.length row = false := by
                intro hb
                have : (row.all fun q => decide (0 ≤ q) && decide (q < (next.length : Int))) = false := by
                  rw [List.all_eq_false]
                  exact ⟨q, List.mem_of_getElem? hq, by simpa using hb⟩
                simp only [rowOk, this, Bool.and_false]
              (conv => whnf); refine ixr sl41 hr hq rfl ?_
              rintro b2 o2 cs2 hSb2 hcells2 ⟨rfl, hqk⟩
              (conv => whnf); refine ld1 ct3 hcells2.one trivial ?_
              (conv => whnf); refine VIte.mk (fun h6 => ?_) (fun h6 => ?_) <;> simp only [decide_eq_true_eq, decide_eq_false_iff_not] at h6
              · (conv => whnf); exact ⟨by rw [bad hrow (badq (by omega))], hOld ha5⟩
              (conv => whnf); refine VIte.mk (fun h7 => ?_) (fun h7 => ?_) <;> simp only [decide_eq_true_eq, decide_eq_false_iff_not] at h7
              · (conv => whnf); exact ⟨by rw [bad hrow (badq (by omega))], hOld ha5⟩
              (conv => whnf); rw [w64 (x := (j : Int) + 1) (by omega) (by omega)]
              refine ⟨rfl, j + 1, by simp, ⟨rfl, by omega, ?_⟩, by omega⟩
              rw [take_succ_snoc hq, List.all_append, hall3]
              simp; omega
            · have hj' : j = row.length := by omega
              subst hj'
              rw [List.take_length] at hall3
              (conv => whnf); rw [w64 (x := (k : Int) + 1) (by omega) (by omega)]
              refine ⟨rfl, k + 1, by simp, ⟨rfl, by omega, ?_⟩, by omega⟩
              rw [take_succ_snoc hrow, List.all_append, hall2]
              simp only [List.all_cons, List.all_nil, Bool.and_true, Bool.true_and, rowOk, hall3, beq_iff_eq]
              omega
        · have hk' : k = next.length := by omega
          subst hk'
          rw [List.take_length] at hall2
          (conv => whnf); exact ⟨by rw [hall2], hOld ha5⟩

theorem alike_p (na : Option Addr) (nc c d m : Nat) (next : List (List Int)) (S : Nat → Prop) (H : Heap) (hn : SlD tRows S H na nc next) (hm : ∀ row ∈ next, row.length = m) (hc : c < m) (hd : d < m) (hm64 : m ≤ 9223372036854775807) :
    Pure Tryz.prog 163 #[.slice na next.length nc, .int .i64 c, .int .i64 d] H (.bool (alikeB next c d)) := by
  have ln := hn.le
  unfold maxLen at ln
  refine FnOk.of_vc Tryz.func163 rfl (Tryz.call163 _) ?_
  (conv => whnf); refine VIte.mk (fun h => ?_) (fun h => ?_) <;> simp only [beq_iff_eq, beq_eq_false_iff_ne, Int.natCast_inj, ne_eq] at h
  · (conv => whnf); exact ⟨by simp [alikeB, h], Agr.refl _ _⟩
  have hcd : (c == d) = false := by simpa using h
  (conv => whnf)
  refine VLoop.mk [14] (fun k : Nat => [.int .i64 k]) (fun k H' => H' = H ∧ k ≤ next.length ∧ (next.take k).all (fun row => row[c]? == row[d]?) = true) (fun k _ => next.length - k) ?_ ?_
  · (conv => whnf); exact ⟨0, rfl, rfl, by omega, rfl⟩
  · rintro k H1 junk ⟨rfl, hk, hall⟩
    (conv => whnf); refine VIte.mk (fun h => ?_) (fun h => ?_) <;> simp only [decide_eq_true_eq, decide_eq_false_iff_not] at h
    · obtain ⟨row, hrow⟩ := get_some (l := next) (k := k) (by omega)
      have hlen := hm row (List.mem_of_getElem? hrow)
      (conv => whnf); refine ixr sl35 hn hrow rfl ?_
      rintro b o cs hSb hcells ⟨ra, rc, rfl, hr⟩
      (conv => whnf); refine ld1 ct41 hcells.one trivial ?_
      (conv => whnf); refine VDraw.lex rfl (by kernel_rfl) ?_
      obtain ⟨x, hx⟩ := get_some (l := row) (k := c) (by omega)
      obtain ⟨y, hy⟩ := get_some (l := row) (k := d) (by omega)
      (conv => whnf); refine ixr sl41 hr hx rfl ?_
      rintro b2 o2 cs2 hSb2 hcells2 ⟨rfl, hxk⟩
      (conv => whnf); refine ld1 ct3 hcells2.one trivial ?_
      (conv => whnf); refine ixr sl41 hr hy rfl ?_
      rintro b3 o3 cs3 hSb3 hcells3 ⟨rfl, hyk⟩
      (conv => whnf); refine ld1 ct3 hcells3.one trivial ?_
      (conv => whnf); refine VIte.mk (fun h => ?_) (fun h => ?_) <;> simp only [bne_iff_ne, ne_eq, bne_eq_false_iff_eq] at h
      · (conv => whnf)
        refine ⟨?_, Agr.refl _ _⟩
        have : (next.all fun row => row[c]? == row[d]?) = false := by
          rw [List.all_eq_false]
          exact ⟨row, List.mem_of_getElem? hrow, by simp [hx, hy, h]⟩
        simp only [alikeB, hcd, this, Bool.or_false]
      · (conv => whnf); rw [w64 (x := (k : Int) + 1) (by omega) (by omega)]
        refine ⟨rfl, k + 1, by simp, ⟨rfl, by omega, ?_⟩, by omega⟩
        rw [take_succ_snoc hrow, List.all_append, hall]
        simp [hx, hy, h]
    · have hk' : k = next.length := by omega
      subst hk'
      rw [List.take_length] at hall
      (conv => whnf); exact ⟨by simp only [alikeB, hcd, hall, Bool.false_or], Agr.refl _ _⟩

end Go.Proofs.YtfbghcpdinlmcaaGreatDoor
/- What merge makes. -/
set_option linter.unusedVariables false
set_option linter.unusedSimpArgs false
set_option maxRecDepth 100000
namespace Go.Proofs.YtfbghcpdinlmcaaGreatDoor
open Go.VC

/-- The cells of an Auto. -/
def autoL (cv : Value) (cell : List Nat) (nv fv av : Value) : List Value :=
  cv :: (cell.map (fun n : Nat => Value.int .u8 (n : Int)) ++ List.replicate (256 - cell.length) (.int .u8 0)) ++ [nv, fv, av]
section
variable {cv nv fv av x : Value} {cell : List Nat}
theorem autoL_len (h : cell.length ≤ 256) : (autoL cv cell nv fv av).length = 260 := by simp [autoL]; omega
theorem autoL_0 : (autoL cv cell nv fv av)[0]? = some cv := by simp [autoL]
theorem autoL_set0 : (autoL cv cell nv fv av).set 0 x = autoL x cell nv fv av := by simp [autoL]
theorem autoL_get (h : cell.length ≤ 256) (j : Nat) : (autoL cv cell nv fv av)[257 + j]? = [nv, fv, av][j]? := by
  unfold autoL
  rw [List.cons_append, show 257 + j = (256 + j) + 1 by omega, List.getElem?_cons_succ, List.getElem?_append_right (by simp; omega)]
  congr 1
  simp; omega
theorem autoL_257 (h : cell.length ≤ 256) : (autoL cv cell nv fv av)[257]? = some nv := autoL_get h 0
theorem autoL_258 (h : cell.length ≤ 256) : (autoL cv cell nv fv av)[258]? = some fv := autoL_get h 1
theorem autoL_259 (h : cell.length ≤ 256) : (autoL cv cell nv fv av)[259]? = some av := autoL_get h 2
theorem autoL_setn (h : cell.length ≤ 256) (j : Nat) : (autoL cv cell nv fv av).set (257 + j) x = cv :: (cell.map (fun n : Nat => Value.int .u8 (n : Int)) ++ List.replicate (256 - cell.length) (.int .u8 0)) ++ [nv, fv, av].set j x := by
  unfold autoL
  rw [List.cons_append, show 257 + j = (256 + j) + 1 by omega, List.set_cons_succ, List.set_append_right (h := by simp; omega)]
  have e : 256 + j - (List.map (fun n : Nat => Value.int .u8 (n : Int)) cell ++ List.replicate (256 - cell.length) (Value.int .u8 0)).length = j := by simp; omega
  rw [e]; rfl
theorem autoL_set257 (h : cell.length ≤ 256) : (autoL cv cell nv fv av).set 257 x = autoL cv cell x fv av := autoL_setn h 0
theorem autoL_set259 (h : cell.length ≤ 256) : (autoL cv cell nv fv av).set 259 x = autoL cv cell nv fv x := autoL_setn h 2
theorem autoL_cell (h : cell.length < 256) (p : Nat) : (autoL cv cell nv fv av).set (1 + cell.length) (.int .u8 (p : Int)) = autoL cv (cell ++ [p]) nv fv av := by
  unfold autoL
  rw [List.cons_append, show 1 + cell.length = cell.length + 1 by omega, List.set_cons_succ, List.append_assoc, List.set_append_right (h := by simp)]
  have e : cell.length - (List.map (fun n : Nat => Value.int .u8 (n : Int)) cell).length = 0 := by simp
  rw [e, show 256 - cell.length = (256 - (cell.length + 1)) + 1 by omega, List.replicate_succ]
  simp
end

/-- The row that merge makes of a row. -/
def rowOf (cols : List Nat) (row : List Int) : List Int := cols.map fun c => row.getD c 0

set_option maxHeartbeats 4000000 in
theorem merge_c (pb : Nat) (fv av : Value) (ca na : Option Addr) (cc nc : Nat) (cells : List (BitVec 256)) (next : List (List Int)) (fl : Nat) (S : Nat → Prop) (H : Heap) (hS : ∀ k, S k → k < H.size ∧ k ≠ pb)
    (hb : Blk H pb 109 (autoL (.slice none 0 0) [] (.slice none 0 0) fv av)) (hc : SlD tSet S H ca cc cells) (hn : SlD tRows S H na nc next) (hs : soundB cells next fl = true) :
    FnOk Tryz.prog 116 #[.pointer (some ⟨pb, 0, none⟩), .slice ca cells.length cc, .slice na next.length nc] H fun v H' =>
      let st := mRun next cells (fun b => spanS b b) 256
      Agr (fun k => k < H.size ∧ k ≠ pb) H H' ∧ H.size ≤ H'.size ∧ ∃ ac capc an capn, Blk H' pb 109 (autoL (.slice ac st.sets.length capc) st.cell (.slice an next.length capn) fv av) ∧
        SlD tSet (fun k => H.size ≤ k ∧ k < H'.size) H' ac capc st.sets ∧ SlD tRows (fun k => H.size ≤ k ∧ k < H'.size) H' an capn (next.map (rowOf st.cols)) := by
  have lc := hc.le
  have ln := hn.le
  unfold maxLen at lc ln
  obtain ⟨n1, n2, n3, hrows⟩ := soundB_rows hs
  refine FnOk.of_vc Tryz.func116 rfl (Tryz.call116 _) ?_
  have hpb := hb.lt
  generalize hsp : (fun b => spanS b b) = sp
  have hcell : ∀ b, b < 256 → cellOf cells b < cells.length := fun b hb => (soundB_cells hs hb).1
  (conv => whnf); refine vmake1 sl35 rfl (by omega) (by omega) (by omega) (by omega) ?_
  intro nb H1 hnb hs1 hb1 ha1
  (conv => whnf); refine fa fl109_2 ?_
  (conv => whnf); refine st1 ct35 (hb.agr ha1 (show pb < nb by omega)) (by rw [autoL_len (by simp)]; omega) rfl ?_
  intro H2 hb2 ha2 hs2
  rw [Nat.zero_add, autoL_set257 (by simp)] at hb2
  replace hb1 := hb1.agr ha2 (show nb ≠ pb by omega)
  rw [Int.toNat_natCast] at hb1
  have hA2 : Agr (fun k => k < H.size ∧ k ≠ pb) H H2 := (ha1.mono fun k hk => by omega).trans (ha2.mono fun k hk => hk.2)
  (conv => whnf)
  refine VLoop.mk [6, 22] (fun x : Nat × Value => [x.2, .int .i64 x.1]) (fun x H3 => x.1 ≤ 256 ∧ Agr (fun k => k < H.size ∧ k ≠ pb) H H3 ∧ H2.size ≤ H3.size ∧
    SlO tI (fun _ => False) H3 (nb + 1) 3 x.2 ((mRun next cells sp x.1).cols.map Nat.cast) ∧ Blk H3 nb 41 (List.replicate next.length (.slice none 0 0)) ∧
    ∃ cv, SlO tSet (fun _ => False) H3 (nb + 1) 101 cv (mRun next cells sp x.1).sets ∧ (∀ k, slB x.2 k → ¬ slB cv k) ∧
      Blk H3 pb 109 (autoL cv (mRun next cells sp x.1).cell (.slice (some ⟨nb, 0, none⟩) next.length next.length) fv av)) (fun x _ => 256 - x.1) ?_ ?_
  · (conv => whnf)
    exact ⟨(0, _), rfl, by omega, hA2, Nat.le_refl _, SlO.nil, hb1, _, SlO.nil, (by rintro k ⟨o, n, c, h⟩; cases h), hb2⟩
  · rintro ⟨b, v6⟩ H3 junk ⟨hb256, hA3, hs3, hcols, hb3n, cv, hsets, hdis, hb3⟩
    dsimp only at hb256 hcols hsets hdis hb3
    obtain ⟨ac, capc, rfl, -, -⟩ := hcols.view (S' := fun k => slB v6 k) (fun k hk => hk) (fun k hk => hk.elim)
    (conv => whnf); refine VIte.mk (fun h => ?_) (fun h => ?_) <;> simp only [decide_eq_true_eq, decide_eq_false_iff_not] at h
    · have hok := mRun_ok (next := next) (sp := sp) hcell b (by omega)
      generalize hst : mRun next cells sp b = st at *
      obtain ⟨hfb, hfhas⟩ := soundB_cells hs (b := b) (by omega)
      (conv => whnf)
      -- the cell of b
      refine VLoop.mk [8] (fun f : Nat => [.int .i64 f]) (fun f H4 => Agr (Old H3) H3 H4 ∧ f ≤ cellOf cells b) (fun f _ => cells.length - f) ?_ ?_
      · (conv => whnf); exact ⟨0, rfl, Agr.refl _ _, by omega⟩
      · rintro f H4 junk2 ⟨ha4, hf⟩
        have hA4 : Agr (fun k => k < H.size ∧ k ≠ pb) H H4 := hA3.trans (ha4.mono fun k hk => by unfold Old; omega)
        obtain ⟨c, hcf⟩ := get_some (l := cells) (k := f) (by omega)
        (conv => whnf); refine ixr sl106 (hc.frame (hA4.mono fun k hk => hS k hk)) hcf rfl ?_
        rintro b' o cs hSb hcells rfl
        (conv => whnf); refine ldN (cs := setL c) ag101 hcells trivial ?_
        (conv => whnf); rw [w8 (x := (b : Int)) (by omega) (by omega)]
        refine pures (has_c c b (by omega) H4) ?_
        intro H5 ha5
        have hs34 := old_size ha4
        have ha35 : Agr (Old H3) H3 H5 := ha4.trans (ha5.mono fun k hk => by unfold Old at *; omega)
        by_cases hfeq : f = cellOf cells b
        · have hbit : c.getLsbD b = true := hfhas c (hfeq ▸ hcf)
          rw [hbit]
          (conv => whnf)
          subst hfeq
          generalize hfr : cellOf cells b = fr at *
          have hcols5 := hcols.agr ha35 (fun k hk => (hcols.lt hk).2) (fun k hk => hk.elim)
          have hs35 := old_size ha35
          -- the columns
          refine VSeq.cut [9] (fun pl : Option Nat => [.int .i64 (match pl with | none => -1 | some i => (i : Int))]) (fun pl H6 => pl = mFind next st.cols fr ∧ Agr (Old H5) H5 H6) ?_ ?_
          · obtain ⟨ac', capc', he, hview, hblk⟩ := hcols5.view (S' := Old H5) (fun k hk => (hcols5.lt hk).2) (fun k hk => hk.elim)
            cases he
            have hrl : ∀ row ∈ next, row.length = cells.length := fun row hr => (hrows row hr).1
            (conv => whnf)
            refine VLoop.mk [9, 37] (fun k : Nat => [.int .i64 (-1), .int .i64 k]) (fun k H6 => Agr (Old H5) H5 H6 ∧ k ≤ st.cols.length ∧ (st.cols.take k).findIdx? (fun c => alikeB next c fr) = none) (fun k _ => st.cols.length - k) ?_ ?_
            · (conv => whnf); exact ⟨0, rfl, Agr.refl _ _, by omega, rfl⟩
            · rintro k H6 junk3 ⟨ha6, hk, hnone⟩
              have hle := hok.le
              (conv => whnf); rw [List.length_map]; refine VIte.mk (fun h => ?_) (fun h => ?_) <;> simp only [decide_eq_true_eq, decide_eq_false_iff_not] at h
              · obtain ⟨c0, hc0⟩ := get_some (l := st.cols) (k := k) (by omega)
                have hc0m := hok.cols c0 (List.mem_of_getElem? hc0)
                (conv => whnf); refine ixrn (x := (c0 : Int)) sl41 (hview.frame ha6) (by simp) (by simp [hc0]) rfl ?_
                rintro b2 o2 cs2 hSb2 hcells2 ⟨rfl, -⟩
                (conv => whnf); refine ld1 ct3 hcells2.one trivial ?_
                have hn6 : SlD tRows S H6 na nc next := hn.frame ((hA3.trans ((ha35.trans (ha6.mono fun k hk => by unfold Old at *; omega)).mono fun k hk => by unfold Old; omega)).mono fun k hk => hS k hk)
                (conv => whnf); refine pures (alike_p na nc c0 fr cells.length next S H6 hn6 hrl hc0m hfb (by omega)) ?_
                intro H7 ha7
                have hs56 := old_size ha6
                have ha57 : Agr (Old H5) H5 H7 := ha6.trans (ha7.mono fun k hk => by unfold Old at *; omega)
                (conv => whnf); refine VIte.mk (fun h7 => ?_) (fun h7 => ?_)
                · (conv => whnf)
                  refine ⟨rfl, some k, rfl, ?_, ha57⟩
                  unfold mFind
                  rw [← List.take_append_drop k st.cols, List.findIdx?_append, hnone]
                  have : st.cols.drop k = c0 :: st.cols.drop (k + 1) := by
                    rw [List.getElem?_eq_some_iff] at hc0
                    obtain ⟨h1, h2⟩ := hc0
                    rw [List.drop_eq_getElem_cons h1, h2]
                  rw [this, List.findIdx?_cons, h7]
                  simp; omega
                · (conv => whnf); rw [w64 (x := (k : Int) + 1) (by omega) (by omega)]
                  refine ⟨rfl, k + 1, by simp, ⟨ha57, by omega, ?_⟩, by omega⟩
                  rw [take_succ_snoc hc0, List.findIdx?_append, hnone]
                  simp [h7]
              · (conv => whnf)
                refine ⟨rfl, none, rfl, ?_, ha6⟩
                have : k = st.cols.length := by omega
                subst this
                rw [List.take_length] at hnone
                exact hnone.symm
          · rintro pl H6 junk3 ⟨hpl, ha6⟩
            have ha36 : Agr (Old H3) H3 H6 := ha35.trans (ha6.mono fun k hk => by unfold Old at *; omega)
            have hs36 := old_size ha36
            have hcols6 := hcols.agr ha36 (fun k hk => (hcols.lt hk).2) (fun k hk => hk.elim)
            have hsets6 := hsets.agr ha36 (fun k hk => (hsets.lt hk).2) (fun k hk => hk.elim)
            have hb6n := hb3n.agr ha36 hb3n.lt
            have hb6 := hb3.agr ha36 hb3.lt
            have hA6 : Agr (fun k => k < H.size ∧ k ≠ pb) H H6 := hA3.trans (ha36.mono fun k hk => by unfold Old; omega)
            have hcl : st.cell.length ≤ 256 := by rw [hok.cell]; omega
            (conv => whnf)
            refine VSeq.cut [6, 9] (fun x : Value × Nat => [x.1, .int .i64 x.2]) (fun x H7 => Agr (fun k => k < H.size ∧ k ≠ pb) H H7 ∧ H2.size ≤ H7.size ∧ x.2 = (mNew next st.cols st.sets fr).2.2 ∧
              SlO tI (fun _ => False) H7 (nb + 1) 3 x.1 ((mNew next st.cols st.sets fr).1.map Nat.cast) ∧ Blk H7 nb 41 (List.replicate next.length (.slice none 0 0)) ∧
              ∃ cv, SlO tSet (fun _ => False) H7 (nb + 1) 101 cv (mNew next st.cols st.sets fr).2.1 ∧ (∀ k, slB x.1 k → ¬ slB cv k) ∧
                Blk H7 pb 109 (autoL cv st.cell (.slice (some ⟨nb, 0, none⟩) next.length next.length) fv av)) ?_ ?_
            · cases hf : mFind next st.cols fr with
              | some i =>
                rw [hpl, hf]
                have hm : mNew next st.cols st.sets fr = (st.cols, st.sets, i) := by unfold mNew; rw [hf]
                rw [hm]
                (conv => whnf)
                exact ⟨rfl, (_, i), rfl, hA6, by omega, rfl, hcols6, hb6n, cv, hsets6, hdis, hb6⟩
              | none =>
                rw [hpl, hf]
                have hm : mNew next st.cols st.sets fr = (st.cols ++ [fr], st.sets ++ [0#256], st.cols.length) := by unfold mNew; rw [hf]
                rw [hm]
                (conv => whnf); rw [List.length_map]; refine vbuild1 sl41 [.int .i64 (fr : Int)] rfl rfl (by decide) (by decide) ?_
                intro q H7 hq hs7 hb7 ha7
                have hle := hok.le
                have hcols7 := hcols6.agr ha7 (fun k hk => by have := (hcols6.lt hk).2; omega) (fun k hk => hk.elim)
                (conv => whnf); refine vappendO (T := tI) (S := fun _ => False) (ys := [(fr : Int)]) (ds := [.int .i64 (fr : Int)]) (lo := nb + 1) (xs := st.cols.map Nat.cast) sl41 (by simpa using hcols7) (by omega) (fun k hk => hk.elim)
                  (hb7.cells (fun j v hv => by simpa using hv)) (Ty.reps_one ⟨rfl, inI64 (by omega)⟩) rfl (by intro u hu; cases List.mem_singleton.1 hu; rfl) (by simp only [maxLen, List.length_map, List.length_singleton]; omega) (by simp only [List.length_map, List.length_singleton]; omega) ?_
                intro v8 H8 hcols8 ha8 hs8 hfresh8
                have hold8 : ∀ k, k < H6.size → ¬ slB (.slice ac (st.cols.map (Nat.cast : Nat → Int)).length capc) k → H8[k]? = H6[k]? := fun k h1 h2 => by
                  rw [ha8 k ⟨by omega, by simpa using h2⟩, ha7 k (by omega)]
                have hsets8 : SlO tSet (fun _ => False) H8 (nb + 1) 101 cv st.sets := hsets6.agr (S' := fun k => k < H6.size ∧ ¬ slB (.slice ac (st.cols.map (Nat.cast : Nat → Int)).length capc) k) (fun k hk => hold8 k hk.1 hk.2)
                  (fun k hk => ⟨(hsets6.lt hk).2, fun h => hdis k h hk⟩) (fun k hk => hk.elim)
                have hnlt : ∀ k, k ≤ nb → ¬ slB (.slice ac (st.cols.map (Nat.cast : Nat → Int)).length capc) k := fun k hk h => by have := (hcols6.lt h).1; omega
                have hb8n := hb6n.eq (hold8 nb hb6n.lt (hnlt nb (by omega)))
                have hb8 := hb6.eq (hold8 pb hb6.lt (hnlt pb (by omega)))
                (conv => whnf); refine fa fl109_0 ?_
                (conv => whnf); refine ld1 (v := cv) ct106 (by rw [hb8.cell]; exact autoL_0) trivial ?_
                (conv => whnf); refine vbuildA ar101 (setV 0) rfl (setL 0) rfl ?_
                (conv => whnf); refine vbuild1 sl106 (setL 0) rfl rfl (by decide) (by decide) ?_
                intro q2 H9 hq2 hs9 hb9 ha9
                have hlt8 := hb8.lt
                have hlt8n := hb8n.lt
                (conv => whnf); refine vappendO (T := tSet) (S := fun _ => False) (ys := [0#256]) (ds := setL 0) (lo := nb + 1) (xs := st.sets) sl106 (hsets8.agr ha9 (fun k hk => by have := (hsets8.lt hk).2; omega) (fun k hk => hk.elim)) (by omega) (fun k hk => hk.elim)
                  (hb9.cells (fun j v hv => by simpa using hv)) (Ty.reps_one rfl) rfl (by intro u hu; simp only [setL, List.mem_cons, List.not_mem_nil, or_false] at hu; rcases hu with rfl | rfl | rfl | rfl <;> rfl)
                  (by have := hok.len; simp only [maxLen, List.length_singleton]; omega) (by have := hok.len; simp only [List.length_singleton]; omega) ?_
                intro v9 H10 hsets10 ha10 hs10 hfresh10
                have hdcv : ∀ k, k ≤ nb → ¬ slB cv k := fun k hk h => by have := (hsets6.lt h).1; omega
                have hb10 := (hb8.agr ha9 (by omega)).agr ha10 ⟨by omega, hdcv pb (by omega)⟩
                (conv => whnf); refine fa fl109_0 ?_
                (conv => whnf); refine st1 ct106 hb10 (by rw [autoL_len hcl]; omega) hsets10.one ?_
                intro H11 hb11 ha11 hs11
                (conv => whnf)
                have hcols8lt : ∀ k, slB v8 k → k < H8.size ∧ nb + 1 ≤ k := fun k hk => ⟨(hcols8.lt hk).2, (hcols8.lt hk).1⟩
                have hdis8 : ∀ k, slB v8 k → ¬ slB cv k := fun k hk hc => by
                  rcases hfresh8 k hk with h | h
                  · exact hdis k (by simpa using h) hc
                  · have := (hsets6.lt hc).2; omega
                have hcols10 := (hcols8.agr ha9 (fun k hk => by have := hcols8lt k hk; omega) (fun k hk => hk.elim)).agr ha10 (fun k hk => ⟨by have := hcols8lt k hk; omega, hdis8 k hk⟩) (fun k hk => hk.elim)
                have hb10n := (hb8n.agr ha9 (by omega)).agr ha10 ⟨by omega, hdcv nb (by omega)⟩
                refine ⟨rfl, (v8, st.cols.length), rfl, ?_, by omega, rfl, ?_, hb10n.agr ha11 (by omega), v9, hsets10.agr ha11 (fun k hk => by have := (hsets10.lt hk).1; omega) (fun k hk => hk.elim), ?_, ?_⟩
                · intro k hk
                  rw [ha11 k hk.2, ha10 k ⟨by omega, hdcv k (by omega)⟩, ha9 k (by omega), hold8 k (by omega) (hnlt k (by omega)), hA6 k hk]
                · have := hcols10.agr ha11 (fun k hk => by have := hcols8lt k hk; omega) (fun k hk => hk.elim)
                  simpa using this
                · intro k hk hk9
                  rcases hfresh10 k hk9 with h | h
                  · exact hdis8 k hk h
                  · have := hcols8lt k hk; omega
                · rw [Nat.add_zero, autoL_set0] at hb11; exact hb11
            · rintro ⟨v7, p⟩ H7 junk4 ⟨hA7, hs7, hp, hcols7, hb7n, cv7, hsets7, hdis7, hb7⟩
              dsimp only at hp hcols7 hdis7
              have hok2 := mNew_ok (next := next) hok.len hok.le hok.cols hfb
              have hmr : mRun next cells sp (b + 1) = mStep next cells st b (sp b) := by rw [← hst]; rfl
              generalize hr : mNew next st.cols st.sets fr = r at *
              obtain ⟨cols', sets', p'⟩ := r
              dsimp only at hp hcols7 hsets7 hok2
              subst hp
              obtain ⟨h21, h22, h23, h24, h25⟩ := hok2
              have hmr2 : mRun next cells sp (b + 1) = ⟨cols', sets'.set p (sets'.getD p 0#256 ||| sp b), st.cell ++ [p]⟩ := by
                rw [hmr]; unfold mStep; rw [hfr, hr]
              obtain ⟨bq, capq, lq, csq, rfl, hloq, hblkq, hlenq, hgetq, hrepsq, hputq⟩ := hsets7.place (i := p) (by omega)
              have hpb7 := hb7.lt
              (conv => whnf); refine fa fl109_1 ?_
              (conv => whnf); refine ixa ar107 (by omega) (by omega) ?_
              rw [w8 (x := (p : Int)) (by omega) (by omega)]
              (conv => whnf); refine st1 ct5 hb7 (by rw [autoL_len hcl]; omega) rfl ?_
              intro H8 hb8 ha8 hs8
              rw [show 0 + 1 + (b : Int).toNat * 1 = 1 + st.cell.length by rw [hok.cell]; omega, autoL_cell (by rw [hok.cell]; omega)] at hb8
              (conv => whnf)
              refine VDraw.held (Old H8) 19 (sq [0,1,2,3,4,5,6,7,8,9,10,11,12,13,14,15] (.f 16 (.f 17 (sq [18] (.f 19 .e))))) rfl (by kernel_rfl) ?_
              (conv => whnf); refine fa fl109_0 ?_
              (conv => whnf); refine ld1 (v := .slice (some ⟨bq, 0, none⟩) sets'.length capq) ct106 (by rw [hb8.cell]; exact autoL_0) (show pb < H8.size by omega) ?_
              (conv => whnf); refine fa fl109_0 ?_
              (conv => whnf); refine ld1 (v := .slice (some ⟨bq, 0, none⟩) sets'.length capq) ct106 (by rw [hb8.cell]; exact autoL_0) (show pb < H8.size by omega) ?_
              (conv => whnf); refine ix sl106 (by omega) (by omega) ?_
              obtain ⟨x0, hx0⟩ := get_some (l := sets') (k := p) (by omega)
              obtain ⟨c0, hc0, rfl⟩ := hgetq x0 hx0
              have hbqb : bq ≠ pb := by omega
              (conv => whnf); refine ldN (cs := setL x0) ag101 (by rw [Nat.zero_add, Int.toNat_natCast]; exact hc0.eq (ha8 bq hbqb)) (show bq < H8.size by have := hblkq.lt; omega) ?_
              (conv => whnf); rw [w8 (x := (b : Int)) (by omega) (by omega)]
              refine pures (span_p b b (by omega) (by omega) H8) ?_
              intro H9 ha9
              refine ⟨ha9, ?_⟩
              (conv => whnf); refine pures (union_c x0 (spanS b b) H9) ?_
              intro H10 ha10
              have hs89 := old_size ha9
              have ha810 : Agr (Old H8) H8 H10 := ha9.trans (ha10.mono fun k hk => by unfold Old at *; omega)
              refine ⟨ha810, ?_⟩
              (conv => whnf); refine ix sl106 (by omega) (by omega) ?_
              have hs810 := old_size ha810
              have hblk10 := (hblkq.agr ha8 hbqb).agr ha810 (show bq < H8.size by have := hblkq.lt; omega)
              (conv => whnf); refine stN rfl hblk10 (by rw [Nat.zero_add, Int.toNat_natCast]; exact hlenq) rfl ?_
              intro H11 hb11 ha11 hs11
              (conv => whnf); rw [w64 (x := (b : Int) + 1) (by omega) (by omega)]
              have hlt7 : ∀ k, slB v7 k → nb + 1 ≤ k ∧ k < H7.size := fun k hk => hcols7.lt hk
              have hcols11 := ((hcols7.agr ha8 (fun k hk => by have := hlt7 k hk; omega) (fun k hk => hk.elim)).agr ha810 (fun k hk => by have := hlt7 k hk; unfold Old; omega) (fun k hk => hk.elim)).agr ha11
                (fun k hk hkb => by subst hkb; exact hdis7 _ hk ⟨0, _, _, rfl⟩) (fun k hk => hk.elim)
              have hb11n := (((hb7n.agr ha8 (show nb ≠ pb by omega)).agr ha810 (show nb < H8.size by have := hb7n.lt; omega)).agr ha11 (show nb ≠ bq by omega))
              have hb11p := (hb8.agr ha810 (show pb < H8.size by omega)).agr ha11 (show pb ≠ bq from Ne.symm hbqb)
              refine ⟨rfl, (b + 1, v7), by simp, ⟨by omega, ?_, by omega, ?_, hb11n, .slice (some ⟨bq, 0, none⟩) sets'.length capq, ?_, hdis7, ?_⟩, by omega⟩
              · intro k hk
                rw [ha11 k (by omega), ha810 k (by unfold Old; omega), ha8 k hk.2, hA7 k hk]
              · rw [hmr2]; exact hcols11
              · rw [hmr2]
                have hg : sets'.getD p 0#256 = x0 := by rw [List.getD_eq_getElem?_getD, hx0]; rfl
                rw [hg, ← hsp]
                rw [Nat.zero_add, Int.toNat_natCast] at hb11
                have := hputq H11 (setL (x0 ||| spanS b b)) (x0 ||| spanS b b) hb11 (fun k hk => hk.elim) rfl
                exact this
              · rw [hmr2]; exact hb11p
        · have hbit : c.getLsbD b = false := cellOf_before (by omega) hcf
          rw [hbit]
          (conv => whnf); rw [w64 (x := (f : Int) + 1) (by omega) (by omega)]
          exact ⟨rfl, f + 1, by simp, ⟨ha35, by omega⟩, by omega⟩
    · have hb' : b = 256 := by omega
      subst hb'
      have hok := mRun_ok (next := next) (sp := sp) hcell 256 (by omega)
      generalize hst : mRun next cells sp 256 = st at *
      have hlec := hok.le
      have hlen := hok.len
      (conv => whnf)
      refine VLoop.mk [95] (fun q : Nat => [.int .i64 q]) (fun q H4 => q ≤ next.length ∧ Agr (fun k => k < H3.size ∧ k ≠ nb) H3 H4 ∧ H3.size ≤ H4.size ∧ ∃ vs : List Value, vs.length = next.length ∧ Blk H4 nb 41 vs ∧
        (∀ i, q ≤ i → i < next.length → vs[i]? = some (.slice none 0 0)) ∧ ∀ i v row, i < q → vs[i]? = some v → next[i]? = some row → SlO tI (fun _ => False) H4 H3.size 3 v (rowOf st.cols row)) (fun q _ => next.length - q) ?_ ?_
      · (conv => whnf)
        refine ⟨0, rfl, by omega, Agr.refl _ _, Nat.le_refl _, _, by simp, hb3n, fun i _ hi => by simp [hi], fun i v row hi => by omega⟩
      · rintro q H4 junk2 ⟨hq, ha4, hs4, vs, hvl, hb4n, hnil, hdone⟩
        have hnb3 := hb3n.lt
        have hpb3 := hb3.lt
        have hA4 : Agr (fun k => k < H.size ∧ k ≠ pb) H H4 := hA3.trans (ha4.mono fun k hk => by omega)
        (conv => whnf); refine VIte.mk (fun h => ?_) (fun h => ?_) <;> simp only [decide_eq_true_eq, decide_eq_false_iff_not] at h
        · obtain ⟨row, hrow⟩ := get_some (l := next) (k := q) (by omega)
          obtain ⟨hrl, hrq⟩ := hrows row (List.mem_of_getElem? hrow)
          have hn4 := hn.frame (hA4.mono fun k hk => hS k hk)
          (conv => whnf); refine ixr sl35 hn4 hrow rfl ?_
          rintro b2 o2 cs2 hSb2 hcells2 ⟨ra, rc, rfl, hr⟩
          (conv => whnf); refine ld1 ct41 hcells2.one trivial ?_
          (conv => whnf); rw [List.length_map]
          refine VLoop.mk [102] (fun j : Nat => [.int .i64 j]) (fun j H5 => j ≤ st.cols.length ∧ Agr (fun k => k < H4.size ∧ k ≠ nb) H4 H5 ∧ H4.size ≤ H5.size ∧ ∃ vcur, Blk H5 nb 41 (vs.set q vcur) ∧
            SlO tI (fun _ => False) H5 H4.size 3 vcur (rowOf (st.cols.take j) row)) (fun j _ => st.cols.length - j) ?_ ?_
          · (conv => whnf)
            refine ⟨0, rfl, by omega, Agr.refl _ _, Nat.le_refl _, .slice none 0 0, ?_, SlO.nil⟩
            have : vs.set q (.slice none 0 0) = vs := by
              have h1 := hnil q (Nat.le_refl _) (by omega)
              rw [List.getElem?_eq_some_iff] at h1
              obtain ⟨h2, h3⟩ := h1
              rw [← h3]; exact List.set_getElem_self h2
            rw [this]; exact hb4n
          · rintro j H5 junk3 ⟨hj, ha5, hs5, vcur, hb5n, hcur⟩
            have hA35 : Agr (fun k => k < H3.size ∧ k ≠ nb) H3 H5 := ha4.trans (ha5.mono fun k hk => by omega)
            have hb5 := hb3.agr hA35 ⟨hpb3, by omega⟩
            have hcols5 := hcols.agr hA35 (fun k hk => by have := hcols.lt hk; omega) (fun k hk => hk.elim)
            obtain ⟨av5, capv5, he5, hview, hblk⟩ := hcols5.view (S' := fun k => k < H3.size) (fun k hk => (hcols.lt hk).2) (fun k hk => hk.elim)
            cases he5
            (conv => whnf); refine VIte.mk (fun h => ?_) (fun h => ?_) <;> simp only [decide_eq_true_eq, decide_eq_false_iff_not] at h
            · obtain ⟨c0, hc0⟩ := get_some (l := st.cols) (k := j) (by omega)
              have hc0m := hok.cols c0 (List.mem_of_getElem? hc0)
              (conv => whnf); refine ixrn (x := (c0 : Int)) sl41 hview (by simp) (by simp [hc0]) rfl ?_
              rintro b3 o3 cs3 hSb3 hcells3 ⟨rfl, -⟩
              (conv => whnf); refine ld1 ct3 hcells3.one trivial ?_
              obtain ⟨acu, capcu, rfl, -, -⟩ := hcur.view (S' := fun k => slB vcur k) (fun k hk => hk) (fun k hk => hk.elim)
              (conv => whnf)
              refine VDraw.held (fun k => k < H4.size) 19 (sq [0,1,2,3,4,5,6,7,8,9,10,11,12,13,14,15] (.f 16 (.f 17 (sq [18] (.f 19 .e))))) rfl (by kernel_rfl) ?_
              have hb5nq : cell H5 nb (0 + (q : Int).toNat * 1) = some (.slice acu (rowOf (st.cols.take j) row).length capcu) := by
                rw [hb5n.cell, show 0 + (q : Int).toNat * 1 = q by omega, List.getElem?_set_self (by omega)]
              have hr5 := hr.frame (ha5.mono fun k hk => by have := hS k hk; omega)
              have hv257 : cell H5 pb (0 + 257) = some (.slice (some ⟨nb, 0, none⟩) next.length next.length) := by
                rw [hb5.cell, Nat.zero_add]; exact autoL_257 (by rw [hok.cell]; omega)
              (conv => whnf); refine fa fl109_2 ?_
              (conv => whnf); refine ld1 ct35 hv257 (show pb < H4.size by omega) ?_
              (conv => whnf); refine fa fl109_2 ?_
              (conv => whnf); refine ld1 ct35 hv257 (show pb < H4.size by omega) ?_
              (conv => whnf); refine ix sl35 (by omega) (by omega) ?_
              (conv => whnf); refine ld1 ct41 hb5nq (show nb < H4.size by omega) ?_
              obtain ⟨x0, hx0⟩ := get_some (l := row) (k := c0) (by omega)
              (conv => whnf); refine ixr sl41 hr5 hx0 rfl ?_
              rintro b4 o4 cs4 hSb4 hcells4 ⟨rfl, hx0k⟩
              (conv => whnf); refine ld1 ct3 hcells4.one (show b4 < H4.size by have := hS b4 hSb4; omega) ?_
              (conv => whnf); refine vbuild1 sl41 [.int .i64 x0] rfl rfl (by decide) (by decide) ?_
              intro q6 H6 hq6 hs6 hb6 ha6
              refine ⟨ha6.mono fun k hk => by omega, ?_⟩
              have hcur6 := hcur.agr ha6 (fun k hk => by have := (hcur.lt hk).2; omega) (fun k hk => hk.elim)
              have hrl2 : (rowOf (st.cols.take j) row).length ≤ 256 := by simp [rowOf]; omega
              (conv => whnf); refine vappendO (T := tI) (S := fun _ => False) (ys := [x0]) (ds := [.int .i64 x0]) (lo := H4.size) (xs := rowOf (st.cols.take j) row) sl41 hcur6 (by omega) (fun k hk => hk.elim)
                  (hb6.cells (fun j v hv => by simpa using hv)) (Ty.reps_one ⟨rfl, hx0k⟩) rfl (by intro u hu; cases List.mem_singleton.1 hu; rfl) (by simp only [maxLen, List.length_singleton]; omega) (by simp only [List.length_singleton]; omega) ?_
              intro v7 H7 hcur7 ha7 hs7 hfresh7
              refine ⟨fun k hk => ?_, ?_⟩
              · rw [ha7 k ⟨by omega, fun h => by have := (hcur.lt h).1; omega⟩, ha6 k (by omega)]
              have hb7n := (hb5n.agr ha6 (by omega)).agr ha7 ⟨by omega, fun h => by have := (hcur.lt h).1; omega⟩
              (conv => whnf); refine ix sl35 (by omega) (by omega) ?_
              (conv => whnf); refine st1 ct41 hb7n (by simp; omega) hcur7.one ?_
              intro H8 hb8 ha8 hs8
              (conv => whnf); rw [w64 (x := (j : Int) + 1) (by omega) (by omega)]
              refine ⟨rfl, j + 1, by simp, ⟨by omega, ?_, by omega, v7, ?_, ?_⟩, by omega⟩
              · intro k hk
                rw [ha8 k hk.2, ha7 k ⟨by omega, fun h => by have := (hcur.lt h).1; omega⟩, ha6 k (by omega), ha5 k hk]
              · rw [show 0 + (q : Int).toNat * 1 = q by omega, List.set_set] at hb8
                exact hb8
              · have := hcur7.agr ha8 (fun k hk => by have := (hcur7.lt hk).1; omega) (fun k hk => hk.elim)
                have e1 : rowOf (st.cols.take (j + 1)) row = rowOf (st.cols.take j) row ++ [x0] := by
                  unfold rowOf
                  rw [take_succ_snoc hc0, List.map_append]
                  simp [hx0]
                rw [e1]; exact this
            · have hj' : j = st.cols.length := by omega
              subst hj'
              rw [List.take_length] at hcur
              (conv => whnf); rw [w64 (x := (q : Int) + 1) (by omega) (by omega)]
              refine ⟨rfl, q + 1, by simp, ⟨by omega, hA35, by omega, vs.set q vcur, by simp [hvl], hb5n, ?_, ?_⟩, by omega⟩
              · intro i h1 h2
                rw [List.getElem?_set_ne (by omega)]
                exact hnil i (by omega) h2
              · intro i v row' hi hv hrow'
                by_cases hiq : i = q
                · subst hiq
                  rw [List.getElem?_set_self (by omega)] at hv
                  rw [hrow] at hrow'
                  cases hv; cases hrow'
                  exact hcur.lower (by omega)
                · rw [List.getElem?_set_ne (by omega)] at hv
                  have hd := hdone i v row' (by omega) hv hrow'
                  exact hd.agr ha5 (fun k hk => by have := hd.lt hk; omega) (fun k hk => hk.elim)
        · have hq' : q = next.length := by omega
          subst hq'
          (conv => whnf)
          have hs23 : H2.size ≤ H3.size := hs3
          obtain ⟨ac9, capc9, he9, hview9, -⟩ := (hsets.agr ha4 (fun k hk => by have := hsets.lt hk; omega) (fun k hk => hk.elim)).view (S' := fun k => H.size ≤ k ∧ k < H4.size)
            (fun k hk => by have := hsets.lt hk; omega) (fun k hk => hk.elim)
          subst he9
          refine ⟨hA4, by omega, ac9, capc9, some ⟨nb, 0, none⟩, next.length, hb3.agr ha4 ⟨hpb3, by omega⟩, hview9, SlD.intro (show H.size ≤ nb ∧ nb < H4.size by omega) (by simp) (by simp [maxLen]; omega) (hb4n.cells (cs := vs) (fun j v hv => by simpa using hv)) ?_⟩
          refine reps_of_ones (by simp [hvl]) fun i v x hv hx => ?_
          rw [List.getElem?_map] at hx
          obtain ⟨row, hrow, rfl⟩ := Option.map_eq_some_iff.1 hx
          have hd := hdone i v row (List.getElem?_eq_some_iff.1 hrow).1 hv hrow
          obtain ⟨a0, cap0, rfl, hv0, -⟩ := hd.view (S' := fun k => H.size ≤ k ∧ k < H4.size) (fun k hk => by have := hd.lt hk; omega) (fun k hk => hk.elim)
          exact ⟨a0, cap0, rfl, hv0⟩

end Go.Proofs.YtfbghcpdinlmcaaGreatDoor
/- What wake makes: the states from which a final one can be reached. -/
set_option linter.unusedVariables false
set_option linter.unusedSimpArgs false
set_option maxRecDepth 100000
namespace Go.Proofs.YtfbghcpdinlmcaaGreatDoor
open Go.VC

inductive LiveT (rows : List (List Int)) (fin : List Bool) : Nat → Prop
  | fin {q : Nat} : fin[q]? = some true → LiveT rows fin q
  | step {q t : Nat} {row : List Int} : rows[q]? = some row → (t : Int) ∈ row → LiveT rows fin t → LiveT rows fin q

/-- The predecessors that have been noted: of all rows before q, of row q before j. -/
def Noted (rows : List (List Int)) (q j t : Nat) (p : Int) : Prop := ∃ (q' : Nat) (row : List Int), p = (q' : Int) ∧ rows[q']? = some row ∧ (q' < q ∧ (t : Int) ∈ row ∨ q' = q ∧ (t : Int) ∈ row.take j)
def nF (al : List Bool) : Nat := al.count false
theorem nF_set {al : List Bool} {p : Nat} (h : al[p]? = some false) : nF (al.set p true) + 1 = nF al := by
  unfold nF
  induction al generalizing p with
  | nil => simp at h
  | cons a al ih =>
    cases p with
    | zero => simp at h; subst h; simp [List.count_cons]
    | succ p => simp at h; simp only [List.set_cons_succ, List.count_cons]; have := ih h; omega

/-- What the search keeps: al: marked; td: to be looked at; ex: the one that is being looked at, and how far. -/
structure WI (rows : List (List Int)) (final : List Bool) (bk : List (List Int)) (al : List Bool) (td : List Int) (ex : Option (Nat × Nat)) : Prop where
  len : al.length = rows.length
  sound : ∀ q : Nat, al[q]? = some true → LiveT rows final q
  fin : ∀ q : Nat, final[q]? = some true → al[q]? = some true
  tdok : ∀ x ∈ td, ∃ q : Nat, x = (q : Int) ∧ al[q]? = some true
  cnt : td.length + nF al ≤ rows.length
  closed : ∀ (q : Nat) (x : List Int), al[q]? = some true → bk[q]? = some x → (q : Int) ∈ td ∨ (∀ p ∈ x, al[p.toNat]? = some true) ∨ ∃ j, ex = some (q, j) ∧ ∀ p ∈ x.take j, al[p.toNat]? = some true
def BkOk (rows : List (List Int)) (bk : List (List Int)) : Prop := bk.length = rows.length ∧ ∀ (t : Nat) (x : List Int), bk[t]? = some x → ∀ p, p ∈ x ↔ ∃ (q' : Nat) (row : List Int), p = (q' : Int) ∧ rows[q']? = some row ∧ (t : Int) ∈ row
section
variable {rows : List (List Int)} {final : List Bool} {bk : List (List Int)} {al : List Bool} {td : List Int}
theorem WI.pop {q : Nat} (h : WI rows final bk al (td ++ [(q : Int)]) none) : WI rows final bk al td (some (q, 0)) := by
  refine ⟨h.len, h.sound, h.fin, fun x hx => h.tdok x (List.mem_append_left _ hx), by have := h.cnt; simp at this; omega, fun q' x hq' hx => ?_⟩
  rcases h.closed q' x hq' hx with h1 | h1 | ⟨j, h1, _⟩
  · rcases List.mem_append.1 h1 with h1 | h1
    · exact .inl h1
    · rw [List.mem_singleton] at h1
      have : q' = q := by omega
      subst this
      exact .inr (.inr ⟨0, rfl, by simp⟩)
  · exact .inr (.inl h1)
  · cases h1
theorem WI.skip {q j pn : Nat} {x : List Int} (h : WI rows final bk al td (some (q, j))) (hx : bk[q]? = some x) (hj : x[j]? = some (pn : Int)) (hp : al[pn]? = some true) : WI rows final bk al td (some (q, j + 1)) := by
  refine ⟨h.len, h.sound, h.fin, h.tdok, h.cnt, fun q' x' hq' hx' => ?_⟩
  rcases h.closed q' x' hq' hx' with h1 | h1 | ⟨j', h1, h2⟩
  · exact .inl h1
  · exact .inr (.inl h1)
  · cases h1
    rw [hx] at hx'; cases hx'
    refine .inr (.inr ⟨j + 1, rfl, fun p hp' => ?_⟩)
    rw [take_succ_snoc hj, List.mem_append, List.mem_singleton] at hp'
    rcases hp' with hp' | rfl
    · exact h2 p hp'
    · simpa using hp
theorem WI.mark {q j pn : Nat} {x : List Int} (hbk : BkOk rows bk) (h : WI rows final bk al td (some (q, j))) (hq : al[q]? = some true) (hx : bk[q]? = some x) (hj : x[j]? = some (pn : Int)) (hp : al[pn]? = some false) :
    WI rows final bk (al.set pn true) (td ++ [(pn : Int)]) (some (q, j + 1)) := by
  have hlt : pn < al.length := (List.getElem?_eq_some_iff.1 hp).1
  have keep : ∀ i, al[i]? = some true → (al.set pn true)[i]? = some true := fun i hi => by
    by_cases h1 : pn = i
    · subst h1; rw [List.getElem?_set_self hlt]
    · rw [List.getElem?_set_ne h1]; exact hi
  have live : LiveT rows final pn := by
    obtain ⟨q', row, h1, h2, h3⟩ := (hbk.2 q x hx (pn : Int)).1 (List.mem_of_getElem? hj)
    have : pn = q' := by omega
    subst this
    exact .step h2 h3 (h.sound q hq)
  refine ⟨by simp [h.len], fun i hi => ?_, fun i hi => keep i (h.fin i hi), fun y hy => ?_, ?_, fun q' x' hq' hx' => ?_⟩
  · by_cases h1 : pn = i
    · subst h1; exact live
    · rw [List.getElem?_set_ne h1] at hi; exact h.sound i hi
  · rcases List.mem_append.1 hy with hy | hy
    · obtain ⟨i, h1, h2⟩ := h.tdok y hy
      exact ⟨i, h1, keep i h2⟩
    · rw [List.mem_singleton] at hy
      exact ⟨pn, hy, by rw [List.getElem?_set_self hlt]⟩
  · have h1 := nF_set hp
    have h2 := h.cnt
    simp only [List.length_append, List.length_singleton]; omega
  · by_cases h1 : pn = q'
    · subst h1
      exact .inl (List.mem_append_right _ (List.mem_singleton.2 rfl))
    · rw [List.getElem?_set_ne h1] at hq'
      rcases h.closed q' x' hq' hx' with h2 | h2 | ⟨j', h2, h3⟩
      · exact .inl (List.mem_append_left _ h2)
      · exact .inr (.inl fun p hp' => keep _ (h2 p hp'))
      · cases h2
        rw [hx] at hx'; cases hx'
        refine .inr (.inr ⟨j + 1, rfl, fun p hp' => ?_⟩)
        rw [take_succ_snoc hj, List.mem_append, List.mem_singleton] at hp'
        rcases hp' with hp' | rfl
        · exact keep _ (h3 p hp')
        · rw [Int.toNat_natCast, List.getElem?_set_self hlt]
theorem WI.done {q : Nat} {x : List Int} (h : WI rows final bk al td (some (q, x.length))) (hx : bk[q]? = some x) : WI rows final bk al td none := by
  refine ⟨h.len, h.sound, h.fin, h.tdok, h.cnt, fun q' x' hq' hx' => ?_⟩
  rcases h.closed q' x' hq' hx' with h1 | h1 | ⟨j', h1, h2⟩
  · exact .inl h1
  · exact .inr (.inl h1)
  · cases h1
    rw [hx] at hx'; cases hx'
    rw [List.take_length] at h2
    exact .inr (.inl h2)
theorem WI.finish (hbk : BkOk rows bk) (hr : ∀ row ∈ rows, ∀ t ∈ row, 0 ≤ t ∧ t < (rows.length : Int)) (h : WI rows final bk al [] none) (q : Nat) : al[q]? = some true ↔ LiveT rows final q := by
  refine ⟨h.sound q, fun hl => ?_⟩
  induction hl with
  | fin hf => exact h.fin _ hf
  | @step q t row h1 h2 _ ih =>
    have ht := hr row (List.mem_of_getElem? h1) _ h2
    obtain ⟨x, hx⟩ := get_some (l := bk) (k := t) (by rw [hbk.1]; omega)
    have hm : (q : Int) ∈ x := (hbk.2 t x hx (q : Int)).2 ⟨q, row, rfl, h1, h2⟩
    rcases h.closed t x ih hx with h3 | h3 | ⟨_, h3, _⟩
    · cases h3
    · simpa using h3 _ hm
    · cases h3
end

set_option maxHeartbeats 4000000 in
theorem wake_c (pb : Nat) (cv av : Value) (cell : List Nat) (an af : Option Addr) (capn capf : Nat) (rows : List (List Int)) (final : List Bool) (S : Nat → Prop) (H : Heap) (hS : ∀ k, S k → k < H.size ∧ k ≠ pb)
    (hb : Blk H pb 109 (autoL cv cell (.slice an rows.length capn) (.slice af final.length capf) av)) (hcl : cell.length ≤ 256) (hn : SlD tRows S H an capn rows) (hf : SlD tBool S H af capf final)
    (hr1 : rows.length ≤ 65536) (hfl : final.length = rows.length) (hrows : ∀ row ∈ rows, row.length ≤ 256 ∧ ∀ t ∈ row, 0 ≤ t ∧ t < (rows.length : Int)) :
    FnOk Tryz.prog 117 #[.pointer (some ⟨pb, 0, none⟩)] H fun v H' => Agr (fun k => k < H.size ∧ k ≠ pb) H H' ∧ H.size ≤ H'.size ∧
      ∃ (al : List Bool) (aa : Option Addr) (capa : Nat), al.length = rows.length ∧ (∀ q, q < rows.length → (al[q]? = some true ↔ LiveT rows final q)) ∧
        Blk H' pb 109 (autoL cv cell (.slice an rows.length capn) (.slice af final.length capf) (.slice aa al.length capa)) ∧ SlD tBool (fun k => H.size ≤ k ∧ k < H'.size) H' aa capa al := by
  have hpb := hb.lt
  refine FnOk.of_vc Tryz.func117 rfl (Tryz.call117 _) ?_
  (conv => whnf); refine fa fl109_2 ?_
  (conv => whnf); refine ld1 ct35 (by rw [hb.cell, Nat.zero_add]; exact autoL_257 hcl) trivial ?_
  (conv => whnf); refine vmake1 sl35 rfl (by omega) (by omega) (by omega) (by omega) ?_
  intro nb H1 hnb hs1 hb1n ha1
  rw [Int.toNat_natCast] at hb1n
  have hb1 := hb.agr ha1 (show pb < nb by omega)
  (conv => whnf); refine fa fl109_2 ?_
  (conv => whnf); refine ld1 ct35 (by rw [hb1.cell, Nat.zero_add]; exact autoL_257 hcl) trivial ?_
  (conv => whnf)
  refine VLoop.mk [24] (fun q : Nat => [.int .i64 q]) (fun q H2 => q ≤ rows.length ∧ Agr (fun k => k < H1.size ∧ k ≠ nb) H1 H2 ∧ H1.size ≤ H2.size ∧ ∃ vs bk, Tab tI (fun _ => False) H2 (nb + 1) 3 nb 41 vs bk ∧ bk.length = rows.length ∧
    (∀ (t : Nat) (x : List Int), bk[t]? = some x → x.length ≤ q * 256 ∧ ∀ p, p ∈ x ↔ Noted rows q 0 t p)) (fun q _ => rows.length - q) ?_ ?_
  · (conv => whnf)
    refine ⟨0, rfl, by omega, Agr.refl _ _, Nat.le_refl _, _, _, Tab.new hb1n (by omega), by simp, fun t x hx => ?_⟩
    rw [List.getElem?_replicate] at hx
    split at hx
    · cases hx
      refine ⟨by simp, fun p => ⟨(fun h => by cases h), ?_⟩⟩
      rintro ⟨q', row, _, _, ⟨h, _⟩ | ⟨_, h⟩⟩
      · omega
      · simp at h
    · cases hx
  · rintro q H2 junk ⟨hq, ha2, hs2, vs, bk, htab, hbkl, hbk⟩
    have hA2 : Agr (fun k => k < H.size ∧ k ≠ pb) H H2 := (ha1.mono fun k hk => by omega).trans (ha2.mono fun k hk => by omega)
    have hb2 := hb1.agr ha2 ⟨by omega, by omega⟩
    (conv => whnf); refine VIte.mk (fun h => ?_) (fun h => ?_) <;> simp only [decide_eq_true_eq, decide_eq_false_iff_not] at h
    · obtain ⟨row, hrow⟩ := get_some (l := rows) (k := q) (by omega)
      obtain ⟨hrl, hrt⟩ := hrows row (List.mem_of_getElem? hrow)
      (conv => whnf); refine ixr sl35 (hn.frame (hA2.mono fun k hk => hS k hk)) hrow rfl ?_
      rintro b2 o2 cs2 hSb2 hcells2 ⟨ra, rc, rfl, hr⟩
      (conv => whnf); refine ld1 ct41 hcells2.one trivial ?_
      (conv => whnf)
      refine VLoop.mk [31] (fun j : Nat => [.int .i64 j]) (fun j H3 => j ≤ row.length ∧ Agr (fun k => k < H1.size ∧ k ≠ nb) H2 H3 ∧ H1.size ≤ H3.size ∧ ∃ vs bk, Tab tI (fun _ => False) H3 (nb + 1) 3 nb 41 vs bk ∧ bk.length = rows.length ∧
        (∀ (t : Nat) (x : List Int), bk[t]? = some x → x.length ≤ q * 256 + j ∧ ∀ p, p ∈ x ↔ Noted rows q j t p)) (fun j _ => row.length - j) ?_ ?_
      · (conv => whnf); exact ⟨0, rfl, by omega, Agr.refl _ _, hs2, vs, bk, htab, hbkl, hbk⟩
      · clear htab hbkl hbk vs bk
        rintro j H3 junk2 ⟨hj, ha3, hs3, vs, bk, htab, hbkl, hbk⟩
        have hr3 := hr.frame (ha3.mono fun k hk => by have := hS k hk; omega)
        (conv => whnf); refine VIte.mk (fun h => ?_) (fun h => ?_) <;> simp only [decide_eq_true_eq, decide_eq_false_iff_not] at h
        · obtain ⟨ti, hti⟩ := get_some (l := row) (k := j) (by omega)
          obtain ⟨ht0, ht1⟩ := hrt ti (List.mem_of_getElem? hti)
          obtain ⟨t, rfl⟩ := Int.eq_ofNat_of_zero_le ht0
          (conv => whnf); refine ixr sl41 hr3 hti rfl ?_
          rintro b3 o3 cs3 hSb3 hcells3 ⟨rfl, htk⟩
          (conv => whnf); refine ld1 ct3 hcells3.one trivial ?_
          obtain ⟨v, x, hv, hx, hsl⟩ := htab.get (i := t) (by omega)
          obtain ⟨hxl, hxm⟩ := hbk t x hx
          obtain ⟨av3, capv3, rfl, -, -⟩ := hsl.view (S' := fun k => slB v k) (fun k hk => hk) (fun k hk => hk.elim)
          have htlt : t < vs.length := (List.getElem?_eq_some_iff.1 hv).1
          (conv => whnf); refine ix sl35 (by omega) (by omega) ?_
          (conv => whnf); refine ld1 ct41 (by rw [htab.blk.cell, show 0 + (t : Int).toNat * 1 = t by omega]; exact hv) trivial ?_
          (conv => whnf); refine vbuild1 sl41 [.int .i64 (q : Int)] rfl rfl (by decide) (by decide) ?_
          intro q4 H4 hq4 hs4 hb4 ha4
          have hnb3 := htab.blk.lt
          have htab4 := htab.agr ha4 (by omega) (fun b _ hb => by omega) (fun k hk => hk.elim)
          (conv => whnf); refine vappendO (T := tI) (S := fun _ => False) (ys := [(q : Int)]) (ds := [.int .i64 (q : Int)]) (lo := nb + 1) (xs := x) sl41 (htab4.own t _ x hv hx) (by omega) (fun k hk => hk.elim)
            (hb4.cells (fun j v hv => by simpa using hv)) (Ty.reps_one ⟨rfl, inI64 (by omega)⟩) rfl (by intro u hu; cases List.mem_singleton.1 hu; rfl) (by simp only [maxLen, List.length_singleton]; omega) (by simp only [List.length_singleton]; omega) ?_
          intro v5 H5 hown5 ha5 hs5 hfresh5
          have hb5n := htab4.blk.agr ha5 ⟨by omega, fun hk => by have := ((htab4.own t _ x hv hx).lt hk).1; omega⟩
          (conv => whnf); refine ix sl35 (by omega) (by omega) ?_
          (conv => whnf); refine st1 ct41 hb5n (by omega) hown5.one ?_
          intro H6 hb6 ha6 hs6
          rw [show 0 + (t : Int).toNat * 1 = t by omega] at hb6
          (conv => whnf); rw [w64 (x := (j : Int) + 1) (by omega) (by omega)]
          refine ⟨rfl, j + 1, by simp, ⟨by omega, ?_, by omega, _, _, htab4.push hv hown5 ha5 hfresh5 hb6 ha6 (fun k hk => hk.elim), by simp [hbkl], ?_⟩, by omega⟩
          · intro k hk
            rw [ha6 k hk.2, ha5 k ⟨by omega, fun hb => by have := ((htab4.own t _ x hv hx).lt hb).1; omega⟩, ha4 k (by omega), ha3 k hk]
          · intro t' x' hx'
            have hmem : ∀ p, Noted rows q (j + 1) t' p ↔ Noted rows q j t' p ∨ (t' = t ∧ p = (q : Int)) := by
              intro p
              unfold Noted
              constructor
              · rintro ⟨q', row', h1, h2, ⟨h3, h4⟩ | ⟨h3, h4⟩⟩
                · exact .inl ⟨q', row', h1, h2, .inl ⟨h3, h4⟩⟩
                · subst h3
                  rw [hrow] at h2; cases h2
                  rw [take_succ_snoc hti, List.mem_append, List.mem_singleton] at h4
                  rcases h4 with h4 | h4
                  · exact .inl ⟨_, _, h1, hrow, .inr ⟨rfl, h4⟩⟩
                  · exact .inr ⟨by omega, h1⟩
              · rintro (⟨q', row', h1, h2, ⟨h3, h4⟩ | ⟨h3, h4⟩⟩ | ⟨rfl, rfl⟩)
                · exact ⟨q', row', h1, h2, .inl ⟨h3, h4⟩⟩
                · subst h3
                  rw [hrow] at h2; cases h2
                  exact ⟨_, _, h1, hrow, .inr ⟨rfl, by rw [take_succ_snoc hti, List.mem_append]; exact .inl h4⟩⟩
                · exact ⟨q, row, rfl, hrow, .inr ⟨rfl, by rw [take_succ_snoc hti, List.mem_append]; exact .inr (List.mem_singleton.2 rfl)⟩⟩
            by_cases htt : t' = t
            · subst htt
              rw [List.getElem?_set_self (by omega)] at hx'
              cases hx'
              refine ⟨by simp only [List.length_append, List.length_singleton]; omega, fun p => ?_⟩
              rw [hmem p, List.mem_append, hxm p, List.mem_singleton]
              simp
            · rw [List.getElem?_set_ne (Ne.symm htt)] at hx'
              obtain ⟨h1, h2⟩ := hbk t' x' hx'
              refine ⟨by omega, fun p => ?_⟩
              rw [hmem p, h2 p]
              simp [htt]
        · have hj' : j = row.length := by omega
          subst hj'
          (conv => whnf); rw [w64 (x := (q : Int) + 1) (by omega) (by omega)]
          refine ⟨rfl, q + 1, by simp, ⟨by omega, ha2.trans ha3, by omega, vs, bk, htab, hbkl, fun t x hx => ?_⟩, by omega⟩
          obtain ⟨g1, g2⟩ := hbk t x hx
          refine ⟨by rw [Nat.succ_mul]; omega, fun p => ?_⟩
          rw [g2 p]
          unfold Noted
          constructor
          · rintro ⟨q', row', h1, h2, ⟨h3, h4⟩ | ⟨h3, h4⟩⟩
            · exact ⟨q', row', h1, h2, .inl ⟨by omega, h4⟩⟩
            · exact ⟨q', row', h1, h2, .inl ⟨by omega, List.mem_of_mem_take h4⟩⟩
          · rintro ⟨q', row', h1, h2, ⟨h3, h4⟩ | ⟨h3, h4⟩⟩
            · by_cases hqq : q' = q
              · rw [hqq, hrow] at h2; cases h2
                exact ⟨q', _, h1, by rw [hqq]; exact hrow, .inr ⟨hqq, by rw [List.take_length]; exact h4⟩⟩
              · exact ⟨q', row', h1, h2, .inl ⟨by omega, h4⟩⟩
            · simp at h4
    · have hq' : q = rows.length := by omega
      subst hq'
      have hbko : BkOk rows bk := ⟨hbkl, fun t x hx p => by
        rw [(hbk t x hx).2 p]
        unfold Noted
        constructor
        · rintro ⟨q', row, h1, h2, ⟨h3, h4⟩ | ⟨_, h4⟩⟩
          · exact ⟨q', row, h1, h2, h4⟩
          · simp at h4
        · rintro ⟨q', row, h1, h2, h4⟩
          exact ⟨q', row, h1, h2, .inl ⟨(List.getElem?_eq_some_iff.1 h2).1, h4⟩⟩⟩
      have hnb2 := htab.blk.lt
      have hback := htab.view (S' := fun k => nb ≤ k ∧ k < H2.size) hbkl.symm (by simp [maxLen]; omega) (fun k h1 h2 => ⟨h1, h2⟩) (fun k hk => hk.elim)
      clear hbk
      (conv => whnf); refine fa fl109_2 ?_
      (conv => whnf); refine ld1 ct35 (by rw [hb2.cell, Nat.zero_add]; exact autoL_257 hcl) trivial ?_
      (conv => whnf); refine vmake1 sl36 rfl (by omega) (by omega) (by omega) (by omega) ?_
      intro ab H3 hab hs3 hb3a ha3
      rw [Int.toNat_natCast] at hb3a
      have hb3 := hb2.agr ha3 (show pb < ab by omega)
      (conv => whnf); refine fa fl109_4 ?_
      (conv => whnf); refine st1 ct36 hb3 (by rw [autoL_len hcl]; omega) rfl ?_
      intro H4 hb4 ha4 hs4
      rw [Nat.zero_add, autoL_set259 hcl] at hb4
      replace hb3a := hb3a.agr ha4 (show ab ≠ pb by omega)
      have hA24 : Agr (fun k => k < H2.size ∧ k ≠ pb) H2 H4 := (ha3.mono fun k hk => by omega).trans (ha4.mono fun k hk => hk.2)
      (conv => whnf); refine fa fl109_3 ?_
      (conv => whnf); refine ld1 ct36 (by rw [hb4.cell, Nat.zero_add]; exact autoL_258 hcl) trivial ?_
      (conv => whnf)
      refine VLoop.mk [7, 61] (fun x : Nat × Value => [x.2, .int .i64 x.1]) (fun x H5 => x.1 ≤ rows.length ∧ Agr (fun k => k < H2.size ∧ k ≠ pb) H2 H5 ∧ H4.size ≤ H5.size ∧
        Blk H5 pb 109 (autoL cv cell (.slice an rows.length capn) (.slice af final.length capf) (.slice (some ⟨ab, 0, none⟩) (rows.length : Int).toNat (rows.length : Int).toNat)) ∧
        ∃ al td, al.length = rows.length ∧ Blk H5 ab 4 (al.map .bool) ∧ SlO tI (fun _ => False) H5 (ab + 1) 3 x.2 td ∧
          (∀ q, al[q]? = some true ↔ q < x.1 ∧ final[q]? = some true) ∧ (∀ q : Nat, al[q]? = some true → (q : Int) ∈ td) ∧ (∀ y ∈ td, ∃ q : Nat, y = (q : Int) ∧ al[q]? = some true) ∧ td.length + nF al = rows.length) (fun x _ => rows.length - x.1) ?_ ?_
      · (conv => whnf)
        refine ⟨(0, _), rfl, by omega, hA24, Nat.le_refl _, hb4, List.replicate rows.length false, [], by simp, by simpa using hb3a, SlO.nil, fun q => ⟨fun h => ?_, fun h => by omega⟩, fun q h => ?_, (fun y hy => by cases hy), by simp [nF, List.count_replicate]⟩
        · rw [List.getElem?_replicate] at h; split at h <;> simp at h
        · rw [List.getElem?_replicate] at h; split at h <;> simp at h
      · rintro ⟨i, v7⟩ H5 junk2 ⟨hi, hA5, hs5, hb5, al, td, hall, hb5a, htd, hal1, hal2, hal3, hal4⟩
        dsimp only at hi htd hal1
        (conv => whnf); refine VIte.mk (fun h => ?_) (fun h => ?_) <;> simp only [decide_eq_true_eq, decide_eq_false_iff_not] at h
        · have hA25 := hA2.trans (hA5.mono fun k hk => by omega)
          obtain ⟨f, hfi⟩ := get_some (l := final) (k := i) (by omega)
          (conv => whnf); refine VSeq.run ?_
          (conv => whnf); refine ixr sl36 (hf.frame (hA25.mono fun k hk => hS k hk)) hfi rfl ?_
          rintro b3 o3 cs3 hSb3 hcells3 rfl
          (conv => whnf); refine ld1 ct4 hcells3.one trivial ?_
          (conv => whnf); refine VIte.mk (fun h2 => ?_) (fun h2 => ?_)
          · subst h2
            have hfal : al[i]? = some false := by
              cases hx : al[i]? with
              | none => rw [List.getElem?_eq_none_iff] at hx; omega
              | some b =>
                cases b with
                | false => rfl
                | true => have := ((hal1 i).1 hx).1; omega
            (conv => whnf); refine fa fl109_4 ?_
            (conv => whnf); refine ld1 ct36 (by rw [hb5.cell, Nat.zero_add]; exact autoL_259 hcl) trivial ?_
            (conv => whnf); refine ix sl36 (by omega) (by omega) ?_
            (conv => whnf); refine st1 ct4 hb5a (by simp; omega) rfl ?_
            intro H6 hb6a ha6 hs6
            rw [show 0 + (i : Int).toNat * 1 = i by omega] at hb6a
            (conv => whnf); refine vbuild1 sl41 [.int .i64 (i : Int)] rfl rfl (by decide) (by decide) ?_
            intro q7 H7 hq7 hs7 hb7 ha7
            have hl5 := hb5.lt
            have hl5a := hb5a.lt
            have htd7 : SlO tI (fun _ => False) H7 (ab + 1) 3 v7 td := (htd.agr ha6 (fun b hb => by have := htd.lt hb; omega) (fun k hk => hk.elim)).agr ha7 (fun b hb => by have := htd.lt hb; omega) (fun k hk => hk.elim)
            have hnf := nF_set hfal
            (conv => whnf); refine vappendO (T := tI) (S := fun _ => False) (ys := [(i : Int)]) (ds := [.int .i64 (i : Int)]) (lo := ab + 1) (xs := td) sl41 htd7 (by omega) (fun k hk => hk.elim)
              (hb7.cells (fun j v hv => by simpa using hv)) (Ty.reps_one ⟨rfl, inI64 (by omega)⟩) rfl (by intro u hu; cases List.mem_singleton.1 hu; rfl) (by simp only [maxLen, List.length_singleton]; omega) (by simp only [List.length_singleton]; omega) ?_
            intro v8 H8 hown8 ha8 hs8 hfresh8
            (conv => whnf); rw [w64 (x := (i : Int) + 1) (by omega) (by omega)]
            have hsb : ∀ k, slB v7 k → ab + 1 ≤ k := fun k hk => (htd.lt hk).1
            refine ⟨rfl, (i + 1, v8), rfl, ⟨by dsimp only; omega, ?_, by omega, ?_, al.set i true, td ++ [(i : Int)], by simp [hall], ?_, hown8, fun q => ?_, fun q hq => ?_, fun y hy => ?_, ?_⟩, by dsimp only; omega⟩
            · intro k hk
              rw [ha8 k ⟨by omega, fun hb => by have := hsb k hb; omega⟩, ha7 k (by omega), ha6 k (by omega), hA5 k hk]
            · exact ((hb5.agr ha6 (by omega)).agr ha7 (by omega)).agr ha8 ⟨by omega, fun hb => by have := hsb _ hb; omega⟩
            · rw [List.map_set]
              exact (hb6a.agr ha7 (by omega)).agr ha8 ⟨by omega, fun hb => by have := hsb _ hb; omega⟩
            · dsimp only
              by_cases hqi : i = q
              · subst hqi
                rw [List.getElem?_set_self (by omega)]
                exact ⟨fun _ => ⟨by omega, hfi⟩, fun _ => rfl⟩
              · rw [List.getElem?_set_ne hqi, hal1 q]
                constructor
                · rintro ⟨h1, h2⟩; exact ⟨by omega, h2⟩
                · rintro ⟨h1, h2⟩; exact ⟨by omega, h2⟩
            · by_cases hqi : i = q
              · subst hqi; exact List.mem_append_right _ (List.mem_singleton.2 rfl)
              · rw [List.getElem?_set_ne hqi] at hq
                exact List.mem_append_left _ (hal2 q hq)
            · rcases List.mem_append.1 hy with hy | hy
              · obtain ⟨q, h1, h2⟩ := hal3 y hy
                refine ⟨q, h1, ?_⟩
                by_cases hqi : i = q
                · subst hqi; rw [List.getElem?_set_self (by omega)]
                · rw [List.getElem?_set_ne hqi]; exact h2
              · rw [List.mem_singleton] at hy
                exact ⟨i, hy, by rw [List.getElem?_set_self (by omega)]⟩
            · simp only [List.length_append, List.length_singleton]; omega
          · subst h2
            (conv => whnf); rw [w64 (x := (i : Int) + 1) (by omega) (by omega)]
            refine ⟨rfl, (i + 1, v7), rfl, ⟨by dsimp only; omega, hA5, hs5, hb5, al, td, hall, hb5a, htd, fun q => ?_, hal2, hal3, hal4⟩, by dsimp only; omega⟩
            rw [hal1 q]
            dsimp only
            constructor
            · rintro ⟨h1, h2⟩; exact ⟨by omega, h2⟩
            · rintro ⟨h1, h2⟩
              refine ⟨?_, h2⟩
              by_cases hqi : q = i
              · subst hqi; rw [hfi] at h2; cases h2
              · omega
        · have hi' : i = rows.length := by omega
          subst hi'
          have hwi : WI rows final bk al td none := by
            refine ⟨hall, fun q hq => .fin ((hal1 q).1 hq).2, fun q hq => (hal1 q).2 ⟨?_, hq⟩, hal3, by omega, fun q x hq hx => .inl (hal2 q hq)⟩
            rw [← hfl]; exact (List.getElem?_eq_some_iff.1 hq).1
          clear hal1 hal2 hal3 hal4
          (conv => whnf)
          refine VLoop.mk [7] (fun x : Value × List Bool × List Int => [x.1]) (fun x H6 => Agr (fun k => k < H2.size ∧ k ≠ pb) H2 H6 ∧ H5.size ≤ H6.size ∧
            Blk H6 pb 109 (autoL cv cell (.slice an rows.length capn) (.slice af final.length capf) (.slice (some ⟨ab, 0, none⟩) (rows.length : Int).toNat (rows.length : Int).toNat)) ∧
            Blk H6 ab 4 (x.2.1.map .bool) ∧ SlO tI (fun _ => False) H6 (ab + 1) 3 x.1 x.2.2 ∧ WI rows final bk x.2.1 x.2.2 none) (fun x _ => 2 * nF x.2.1 + x.2.2.length) ?_ ?_
          · (conv => whnf)
            exact ⟨(v7, al, td), rfl, hA5, Nat.le_refl _, hb5, hb5a, htd, hwi⟩
          · clear htd hwi hb5a hb5 hA5 hall
            rintro ⟨v7, al, td⟩ H6 junk3 ⟨hA6, hs6, hb6, hb6a, htd, hwi⟩
            dsimp only at htd hb6a hwi
            obtain ⟨at7, cap7, rfl, hv7, hsb7⟩ := htd.view (S' := fun k => ab + 1 ≤ k ∧ k < H6.size) (fun k hk => htd.lt hk) (fun k hk => hk.elim)
            (conv => whnf); refine VIte.mk (fun h => ?_) (fun h => ?_) <;> simp only [decide_eq_true_eq, decide_eq_false_iff_not] at h
            · obtain ⟨td0, y, rfl⟩ : ∃ td0 y, td = td0 ++ [y] := ⟨td.dropLast, td.getLast (by intro h2; subst h2; simp at h), (List.dropLast_concat_getLast _).symm⟩
              obtain ⟨q, rfl, hqt⟩ := hwi.tdok y (by simp)
              have hql : q < rows.length := by have := (List.getElem?_eq_some_iff.1 hqt).1; have := hwi.len; omega
              have htl : (td0 ++ [(q : Int)]).length = td0.length + 1 := by simp
              have hcnt := hwi.cnt
              (conv => whnf); refine ixr (i := td0.length) (x := (q : Int)) sl41 hv7 (by simp) (by rw [w64 (by omega) (by omega)]; omega) ?_
              rintro b3 o3 cs3 hSb3 hcells3 ⟨rfl, -⟩
              (conv => whnf); refine ld1 ct3 hcells3.one trivial ?_
              (conv => whnf); rw [w64 (x := ((td0 ++ [(q : Int)]).length : Int) - 1) (by omega) (by omega)]
              refine vcutH sl41 (by omega) (by have := hv7.le; omega) ?_
              rw [show (((td0 ++ [(q : Int)]).length : Int) - 1).toNat = td0.length by omega]
              have htd0 := htd.pop
              clear htd hv7
              obtain ⟨xb, hxb⟩ := get_some (l := bk) (k := q) (by omega)
              have hback6 := hback.frame (hA6.mono fun k hk => by omega)
              (conv => whnf); refine ixrn sl35 hback6 (by omega) hxb rfl ?_
              rintro b4 o4 cs4 hSb4 hcells4 ⟨xa, xc, rfl, hxa⟩
              (conv => whnf); refine ld1 ct41 hcells4.one trivial ?_
              (conv => whnf)
              refine VLoop.mk [7, 97] (fun x : Nat × Value × List Bool × List Int => [x.2.1, .int .i64 x.1]) (fun x H7 => x.1 ≤ xb.length ∧ Agr (fun k => k < H2.size ∧ k ≠ pb) H6 H7 ∧ H6.size ≤ H7.size ∧
                Blk H7 pb 109 (autoL cv cell (.slice an rows.length capn) (.slice af final.length capf) (.slice (some ⟨ab, 0, none⟩) (rows.length : Int).toNat (rows.length : Int).toNat)) ∧
                Blk H7 ab 4 (x.2.2.1.map .bool) ∧ SlO tI (fun _ => False) H7 (ab + 1) 3 x.2.1 x.2.2.2 ∧ WI rows final bk x.2.2.1 x.2.2.2 (some (q, x.1)) ∧ x.2.2.1[q]? = some true ∧ 2 * nF x.2.2.1 + x.2.2.2.length ≤ 2 * nF al + td0.length)
                (fun x _ => xb.length - x.1) ?_ ?_
              · (conv => whnf)
                exact ⟨(0, _, al, td0), rfl, by dsimp only; omega, Agr.refl _ _, Nat.le_refl _, hb6, hb6a, htd0, hwi.pop, hqt, Nat.le_refl _⟩
              · clear hb6 hb6a htd0
                rintro ⟨j, v7, al2, td⟩ H7 junk4 ⟨hj, hA7, hs7, hb7, hb7a, htd, hwi2, hqt2, hmeas⟩
                dsimp only at hj htd hb7a hwi2 hqt2 hmeas
                (conv => whnf); refine VIte.mk (fun h2 => ?_) (fun h2 => ?_) <;> simp only [decide_eq_true_eq, decide_eq_false_iff_not] at h2
                · obtain ⟨p, hpj⟩ := get_some (l := xb) (k := j) (by omega)
                  obtain ⟨pn, prow, rfl, hprow, -⟩ := (hbko.2 q xb hxb p).1 (List.mem_of_getElem? hpj)
                  have hpl : pn < rows.length := (List.getElem?_eq_some_iff.1 hprow).1
                  have hall := hwi2.len
                  have hcnt2 := hwi2.cnt
                  obtain ⟨f, hpf⟩ := get_some (l := al2) (k := pn) (by omega)
                  have hl7 := hb7.lt
                  have hl7a := hb7a.lt
                  (conv => whnf); refine VSeq.run ?_
                  (conv => whnf); refine ixr sl41 (hxa.frame (hA7.mono fun k hk => by omega)) hpj rfl ?_
                  rintro b5 o5 cs5 hSb5 hcells5 ⟨rfl, -⟩
                  (conv => whnf); refine ld1 ct3 hcells5.one trivial ?_
                  (conv => whnf); refine fa fl109_4 ?_
                  (conv => whnf); refine ld1 ct36 (by rw [hb7.cell, Nat.zero_add]; exact autoL_259 hcl) trivial ?_
                  (conv => whnf); refine ix sl36 (by omega) (by omega) ?_
                  (conv => whnf); refine ld1 (v := .bool f) ct4 (by rw [hb7a.cell, show 0 + (pn : Int).toNat * 1 = pn by omega, List.getElem?_map, hpf]; rfl) trivial ?_
                  (conv => whnf); refine VIte.mk (fun h3 => ?_) (fun h3 => ?_)
                  · obtain rfl : f = false := by simpa using h3
                    have hnf := nF_set hpf
                    (conv => whnf); refine fa fl109_4 ?_
                    (conv => whnf); refine ld1 ct36 (by rw [hb7.cell, Nat.zero_add]; exact autoL_259 hcl) trivial ?_
                    (conv => whnf); refine ix sl36 (by omega) (by omega) ?_
                    (conv => whnf); refine st1 ct4 hb7a (by simp; omega) rfl ?_
                    intro H8 hb8a ha8 hs8
                    rw [show 0 + (pn : Int).toNat * 1 = pn by omega] at hb8a
                    (conv => whnf); refine vbuild1 sl41 [.int .i64 (pn : Int)] rfl rfl (by decide) (by decide) ?_
                    intro q9 H9 hq9 hs9 hb9 ha9
                    have htd9 : SlO tI (fun _ => False) H9 (ab + 1) 3 v7 td := (htd.agr ha8 (fun b hb => by have := htd.lt hb; omega) (fun k hk => hk.elim)).agr ha9 (fun b hb => by have := htd.lt hb; omega) (fun k hk => hk.elim)
                    (conv => whnf); refine vappendO (T := tI) (S := fun _ => False) (ys := [(pn : Int)]) (ds := [.int .i64 (pn : Int)]) (lo := ab + 1) (xs := td) sl41 htd9 (by omega) (fun k hk => hk.elim)
                      (hb9.cells (fun j v hv => by simpa using hv)) (Ty.reps_one ⟨rfl, inI64 (by omega)⟩) rfl (by intro u hu; cases List.mem_singleton.1 hu; rfl) (by simp only [maxLen, List.length_singleton]; omega) (by simp only [List.length_singleton]; omega) ?_
                    intro v10 H10 hown10 ha10 hs10 hfresh10
                    (conv => whnf); rw [w64 (x := (j : Int) + 1) (by have := hxa.le; simp only [maxLen] at this; omega) (by have := hxa.le; simp only [maxLen] at this; omega)]
                    have hsb : ∀ k, slB v7 k → ab + 1 ≤ k := fun k hk => (htd.lt hk).1
                    refine ⟨rfl, (j + 1, v10, al2.set pn true, td ++ [(pn : Int)]), rfl, ⟨by dsimp only; omega, ?_, by omega, ?_, ?_, hown10, hwi2.mark hbko hqt2 hxb hpj hpf, ?_, ?_⟩, by dsimp only; omega⟩
                    · intro k hk
                      rw [ha10 k ⟨by omega, fun hb => by have := hsb k hb; omega⟩, ha9 k (by omega), ha8 k (by omega), hA7 k hk]
                    · exact ((hb7.agr ha8 (by omega)).agr ha9 (by omega)).agr ha10 ⟨by omega, fun hb => by have := hsb _ hb; omega⟩
                    · dsimp only
                      rw [List.map_set]
                      exact (hb8a.agr ha9 (by omega)).agr ha10 ⟨by omega, fun hb => by have := hsb _ hb; omega⟩
                    · dsimp only
                      by_cases hpq : pn = q
                      · subst hpq; rw [List.getElem?_set_self (by omega)]
                      · rw [List.getElem?_set_ne hpq]; exact hqt2
                    · simp only [List.length_append, List.length_singleton]; omega
                  · obtain rfl : f = true := by simpa using h3
                    (conv => whnf); rw [w64 (x := (j : Int) + 1) (by have := hxa.le; simp only [maxLen] at this; omega) (by have := hxa.le; simp only [maxLen] at this; omega)]
                    exact ⟨rfl, (j + 1, v7, al2, td), rfl, ⟨by dsimp only; omega, hA7, hs7, hb7, hb7a, htd, hwi2.skip hxb hpj hpf, hqt2, hmeas⟩, by dsimp only; omega⟩
                · have hj' : j = xb.length := by omega
                  subst hj'
                  (conv => whnf)
                  exact ⟨rfl, (v7, al2, td), rfl, ⟨hA6.trans hA7, by omega, hb7, hb7a, htd, hwi2.done hxb⟩, by dsimp only; omega⟩
            · have htd0 : td = [] := List.eq_nil_of_length_eq_zero (by omega)
              subst htd0
              (conv => whnf)
              have hall := hwi.len
              have hl6 := hb6.lt
              refine ⟨hA2.trans (hA6.mono fun k hk => by omega), by omega, al, some ⟨ab, 0, none⟩, rows.length, hall, fun q _ => hwi.finish hbko (fun row hrow => (hrows row hrow).2) q, ?_, ?_⟩
              · rw [hall]; exact hb6
              · have hl6a := hb6a.lt
                refine SlD.intro (show H.size ≤ ab ∧ ab < H6.size by omega) (by omega) (by simp only [maxLen]; omega) (hb6a.cells (cs := al.map .bool) (fun j v hv => by rw [Nat.zero_add]; exact hv)) (reps_of_ones (by simp) fun i v x hv hx => ?_)
                rw [List.getElem?_map, hx] at hv
                cases hv; rfl

end Go.Proofs.YtfbghcpdinlmcaaGreatDoor
/- dfa.New. -/
set_option linter.unusedVariables false
set_option linter.unusedSimpArgs false
set_option maxRecDepth 100000
namespace Go.Proofs.YtfbghcpdinlmcaaGreatDoor
open Go.VC
attribute [local irreducible] mRun

structure AM where
  sets : List (BitVec 256)
  cell : List Nat
  next : List (List Int)
  final : List Bool
def madeM (cells : List (BitVec 256)) (next : List (List Int)) (final : List Bool) : AM :=
  ⟨(mRun next cells (fun b => spanS b b) 256).sets, (mRun next cells (fun b => spanS b b) 256).cell, next.map (rowOf (mRun next cells (fun b => spanS b b) 256).cols), final⟩
structure AM.Ok (A : AM) : Prop where
  n1 : 1 ≤ A.next.length
  n2 : A.next.length ≤ 65536
  fl : A.final.length = A.next.length
  cell : A.cell.length = 256
  places : ∀ p ∈ A.cell, p < A.sets.length
  sl : A.sets.length ≤ 256
  rows : ∀ row ∈ A.next, row.length = A.sets.length ∧ ∀ t ∈ row, 0 ≤ t ∧ t < (A.next.length : Int)
structure AutoR (S : Nat → Prop) (H : Heap) (pb : Nat) (A : AM) : Prop where
  own : S pb
  ok : A.Ok
  rep : ∃ ac cc an cn af cf aa ca al, Blk H pb 109 (autoL (.slice ac A.sets.length cc) A.cell (.slice an A.next.length cn) (.slice af A.final.length cf) (.slice aa al.length ca)) ∧
    SlD tSet S H ac cc A.sets ∧ SlD tRows S H an cn A.next ∧ SlD tBool S H af cf A.final ∧ SlD tBool S H aa ca al ∧ al.length = A.next.length ∧ ∀ q : Nat, q < A.next.length → (al[q]? = some true ↔ LiveT A.next A.final q)
theorem AutoR.frame {S : Nat → Prop} {H H' : Heap} {pb : Nat} {A : AM} (h : AutoR S H pb A) (k : Agr S H H') : AutoR S H' pb A := by
  obtain ⟨h1, h2, ac, cc, an, cn, af, cf, aa, ca, al, h3, h4, h5, h6, h7, h8⟩ := h
  exact ⟨h1, h2, ac, cc, an, cn, af, cf, aa, ca, al, h3.agr k h1, h4.frame k, h5.frame k, h6.frame k, h7.frame k, h8⟩
theorem AutoR.mono {S S' : Nat → Prop} {H : Heap} {pb : Nat} {A : AM} (h : AutoR S H pb A) (k : ∀ b, S b → S' b) : AutoR S' H pb A := by
  obtain ⟨h1, h2, ac, cc, an, cn, af, cf, aa, ca, al, h3, h4, h5, h6, h7, h8⟩ := h
  exact ⟨k _ h1, h2, ac, cc, an, cn, af, cf, aa, ca, al, h3, h4.mono k, h5.mono k, h6.mono k, h7.mono k, h8⟩
def AutoV (S : Nat → Prop) (H : Heap) (v : Value) : Option AM → Prop
  | none => v = .pointer none
  | some A => ∃ pb, v = .pointer (some ⟨pb, 0, none⟩) ∧ AutoR S H pb A
theorem AutoV.frame {S : Nat → Prop} {H H' : Heap} {v : Value} {o : Option AM} (h : AutoV S H v o) (k : Agr S H H') : AutoV S H' v o := by
  cases o with
  | none => exact h
  | some A => obtain ⟨pb, h1, h2⟩ := h; exact ⟨pb, h1, h2.frame k⟩
theorem AutoV.mono {S S' : Nat → Prop} {H : Heap} {v : Value} {o : Option AM} (h : AutoV S H v o) (k : ∀ b, S b → S' b) : AutoV S' H v o := by
  cases o with
  | none => exact h
  | some A => obtain ⟨pb, h1, h2⟩ := h; exact ⟨pb, h1, h2.mono k⟩
theorem madeM_ok {cells : List (BitVec 256)} {next : List (List Int)} {final : List Bool} (h : soundB cells next final.length = true) : (madeM cells next final).Ok := by
  obtain ⟨n1, n2, n3, hrows⟩ := soundB_rows h
  have hm := mRun_ok (next := next) (sp := fun b => spanS b b) (fun b hb => (soundB_cells h hb).1) 256 (Nat.le_refl _)
  have hlen := hm.len
  have hle := hm.le
  have hce := hm.cell
  refine ⟨by simpa [madeM] using n1, by simpa [madeM] using n2, by simp [madeM, n3], ?_, ?_, ?_, ?_⟩
  · exact hce
  · intro p hp
    have := hm.places p hp
    simp only [madeM]; omega
  · simp only [madeM]; omega
  · intro row hrow
    simp only [madeM, List.mem_map] at hrow
    obtain ⟨r, hr, rfl⟩ := hrow
    refine ⟨by simp only [rowOf, madeM, List.length_map]; omega, fun t ht => ?_⟩
    obtain ⟨c, hc, rfl⟩ := List.mem_map.1 ht
    have hc' := hm.cols c hc
    have := hrows r hr
    simp only [madeM, List.length_map]
    rw [List.getD_eq_getElem?_getD, List.getElem?_eq_getElem (by omega), Option.getD_some]
    exact this.2 _ (List.getElem_mem _)

set_option maxHeartbeats 4000000 in
theorem new_c (ca na fa : Option Addr) (cc nc fc : Nat) (cells : List (BitVec 256)) (next : List (List Int)) (final : List Bool) (S : Nat → Prop) (H : Heap) (hS : ∀ k, S k → k < H.size)
    (hc : SlD tSet S H ca cc cells) (hn : SlD tRows S H na nc next) (hf : SlD tBool S H fa fc final) :
    FnOk Tryz.prog 51 #[.slice ca cells.length cc, .slice na next.length nc, .slice fa final.length fc] H fun v H' =>
      Agr (Old H) H H' ∧ H.size ≤ H'.size ∧ AutoV (fun k => H.size ≤ k ∧ k < H'.size) H' v (if soundB cells next final.length then some (madeM cells next final) else none) := by
  have lf := hf.le
  unfold maxLen at lf
  refine FnOk.of_vc Tryz.func51 rfl (Tryz.call51 _) ?_
  (conv => whnf); refine pures (sound_p ca na fa cc nc fc final.length cells next S H hS hc hn (by omega)) fun H1 ha1 => ?_
  have hs1 : H.size ≤ H1.size := by
    rcases Nat.eq_zero_or_pos H.size with h | h
    · omega
    · have := old_lt ha1 (k := H.size - 1) (by unfold Old; omega); omega
  (conv => whnf); refine VIte.mk (fun h => ?_) (fun h => ?_)
  · (conv => whnf)
    have hb : soundB cells next final.length = false := by simpa using h
    rw [hb]
    exact ⟨ha1, hs1, rfl⟩
  · have hb : soundB cells next final.length = true := by simpa using h
    rw [hb]
    obtain ⟨n1, n2, n3, hrows⟩ := soundB_rows hb
    (conv => whnf); refine vappendD (T := tBool) (S := S) (lo := H1.size) (xs := []) sl36 tBool_ones SlO.nil (Nat.le_refl _) (fun k hk => ⟨by have := hS k hk; omega, ?_⟩) (hf.frame (ha1.mono hS)) (by simp only [maxLen, List.length_nil]; omega) (by simp only [List.length_nil]; omega) ?_
    · rintro ⟨o, n, c, h⟩; cases h
    intro v2 H2 hown2 ha2 hs2 _
    rw [List.nil_append] at hown2
    have hown2' : SlO tBool (fun _ => False) H2 H1.size 4 v2 final := hown2.free tBool_free
    obtain ⟨af, capf, rfl, hfin, -⟩ := hown2'.view (S' := fun k => H1.size ≤ k ∧ k < H2.size) (fun k hk => hown2.lt hk) (fun k hk => hk.elim)
    (conv => whnf); refine vbuildS rfl rfl _ rfl (autoL (.slice none 0 0) [] (.slice none 0 0) (.slice af final.length capf) (.slice none 0 0)) (by rfl) ?_
    (conv => whnf); refine vbox (autoL (.slice none 0 0) [] (.slice none 0 0) (.slice af final.length capf) (.slice none 0 0)) rfl ?_
    intro pb H3 hpb hs3 hb3 ha3
    have hsz2 : H2.size = pb := by omega
    have hsO : ∀ k, Old H k → k < H1.size := fun k hk => by unfold Old at hk; omega
    have hA3 : Agr (fun k => k < H.size) H H3 := (ha1.trans (ha2.mono fun k hk => ⟨hsO k hk, fun hb => by obtain ⟨o, n, c, h⟩ := hb; cases h⟩)).trans (ha3.mono fun k hk => by unfold Old at hk; omega)
    have hSO : ∀ k, S k → k < H3.size ∧ k ≠ pb := fun k hk => by have := hS k hk; omega
    (conv => whnf); refine VCall.mk (merge_c pb (.slice af final.length capf) (.slice none 0 0) ca na cc nc cells next final.length S H3 hSO hb3 (hc.frame (hA3.mono hS)) (hn.frame (hA3.mono hS)) hb) ?_
    rintro v4 H4 ⟨ha4, hs4, ac, capc, an, capn, hb4, hsets, hrows4⟩
    have hfin3 : SlD tBool (fun k => H1.size ≤ k ∧ k < H2.size) H4 af capf final := (hfin.frame (ha3.mono fun k hk => by omega)).frame (ha4.mono fun k hk => by omega)
    have hmok := madeM_ok hb
    (conv => whnf)
    refine VCall.mk (wake_c pb (.slice ac (mRun next cells (fun b => spanS b b) 256).sets.length capc) (.slice none 0 0) (mRun next cells (fun b => spanS b b) 256).cell an af capn capf (next.map (rowOf (mRun next cells (fun b => spanS b b) 256).cols)) final
      (fun k => H1.size ≤ k ∧ k < H4.size ∧ k ≠ pb) H4 (fun k hk => by omega) (by rw [List.length_map]; exact hb4) (Nat.le_of_eq hmok.cell) (hrows4.mono fun k hk => by omega) (hfin3.mono fun k hk => by omega)
      (by simpa using n2) (by simp [n3]) (fun row hrow => ?_)) ?_
    · have := hmok.rows row hrow
      have h2 := hmok.sl
      exact ⟨by omega, this.2⟩
    rintro v5 H5 ⟨ha5, hs5, al, aa, capa, hall, hlive, hb5, hal⟩
    (conv => whnf)
    refine ⟨?_, by omega, pb, rfl, ⟨by omega, by omega⟩, hmok, ac, capc, an, capn, af, capf, aa, capa, al, hb5, ?_, ?_, ?_, ?_, hall, hlive⟩
    · exact (hA3.trans (ha4.mono fun k hk => by omega)).trans (ha5.mono fun k hk => by omega)
    · exact (hsets.frame (ha5.mono fun k hk => by omega)).mono fun k hk => by omega
    · exact (hrows4.frame (ha5.mono fun k hk => by omega)).mono fun k hk => by omega
    · exact (hfin3.frame (ha5.mono fun k hk => by omega)).mono fun k hk => by omega
    · exact hal.mono fun k hk => by omega

end Go.Proofs.YtfbghcpdinlmcaaGreatDoor
/- The automaton's methods. -/
set_option linter.unusedVariables false
set_option linter.unusedSimpArgs false
set_option maxRecDepth 100000
namespace Go.Proofs.YtfbghcpdinlmcaaGreatDoor
open Go.VC
attribute [local irreducible] mRun

def stN : Option AM → Nat
  | none => 1
  | some A => A.next.length
theorem ptrA : Tryz.prog.underlying 23 = some (.pointer 109) := rfl
theorem states_p {S : Nat → Prop} {H : Heap} {v : Value} {o : Option AM} (h : AutoV S H v o) : Pure Tryz.prog 16 #[v] H (.int .i64 (stN o : Int)) := by
  cases o with
  | none =>
    obtain rfl := h
    refine FnOk.of_vc Tryz.func16 rfl (Tryz.call16 _) ?_
    (conv => whnf); refine peqN ptrA ?_
    (conv => whnf); exact ⟨rfl, Agr.refl _ _⟩
  | some A =>
    obtain ⟨pb, rfl, hown, hok, ac, cc, an, cn, af, cf, aa, ca, al, hb, hsets, hnext, hfin, hal, hall, hlive⟩ := h
    have hcl : A.cell.length ≤ 256 := Nat.le_of_eq hok.cell
    refine FnOk.of_vc Tryz.func16 rfl (Tryz.call16 _) ?_
    (conv => whnf); refine peqS ptrA ?_
    (conv => whnf); refine fa fl109_2 ?_
    (conv => whnf); refine ld1 ct35 (by rw [hb.cell, Nat.zero_add]; exact autoL_257 hcl) trivial ?_
    (conv => whnf); exact ⟨rfl, Agr.refl _ _⟩
def finM : Option AM → Int → Bool
  | none, _ => false
  | some A, q => decide (0 ≤ q) && (A.final[q.toNat]?).getD false
theorem final_p {S : Nat → Prop} {H : Heap} {v : Value} {o : Option AM} {q : Int} (h : AutoV S H v o) : Pure Tryz.prog 50 #[v, .int .i64 q] H (.bool (finM o q)) := by
  cases o with
  | none =>
    obtain rfl := h
    refine FnOk.of_vc Tryz.func50 rfl (Tryz.call50 _) ?_
    (conv => whnf); refine pneqN ptrA ?_
    (conv => whnf); exact ⟨rfl, Agr.refl _ _⟩
  | some A =>
    obtain ⟨pb, rfl, hown, hok, ac, cc, an, cn, af, cf, aa, ca, al, hb, hsets, hnext, hfin, hal, hall, hlive⟩ := h
    have hcl : A.cell.length ≤ 256 := Nat.le_of_eq hok.cell
    have hfl := hok.fl
    have hn2 := hok.n2
    refine FnOk.of_vc Tryz.func50 rfl (Tryz.call50 _) ?_
    cases q with
    | negSucc n =>
      (conv => whnf); refine pneqS ptrA ?_
      (conv => whnf); exact ⟨rfl, Agr.refl _ _⟩
    | ofNat n =>
      (conv => whnf); refine pneqS ptrA ?_
      (conv => whnf); refine fa fl109_3 ?_
      (conv => whnf); refine ld1 ct36 (by rw [hb.cell, Nat.zero_add]; exact autoL_258 hcl) trivial ?_
      by_cases hnl : n < A.final.length
      · obtain ⟨f, hf⟩ := get_some hnl
        have hd : decide (Int.ofNat n < (A.final.length : Int)) = true := decide_eq_true (by simpa using hnl)
        (conv => whnf); rw [hd]
        (conv => whnf); refine fa fl109_3 ?_
        (conv => whnf); refine ld1 ct36 (by rw [hb.cell, Nat.zero_add]; exact autoL_258 hcl) trivial ?_
        (conv => whnf); refine ixr sl36 hfin hf rfl ?_
        rintro b3 o3 cs3 hSb3 hcells3 rfl
        (conv => whnf); refine ld1 ct4 hcells3.one trivial ?_
        (conv => whnf); exact ⟨by simp [finM, hf], Agr.refl _ _⟩
      · have hd : decide (Int.ofNat n < (A.final.length : Int)) = false := decide_eq_false (by simpa using hnl)
        (conv => whnf); rw [hd]
        (conv => whnf); exact ⟨by simp [finM, List.getElem?_eq_none (Nat.le_of_not_lt hnl)], Agr.refl _ _⟩

theorem autoL_at {cv nv fv av : Value} {cell : List Nat} {b c : Nat} (h : cell[b]? = some c) : (autoL cv cell nv fv av)[1 + b]? = some (.int .u8 (c : Int)) := by
  have hlt := (List.getElem?_eq_some_iff.1 h).1
  unfold autoL
  rw [List.cons_append, Nat.add_comm, List.getElem?_cons_succ, List.append_assoc, List.getElem?_append_left (by simpa using hlt), List.getElem?_map, h]
  rfl
def stepM (o : Option AM) (q : Int) (b : Nat) : Int :=
  if q < 0 ∨ (stN o : Int) ≤ q then -1 else match o with
    | none => 0
    | some A => ((A.next[q.toNat]?).getD []).getD (A.cell.getD b 0) 0
theorem stN_le {S : Nat → Prop} {H : Heap} {v : Value} {o : Option AM} (h : AutoV S H v o) : 1 ≤ stN o ∧ stN o ≤ 65536 := by
  cases o with
  | none => simp [stN]
  | some A => obtain ⟨pb, rfl, hown, hok, _⟩ := h; exact ⟨hok.n1, hok.n2⟩
theorem step_p {S : Nat → Prop} {H : Heap} {v : Value} {o : Option AM} {q : Int} {b : Nat} (hS : ∀ k, S k → k < H.size) (h : AutoV S H v o) (hb8 : b < 256) :
    Pure Tryz.prog 49 #[v, .int .i64 q, .int .u8 (b : Int)] H (.int .i64 (stepM o q b)) := by
  refine FnOk.of_vc Tryz.func49 rfl (Tryz.call49 _) ?_
  cases q with
  | negSucc n =>
    have hd : decide (Int.negSucc n < 0) = true := decide_eq_true (Int.negSucc_lt_zero n)
    (conv => whnf); rw [hd]
    (conv => whnf); exact ⟨by simp [stepM, Int.negSucc_lt_zero], Agr.refl _ _⟩
  | ofNat n =>
    (conv => whnf); refine pures (states_p h) fun H1 ha1 => ?_
    have h1 := h.frame (ha1.mono hS)
    by_cases hn : stN o ≤ n
    · have hd : decide ((stN o : Int) ≤ Int.ofNat n) = true := decide_eq_true (by simpa using hn)
      (conv => whnf); rw [hd]
      (conv => whnf); exact ⟨by simp [stepM, hn], ha1⟩
    · have hd : decide ((stN o : Int) ≤ Int.ofNat n) = false := decide_eq_false (by simpa using hn)
      (conv => whnf); rw [hd]
      have hst : ∀ x, x = (match o with | none => (0 : Int) | some A => ((A.next[n]?).getD []).getD (A.cell.getD b 0) 0) → stepM o (Int.ofNat n) b = x := by
        intro x hx
        subst hx
        unfold stepM
        rw [if_neg (by simp; omega)]
        cases o <;> rfl
      cases o with
      | none =>
        obtain rfl := h1
        (conv => whnf); refine peqN ptrA ?_
        (conv => whnf); exact ⟨by rw [hst 0 rfl], ha1⟩
      | some A =>
        obtain ⟨pb, rfl, hown, hok, ac, cc, an, cn, af, cf, aa, ca, al, hb, hsets, hnext, hfin, hal, hall, hlive⟩ := h1
        have hcl : A.cell.length ≤ 256 := Nat.le_of_eq hok.cell
        simp only [stN] at hn
        obtain ⟨row, hrow⟩ := get_some (l := A.next) (k := n) (by omega)
        obtain ⟨c, hc⟩ := get_some (l := A.cell) (k := b) (by rw [hok.cell]; exact hb8)
        have hrl := (hok.rows row (List.mem_of_getElem? hrow)).1
        have hcp := hok.places c (List.mem_of_getElem? hc)
        obtain ⟨t, ht⟩ := get_some (l := row) (k := c) (by omega)
        (conv => whnf); refine peqS ptrA ?_
        (conv => whnf); refine VDraw.lex rfl (by kernel_rfl) ?_
        (conv => whnf); refine fa fl109_2 ?_
        (conv => whnf); refine ld1 ct35 (by rw [hb.cell, Nat.zero_add]; exact autoL_257 hcl) trivial ?_
        (conv => whnf); refine ixr sl35 hnext hrow rfl ?_
        rintro b2 o2 cs2 hSb2 hcells2 ⟨ra, rc, rfl, hr⟩
        (conv => whnf); refine ld1 ct41 hcells2.one trivial ?_
        (conv => whnf); refine fa fl109_1 ?_
        (conv => whnf); refine ixa ar107 (by omega) (by omega) ?_
        (conv => whnf); refine ld1 (v := .int .u8 (c : Int)) ct5 (by rw [hb.cell, show 0 + 1 + (b : Int).toNat * 1 = 1 + b by omega]; exact autoL_at hc) trivial ?_
        (conv => whnf); refine ixr sl41 hr ht rfl ?_
        rintro b3 o3 cs3 hSb3 hcells3 ⟨rfl, -⟩
        (conv => whnf); refine ld1 ct3 hcells3.one trivial ?_
        (conv => whnf); exact ⟨by rw [hst t (by simp [hrow, hc, ht, List.getD_eq_getElem?_getD])], ha1⟩

def runM (o : Option AM) (s : ByteArray) (k : Nat) : Int := (s.data.toList.take k).foldl (fun q b => stepM o q b.toNat) 0
theorem runM_succ {o : Option AM} {s : ByteArray} {k : Nat} {b : UInt8} (h : s.data[k]? = some b) : runM o s (k + 1) = stepM o (runM o s k) b.toNat := by
  unfold runM
  rw [take_succ_snoc (x := b) (by rw [Array.getElem?_toList]; exact h), List.foldl_append]; rfl
theorem strT : Tryz.prog.underlying 9 = some .string := rfl
theorem get_byte {s : ByteArray} {k : Nat} (h : k < s.size) : ∃ b, s.data[k]? = some b := ⟨s.data[k]'h, Array.getElem?_eq_getElem h⟩
def acceptsM (o : Option AM) (s : ByteArray) : Bool := finM o (runM o s s.size)
theorem accepts_p {S : Nat → Prop} {H : Heap} {v : Value} {o : Option AM} {s : ByteArray} (hS : ∀ k, S k → k < H.size) (h : AutoV S H v o) (hs : s.size ≤ maxLen) :
    Pure Tryz.prog 17 #[v, .string s] H (.bool (acceptsM o s)) := by
  unfold maxLen at hs
  refine FnOk.of_vc Tryz.func17 rfl (Tryz.call17 _) ?_
  (conv => whnf)
  refine VLoop.mk [5, 9] (fun k : Nat => [.int .i64 (runM o s k), .int .i64 k]) (fun k H2 => k ≤ s.size ∧ Agr (Old H) H H2) (fun k _ => s.size - k) ?_ ?_
  · (conv => whnf); exact ⟨0, rfl, by omega, Agr.refl _ _⟩
  · rintro k H2 junk ⟨hk, ha2⟩
    have h2 := h.frame (ha2.mono hS)
    (conv => whnf); refine VIte.mk (fun h => ?_) (fun h => ?_) <;> simp only [decide_eq_true_eq, decide_eq_false_iff_not] at h
    · obtain ⟨b, hb⟩ := get_byte (s := s) (k := k) (by omega)
      (conv => whnf); refine vidxs strT rfl hb ?_
      (conv => whnf); refine pures (step_p (fun k hk => old_lt ha2 (hS k hk)) h2 (UInt8.toNat_lt b)) fun H3 ha3 => ?_
      (conv => whnf); rw [w64 (x := (k : Int) + 1) (by omega) (by omega)]
      exact ⟨rfl, k + 1, by rw [runM_succ hb]; simp, ⟨by omega, ha2.trans (ha3.mono fun k hk => old_lt ha2 hk)⟩, by omega⟩
    · obtain rfl : k = s.size := by omega
      (conv => whnf); refine pures (final_p h2) fun H3 ha3 => ?_
      (conv => whnf); exact ⟨rfl, ha2.trans (ha3.mono fun k hk => old_lt ha2 hk)⟩

open Classical in
noncomputable def aliveM : Option AM → Int → Bool
  | none, _ => false
  | some A, q => decide (LiveT A.next A.final q.toNat)
theorem stepM_range {A : AM} (hok : A.Ok) {q : Int} {b : Nat} (h0 : 0 ≤ q) (h1 : q < A.next.length) (hb : b < 256) : 0 ≤ stepM (some A) q b ∧ stepM (some A) q b < A.next.length := by
  obtain ⟨n, rfl⟩ := Int.eq_ofNat_of_zero_le h0
  obtain ⟨row, hrow⟩ := get_some (l := A.next) (k := n) (by omega)
  obtain ⟨c, hc⟩ := get_some (l := A.cell) (k := b) (by rw [hok.cell]; exact hb)
  have hrl := hok.rows row (List.mem_of_getElem? hrow)
  have hcp := hok.places c (List.mem_of_getElem? hc)
  obtain ⟨t, ht⟩ := get_some (l := row) (k := c) (by omega)
  unfold stepM
  rw [if_neg (by simp [stN]; omega)]
  simp only [Int.toNat_natCast, hrow, List.getD_eq_getElem?_getD, hc, Option.getD_some, ht]
  exact hrl.2 t (List.mem_of_getElem? ht)
end Go.Proofs.YtfbghcpdinlmcaaGreatDoor
/- dfa.Cells; two and speaks of the laws of layer 5. -/
set_option linter.unusedVariables false
set_option linter.unusedSimpArgs false
set_option maxRecDepth 100000
namespace Go.Proofs.YtfbghcpdinlmcaaGreatDoor
open Go.VC
attribute [local irreducible] mRun

theorem tSet_ones : tSet.Ones := by
  intro S H cs x h u hu
  obtain rfl := h
  simp [setL] at hu
  rcases hu with rfl | rfl | rfl | rfl <;> rfl
theorem tSet_free : tSet.Free := fun S S' H H' cs x h => h
theorem SlD.ofBlk {α : Type} {T : Ty α} {S : Nat → Prop} {H : Heap} {b n : Nat} {e : TypeId} {l : List Value} {xs : List α} (hb : Blk H b e l) (hS : S b) (hr : T.reps S H l xs) (hn : n = xs.length) (hm : n ≤ maxLen) : SlD T S H (some ⟨b, 0, none⟩) n xs :=
  SlD.intro hS (Nat.le_of_eq hn.symm) hm (hb.cells (fun j v hv => by rw [Nat.zero_add]; exact hv)) hr
def cellsM : Option AM → List (BitVec 256)
  | none => [BitVec.allOnes 256]
  | some A => A.sets
def Fresh (H H' : Heap) (k : Nat) : Prop := H.size ≤ k ∧ k < H'.size
end Go.Proofs.YtfbghcpdinlmcaaGreatDoor
/- dfa.Cells, as memory of the call's own. -/
set_option linter.unusedVariables false
set_option linter.unusedSimpArgs false
set_option maxRecDepth 100000
namespace Go.Proofs.YtfbghcpdinlmcaaGreatDoor
open Go.VC
attribute [local irreducible] mRun

/-! ### dfa.Cells, as memory of the call's own -/
theorem cells_o {S : Nat → Prop} {H : Heap} {v : Value} {o : Option AM} (hS : ∀ k, S k → k < H.size) (h : AutoV S H v o) :
    FnOk Tryz.prog 66 #[v] H fun v' H' => Agr (Old H) H H' ∧ H.size ≤ H'.size ∧ SlO tSet (fun _ => False) H' H.size 101 v' (cellsM o) := by
  refine FnOk.of_vc Tryz.func66 rfl (Tryz.call66 _) ?_
  cases o with
  | none =>
    obtain rfl := h
    (conv => whnf); refine peqN ptrA ?_
    (conv => whnf); refine pures (span_p 0 255 (by decide) (by decide) H) fun H1 ha1 => ?_
    rw [spanS_full]
    have hs1 := old_size ha1
    (conv => whnf); refine vbuild1 sl106 (setL (BitVec.allOnes 256)) rfl rfl (by decide) (by decide) ?_
    intro b H2 hb hs2 hb2 ha2
    (conv => whnf)
    exact ⟨ha1.trans (ha2.mono fun k hk => by unfold Old at hk; omega), by omega, SlO.ofBlk (by omega) hb2 (Ty.reps_one rfl) rfl (by decide)⟩
  | some A =>
    obtain ⟨pb, rfl, hown, hok, ac, cc, an, cn, af, cf, aa, ca, al, hb, hsets, hnext, hfin, hal, hall, hlive⟩ := h
    have hcl : A.cell.length ≤ 256 := Nat.le_of_eq hok.cell
    have hsl := hok.sl
    (conv => whnf); refine peqS ptrA ?_
    (conv => whnf); refine VC.fa fl109_0 ?_
    (conv => whnf); refine ld1 ct106 (by rw [hb.cell]; exact autoL_0) trivial ?_
    (conv => whnf); refine vappendD (T := tSet) (S := S) (lo := H.size) (xs := []) sl106 tSet_ones SlO.nil (Nat.le_refl _) (fun k hk => ⟨hS k hk, ?_⟩) hsets (by simp only [maxLen, List.length_nil]; omega) (by simp only [List.length_nil]; omega) ?_
    · rintro ⟨o, n, c, h⟩; cases h
    intro v2 H2 hown2 ha2 hs2 _
    rw [List.nil_append] at hown2
    (conv => whnf)
    exact ⟨ha2.mono fun k hk => ⟨hk, fun hb => by obtain ⟨o, n, c, h⟩ := hb; cases h⟩, hs2, hown2.free tSet_free⟩

end Go.Proofs.YtfbghcpdinlmcaaGreatDoor
/- class.Not, class.Minus, class.Atoms. -/
set_option linter.unusedVariables false
set_option linter.unusedSimpArgs false
set_option maxRecDepth 100000
namespace Go.VC
theorem xor_ones {x : Nat} (h : x < 18446744073709551616) : 18446744073709551615 ^^^ x = 18446744073709551615 - x := by
  have h1 : (BitVec.ofNat 64 x ^^^ BitVec.allOnes 64).toNat = (~~~(BitVec.ofNat 64 x)).toNat := by rw [BitVec.xor_allOnes]
  rw [BitVec.toNat_xor, BitVec.toNat_not, BitVec.toNat_ofNat, BitVec.toNat_allOnes, Nat.mod_eq_of_lt (by simpa using h), Nat.xor_comm] at h1
  simpa using h1
theorem vxor1 {P : Program} {x : Nat} {S : Nat → Prop} {H : Heap} {K : Value → Prop} (hx : x < 18446744073709551616) (k : K (.int .u64 ((18446744073709551615 - x : Nat) : Int))) : VDet P (Op.unary .xor (.int .u64 (x : Int))) S H K := by
  refine VDet.mk _ (fun w _ => ?_) k
  have h1 : IntKind.u64.max = 18446744073709551615 := rfl
  have h2 : IntKind.u64.signed = false := rfl
  have e1 : (BitVec.ofInt IntKind.u64.bits (18446744073709551615 : Int) ^^^ BitVec.ofInt IntKind.u64.bits (x : Int)).toNat = 18446744073709551615 - x := by
    show (BitVec.ofInt 64 ((18446744073709551615 : Nat) : Int) ^^^ BitVec.ofInt 64 (x : Int)).toNat = _
    rw [BitVec.ofInt_natCast, BitVec.ofInt_natCast, BitVec.toNat_xor, BitVec.toNat_ofNat, BitVec.toNat_ofNat, Nat.mod_eq_of_lt (a := x) hx]
    exact xor_ones hx
  have e2 : IntKind.wrap .u64 ((18446744073709551615 - x : Nat) : Int) = ((18446744073709551615 - x : Nat) : Int) := wrap_in ⟨by show (0 : Int) ≤ _; omega, by rw [h1]; omega⟩
  show (pure (Value.int .u64 (IntKind.wrap .u64 ((BitVec.ofInt IntKind.u64.bits (if IntKind.u64.signed = true then (-1 : Int) else IntKind.u64.max) ^^^ BitVec.ofInt IntKind.u64.bits (x : Int)).toNat : Int))) : Sem Value).run P w = _
  rw [h2, h1]
  simp only [Bool.false_eq_true, if_false]
  rw [e1, e2]
  rfl
end Go.VC
namespace Go.Proofs.YtfbghcpdinlmcaaGreatDoor
open Go.VC

theorem wd_not (a : BitVec 256) (i : Nat) (hi : i < 4) : wd (~~~a) i = 18446744073709551615 - wd a i := by
  have ha := a.isLt
  unfold wd
  rw [BitVec.toNat_not]
  match i, hi with
  | 0, _ => simp only [Nat.reduceMul, Nat.reducePow] at *; omega
  | 1, _ => simp only [Nat.reduceMul, Nat.reducePow] at *; omega
  | 2, _ => simp only [Nat.reduceMul, Nat.reducePow] at *; omega
  | 3, _ => simp only [Nat.reduceMul, Nat.reducePow] at *; omega
theorem not_c (a : BitVec 256) (H : Heap) : Pure Tryz.prog 183 #[setV a] H (setV (~~~a)) := by
  have hw : ∀ i, wd a i < 18446744073709551616 := fun i => wd_lt a i
  refine FnOk.of_vc Tryz.func183 rfl (Tryz.call183 _) ?_
  (conv => whnf); refine vbox (setL a) rfl ?_
  intro p H1 hp hs1 hb1 ha1
  (conv => whnf); refine valloc (setV 0) (setL 0) rfl rfl ?_
  intro r H3 hr hs3 hb3 ha3
  replace hb1 := hb1.agr ha3 (show p < r by omega)
  (conv => whnf); refine ixa ar101 (by decide) (by decide) ?_
  (conv => whnf); refine ld1 ct99 ((hb1.cell _).trans rfl) trivial ?_
  (conv => whnf); refine vxor1 (hw _) ?_
  (conv => whnf); refine ixa ar101 (by decide) (by decide) ?_
  (conv => whnf); refine ld1 ct99 ((hb1.cell _).trans rfl) trivial ?_
  (conv => whnf); refine vxor1 (hw _) ?_
  (conv => whnf); refine ixa ar101 (by decide) (by decide) ?_
  (conv => whnf); refine ld1 ct99 ((hb1.cell _).trans rfl) trivial ?_
  (conv => whnf); refine vxor1 (hw _) ?_
  (conv => whnf); refine ixa ar101 (by decide) (by decide) ?_
  (conv => whnf); refine ld1 ct99 ((hb1.cell _).trans rfl) trivial ?_
  (conv => whnf); refine vxor1 (hw _) ?_
  rw [← wd_not a 0 (by decide), ← wd_not a 1 (by decide), ← wd_not a 2 (by decide), ← wd_not a 3 (by decide)]
  (conv => whnf); refine vbuildA ar101 (setV 0) rfl (setL (~~~a)) rfl ?_
  (conv => whnf); refine VC.stN rfl hb3 (show 0 + 4 ≤ 4 by decide) rfl ?_
  intro H4 hb4 ha4 hs4
  (conv => whnf); refine ldN (cs := setL (~~~a)) ag101 (hb4.cells (fun j v hv => by simpa [splice, setL] using hv)) trivial ?_
  exact ⟨rfl, fun k hk => by rw [ha4 k (by omega), ha3 k (by omega), ha1 k (by omega)]⟩
theorem minus_c (a b : BitVec 256) (H : Heap) : Pure Tryz.prog 145 #[setV a, setV b] H (setV (a &&& ~~~b)) := by
  refine FnOk.of_vc Tryz.func145 rfl (Tryz.call145 _) ?_
  (conv => whnf); refine vbox (setL a) rfl ?_
  intro p H1 hp hs1 hb1 ha1
  have st1 := (St.nil H).box hp hs1 hb1 ha1
  (conv => whnf); refine vbox (setL b) rfl ?_
  intro q H2 hq hs2 hb2 ha2
  have st2 := st1.box hq hs2 hb2 ha2
  (conv => whnf); refine valloc (setV 0) (setL 0) rfl rfl ?_
  intro r H3 hr hs3 hb3 ha3
  have st3 := st2.box hr hs3 hb3 ha3
  (conv => whnf); refine VDraw.held (Old H3) 4 (sq [0,1] (.f 2 (.f 3 (.f 4 .e)))) rfl (by kernel_rfl) ?_
  (conv => whnf); refine ldN (cs := setL a) ag101 ((st3.blk 0 rfl).cells fun j v hv => by rw [Nat.zero_add]; exact hv) (st3.blk 0 rfl).lt ?_
  (conv => whnf); refine ldN (cs := setL b) ag101 ((st3.blk 1 rfl).cells fun j v hv => by rw [Nat.zero_add]; exact hv) (st3.blk 1 rfl).lt ?_
  (conv => whnf); refine pures (not_c b H3) fun H4 ha4 => ?_
  have st4 := st3.call ha4
  refine ⟨ha4, ?_⟩
  (conv => whnf); refine pures (meet_c a (~~~b) H4) fun H5 ha5 => ?_
  have st5 := st4.call ha5
  refine ⟨ha4.trans (ha5.mono fun k hk => old_lt ha4 hk), ?_⟩
  (conv => whnf); refine stNB (cs := setL (a &&& ~~~b)) st5 2 rfl rfl (show 0 + 4 ≤ 4 by decide) rfl fun H6 st6 => ?_
  (conv => whnf); refine ldN (cs := setL (a &&& ~~~b)) ag101 ((st6.blk 2 rfl).cells (fun j v hv => by simpa [splice, setL] using hv)) trivial ?_
  exact ⟨rfl, st6.old⟩
end Go.Proofs.YtfbghcpdinlmcaaGreatDoor

/- class.Atoms: the plain law. -/
set_option linter.unusedVariables false
set_option linter.unusedSimpArgs false
set_option maxRecDepth 100000
namespace Go.Proofs.YtfbghcpdinlmcaaGreatDoor
open Go.VC

/-- The two parts of b, without what is empty. -/
def cutB (s b : BitVec 256) : List (BitVec 256) := [b &&& s, b &&& ~~~s].filter fun x => !decide (x = 0)
def partB (bl : List (BitVec 256)) (s : BitVec 256) : List (BitVec 256) := bl.flatMap (cutB s)
def blocksM (sets : List (BitVec 256)) : List (BitVec 256) := sets.foldl partB [BitVec.allOnes 256]
def atomsAt (bl : List (BitVec 256)) (b : Nat) : List (BitVec 256) := bl.filter fun s => (nextM s 0).1 == b
def atomsM (sets : List (BitVec 256)) : List (BitVec 256) := (List.range 256).flatMap (atomsAt (blocksM sets))
def repsM (sets : List (BitVec 256)) : List Nat := (atomsM sets).map fun c => (nextM c 0).1

theorem bits_zero (x : BitVec 256) (h : ∀ b, b < 256 → x.getLsbD b = false) : x = 0 := by
  apply BitVec.eq_of_getLsbD_eq
  intro i hi
  rw [h i hi]; simp
theorem least_of {x : BitVec 256} (h : x ≠ 0) : x.getLsbD (nextM x 0).1 = true ∧ ∀ b, b < (nextM x 0).1 → x.getLsbD b = false := by
  unfold nextM
  cases hf : (List.range 256).find? fun b => decide (0 ≤ b) && x.getLsbD b with
  | none =>
    exfalso
    apply h
    apply bits_zero
    intro b hb
    have := List.find?_eq_none.1 hf b (List.mem_range.2 hb)
    simpa using this
  | some c =>
    have h1 := List.find?_some hf
    simp only [Nat.zero_le, decide_true, Bool.true_and] at h1
    refine ⟨h1, fun b hb => ?_⟩
    have hc : c < 256 := by simpa using List.mem_of_find?_eq_some hf
    obtain ⟨_, i, hi, hge, hbef⟩ := List.find?_eq_some_iff_getElem.1 hf
    simp only [List.getElem_range] at hge
    subst hge
    have := hbef b hb
    simpa using this
theorem cut_ne (s b : BitVec 256) : ∀ x ∈ cutB s b, x ≠ 0 := fun x hx => by
  have := (List.mem_filter.1 hx).2
  simpa using this
theorem cut_at (s b : BitVec 256) {c : Nat} (h : b.getLsbD c = true) : ∃ x ∈ cutB s b, x.getLsbD c = true := by
  have hc : c < 256 := by
    apply Classical.byContradiction
    intro hn
    rw [BitVec.getLsbD_of_ge _ _ (by omega)] at h; cases h
  have key : ∀ x : BitVec 256, x.getLsbD c = true → x ≠ 0 := fun x hx h0 => by rw [h0] at hx; simp at hx
  cases hs : s.getLsbD c with
  | true =>
    have h1 : (b &&& s).getLsbD c = true := by rw [BitVec.getLsbD_and, h, hs]; rfl
    exact ⟨b &&& s, List.mem_filter.2 ⟨by simp, by rw [decide_eq_false (key _ h1)]; rfl⟩, h1⟩
  | false =>
    have h1 : (b &&& ~~~s).getLsbD c = true := by rw [BitVec.getLsbD_and, BitVec.getLsbD_not, h, hs]; simp [hc]
    exact ⟨b &&& ~~~s, List.mem_filter.2 ⟨by simp, by rw [decide_eq_false (key _ h1)]; rfl⟩, h1⟩
theorem cut_sub (s b : BitVec 256) {x : BitVec 256} (hx : x ∈ cutB s b) {c : Nat} (h : x.getLsbD c = true) : b.getLsbD c = true := by
  have := (List.mem_filter.1 hx).1
  rcases List.mem_cons.1 this with rfl | this
  · rw [BitVec.getLsbD_and, Bool.and_eq_true] at h; exact h.1
  · rw [List.mem_singleton] at this
    subst this
    rw [BitVec.getLsbD_and, Bool.and_eq_true] at h; exact h.1
theorem cut_same (s b : BitVec 256) {x : BitVec 256} (hx : x ∈ cutB s b) {c d : Nat} (h : x.getLsbD c = true) (k : x.getLsbD d = true) : s.getLsbD c = s.getLsbD d := by
  have := (List.mem_filter.1 hx).1
  rcases List.mem_cons.1 this with rfl | this
  · rw [BitVec.getLsbD_and, Bool.and_eq_true] at h k; rw [h.2, k.2]
  · rw [List.mem_singleton] at this
    subst this
    rw [BitVec.getLsbD_and, Bool.and_eq_true, BitVec.getLsbD_not] at h k
    have h2 := h.2; have k2 := k.2
    simp only [Bool.and_eq_true, Bool.not_eq_true'] at h2 k2
    rw [h2.2, k2.2]
theorem count_pos {x : BitVec 256} (h : x ≠ 0) : 1 ≤ countM x := by
  have h1 := (least_of h).1
  have h2 := nextM_lt x 0
  unfold countM
  exact List.length_pos_of_mem (a := (nextM x 0).1) (List.mem_filter.2 ⟨List.mem_range.2 h2, h1⟩)
theorem filter_two (p q r : Nat → Bool) : ∀ l : List Nat, (∀ c ∈ l, (p c = true ∧ q c = false ∧ r c = true) ∨ (p c = false ∧ q c = true ∧ r c = true) ∨ (p c = false ∧ q c = false ∧ r c = false)) → (l.filter p).length + (l.filter q).length = (l.filter r).length
  | [], _ => rfl
  | c :: l, h => by
    have ih := filter_two p q r l fun d hd => h d (List.mem_cons_of_mem _ hd)
    rcases h c List.mem_cons_self with ⟨h1, h2, h3⟩ | ⟨h1, h2, h3⟩ | ⟨h1, h2, h3⟩ <;> simp only [List.filter_cons, h1, h2, h3, if_true, Bool.false_eq_true, if_false, List.length_cons] <;> omega
theorem count_cut (s b : BitVec 256) : countM (b &&& s) + countM (b &&& ~~~s) = countM b := by
  unfold countM
  refine filter_two _ _ _ _ fun c hc => ?_
  have hc := List.mem_range.1 hc
  have e1 : (b &&& s).getLsbD c = (b.getLsbD c && s.getLsbD c) := BitVec.getLsbD_and
  have e2 : (b &&& ~~~s).getLsbD c = (b.getLsbD c && !s.getLsbD c) := by rw [BitVec.getLsbD_and, BitVec.getLsbD_not]; simp [hc]
  rw [e1, e2]
  cases b.getLsbD c <;> cases s.getLsbD c <;> simp
theorem count_zero : countM 0 = 0 := by
  unfold countM
  simp
theorem cut_sum (s b : BitVec 256) : ((cutB s b).map countM).sum = countM b := by
  rw [← count_cut s b]
  unfold cutB
  have key : ∀ x : BitVec 256, (([x].filter fun x => !decide (x = 0)).map countM).sum = countM x := fun x => by
    by_cases h : x = 0
    · subst h; rw [count_zero]; rfl
    · rw [List.filter_cons_of_pos (by rw [decide_eq_false h]; rfl)]; simp
  rw [show [b &&& s, b &&& ~~~s] = [b &&& s] ++ [b &&& ~~~s] from rfl, List.filter_append, List.map_append, List.sum_append, key, key]
/-- What the blocks of given sets are like. -/
structure PartOk (bl sets : List (BitVec 256)) : Prop where
  ne : ∀ x ∈ bl, x ≠ 0
  all : ∀ c, c < 256 → ∃ x ∈ bl, x.getLsbD c = true
  same : ∀ x ∈ bl, ∀ c d, x.getLsbD c = true → x.getLsbD d = true → ∀ s ∈ sets, s.getLsbD c = s.getLsbD d
  sum : (bl.map countM).sum = 256
theorem PartOk.len {bl sets : List (BitVec 256)} (h : PartOk bl sets) : bl.length ≤ 256 := by
  refine Nat.le_trans ?_ (Nat.le_of_eq h.sum)
  have key : ∀ l : List (BitVec 256), (∀ x ∈ l, x ≠ 0) → l.length ≤ (l.map countM).sum := by
    intro l
    induction l with
    | nil => intro _; exact Nat.le_refl _
    | cons x l ih =>
      intro h
      have := ih fun y hy => h y (List.mem_cons_of_mem _ hy)
      have := count_pos (h x List.mem_cons_self)
      simp only [List.length_cons, List.map_cons, List.sum_cons]; omega
  exact key bl h.ne
theorem PartOk.cut {bl sets : List (BitVec 256)} (h : PartOk bl sets) (s : BitVec 256) : PartOk (partB bl s) (sets ++ [s]) := by
  refine ⟨fun x hx => ?_, fun c hc => ?_, fun x hx c d hxc hxd t ht => ?_, ?_⟩
  · obtain ⟨b, hb, hx⟩ := List.mem_flatMap.1 hx
    exact cut_ne s b x hx
  · obtain ⟨b, hb, hbc⟩ := h.all c hc
    obtain ⟨x, hx, hxc⟩ := cut_at s b hbc
    exact ⟨x, List.mem_flatMap.2 ⟨b, hb, hx⟩, hxc⟩
  · obtain ⟨b, hb, hx⟩ := List.mem_flatMap.1 hx
    rcases List.mem_append.1 ht with ht | ht
    · exact h.same b hb c d (cut_sub s b hx hxc) (cut_sub s b hx hxd) t ht
    · rw [List.mem_singleton] at ht
      subst ht
      exact cut_same t b hx hxc hxd
  · refine Eq.trans ?_ h.sum
    unfold partB
    clear h
    induction bl with
    | nil => rfl
    | cons b bl ih =>
      rw [List.flatMap_cons, List.map_append, List.sum_append, ih, cut_sum, List.map_cons, List.sum_cons]
theorem part_ok (sets : List (BitVec 256)) : PartOk (blocksM sets) sets := by
  have key : ∀ (rest done bl : List (BitVec 256)), PartOk bl done → PartOk (rest.foldl partB bl) (done ++ rest) := by
    intro rest
    induction rest with
    | nil => intro done bl h; simpa using h
    | cons s rest ih =>
      intro done bl h
      have := ih (done ++ [s]) (partB bl s) (h.cut s)
      simpa using this
  refine key sets [] [BitVec.allOnes 256] ⟨fun x hx => ?_, fun c hc => ⟨_, List.mem_singleton.2 rfl, by rw [BitVec.getLsbD_allOnes]; exact decide_eq_true hc⟩, fun x hx c d _ _ s hs => (by cases hs), by kernel_rfl⟩
  rw [List.mem_singleton] at hx
  subst hx
  decide
theorem filter_one (k : Nat) : ∀ n, ((List.range n).filter fun b => k == b).length = if k < n then 1 else 0
  | 0 => rfl
  | n + 1 => by
    rw [List.range_succ, List.filter_append, List.length_append, filter_one k n, List.filter_cons, List.filter_nil]
    cases hb : (k == n) with
    | true =>
      have h := beq_iff_eq.1 hb
      subst h
      simp
    | false =>
      have h : k ≠ n := fun h => by rw [h] at hb; simp at hb
      rw [if_neg (show ¬ (false = true) by decide)]
      by_cases h2 : k < n
      · rw [if_pos h2, if_pos (show k < n + 1 by omega)]; rfl
      · rw [if_neg h2, if_neg (show ¬ k < n + 1 by omega)]; rfl
theorem reps_len (sets : List (BitVec 256)) : (atomsM sets).length ≤ 256 := by
  have h := (part_ok sets).len
  have key : ∀ (bl : List (BitVec 256)), ((List.range 256).flatMap (atomsAt bl)).length = bl.length := by
    intro bl
    induction bl with
    | nil => 
      have : ∀ l : List Nat, l.flatMap (atomsAt []) = [] := fun l => by simp [atomsAt]
      rw [this]
    | cons x bl ih =>
      have e : ∀ l : List Nat, (l.flatMap (atomsAt (x :: bl))).length = (l.flatMap (atomsAt bl)).length + (l.filter fun b => (nextM x 0).1 == b).length := by
        intro l
        induction l with
        | nil => rfl
        | cons b l ih =>
          rw [List.flatMap_cons, List.flatMap_cons, List.length_append, List.length_append, ih, List.filter_cons]
          have : (atomsAt (x :: bl) b).length = (atomsAt bl b).length + if ((nextM x 0).1 == b) = true then 1 else 0 := by
            unfold atomsAt
            rw [List.filter_cons]
            split <;> simp
          rw [this]
          split <;> simp <;> omega
      rw [e, ih, List.length_cons]
      congr 1
      rw [filter_one, if_pos (nextM_lt x 0)]
  unfold atomsM
  rw [key]; exact h
end Go.Proofs.YtfbghcpdinlmcaaGreatDoor

/- class.Atoms: the walk. -/
set_option linter.unusedVariables false
set_option linter.unusedSimpArgs false
set_option maxRecDepth 100000
namespace Go.VC
theorem ixvN {P : Program} {t len e sz : Nat} {k : IntKind} {i : Int} {cs : Array Value} {S : Nat → Prop} {H : Heap} {K : Value → Prop} (ht : ArrT P t len e sz) (hc : AggT P e sz) (h0 : 0 ≤ i) (h1 : i < len)
    (hk : K (.agg (cs.extract (i.toNat * sz) (i.toNat * sz + sz)))) : VDet P (Instr.index t (.agg cs) (.int k i)) S H K := by
  refine VDet.mk _ (fun w _ => ?_) hk
  cases hi : P.info? e with
  | none => have := ht.size; simp [hi] at this
  | some inf =>
    have hs : inf.size = sz := by have := ht.size; simpa [hi] using this
    simp [Instr.index, asIntOf, run_underlying ht.under, h0, h1, sizeOf, typeInfo, hi, hs, run_partN hc]
/-- New memory with room to grow. -/
theorem StB.newCap {α : Type} {T : Ty α} {e : TypeId} {B : Nat → Prop} {H0 H H' : Heap} {ps : List Pc} {b cap : Nat} {l : List Value} (st : StB B H0 H ps) (hb : b = H.size) (hs : H'.size = b + 1) (hk : Blk H' b e l) (ha : Agr (fun k => k < b) H H') (hl : l.length = cap * T.size) (hm : cap ≤ maxLen) : StB B H0 H' (ps ++ [pS T e (some ⟨b, 0, none⟩) 0 cap []]) := by
  subst hb
  have h := Sl.made (sz := T.size) (n := 0) (cap := cap) (Nat.zero_le _) hk (Nat.zero_le _) hm hl
  rw [Nat.zero_mul, List.take_zero] at h
  refine st.add (ha.mono fun k hk => hk) _ ⟨⟨[], h, rfl⟩, fun k hk => hk.elim⟩ fun k hk => ?_
  rcases hk with ⟨o, n', c, h⟩ | h
  · cases h; omega
  · exact h.elim
end Go.VC
namespace Go.Proofs.YtfbghcpdinlmcaaGreatDoor
open Go.VC

theorem cutB_len (s b : BitVec 256) : (cutB s b).length ≤ 2 := Nat.le_trans (List.length_filter_le _ _) (Nat.le_refl 2)
theorem partB_len (s : BitVec 256) : ∀ bl : List (BitVec 256), (bl.flatMap (cutB s)).length ≤ 2 * bl.length
  | [] => Nat.le_refl _
  | b :: bl => by
    have h1 := partB_len s bl
    have h2 := cutB_len s b
    rw [List.flatMap_cons, List.length_append, List.length_cons]; omega
theorem take_flat {α β : Type} (f : α → List β) {l : List α} {k : Nat} {x : α} (h : l[k]? = some x) : (l.take (k + 1)).flatMap f = (l.take k).flatMap f ++ f x := by
  rw [take_succ_snoc h, List.flatMap_append]; simp
theorem blocks_succ {sets : List (BitVec 256)} {k : Nat} {s : BitVec 256} (h : sets[k]? = some s) : blocksM (sets.take (k + 1)) = (blocksM (sets.take k)).flatMap (cutB s) := by
  unfold blocksM
  rw [take_succ_snoc h, List.foldl_append]; rfl
theorem zero2 : (Tryz.prog.info? 263).bind (·.zero) = some (.agg #[.int .u64 0, .int .u64 0, .int .u64 0, .int .u64 0, .int .u64 0, .int .u64 0, .int .u64 0, .int .u64 0]) := by kernel_rfl
theorem fill2 (x y : BitVec 256) : Instr.fill (fun i => some (i * 4, 4)) (Value.agg #[.int .u64 0, .int .u64 0, .int .u64 0, .int .u64 0, .int .u64 0, .int .u64 0, .int .u64 0, .int .u64 0]).cells [(0, setV x), (1, setV y)] = some (setL x ++ setL y).toArray := by
  unfold setV setL
  generalize wd x 0 = a0
  generalize wd x 1 = a1
  generalize wd x 2 = a2
  generalize wd x 3 = a3
  generalize wd y 0 = b0
  generalize wd y 1 = b1
  generalize wd y 2 = b2
  generalize wd y 3 = b3
  simp [Instr.fill, Value.cells]
theorem spliceS (s : BitVec 256) : splice (setL 0) 0 (setL s) = setL s := by simp [splice, setL]

set_option maxHeartbeats 8000000 in
theorem clsAtoms_c {S : Nat → Prop} {H : Heap} {sa : Option Addr} {sc : Nat} {sets : List (BitVec 256)} (hS : ∀ k, S k → k < H.size) (h : SlD tSet S H sa sc sets) (hsl : sets.length ≤ 1048576) :
    FnOk Tryz.prog 96 #[.slice sa sets.length sc] H fun v H' => Agr (Old H) H H' ∧ ∃ a cap, v = .slice a (atomsM sets).length cap ∧ SlD tSet (Old H') H' a cap (atomsM sets) := by
  refine FnOk.of_vc Tryz.func96 rfl (Tryz.call96 _) ?_
  (conv => whnf); refine pures (span_p 0 255 (by decide) (by decide) H) fun H1 ha1 => ?_
  rw [spanS_full]
  have st1 := (St.nil H).call ha1
  (conv => whnf); refine vbuild1 sl106 (setL (BitVec.allOnes 256)) rfl rfl (by decide) (by decide) ?_
  intro b2 H2 hb2 hs2 hk2 ha2
  have st2 := st1.new (T := tSet) (n := 1) (xs := [BitVec.allOnes 256]) hb2 hs2 hk2 ha2 (Ty.reps_one rfl) rfl (by decide)
  (conv => whnf)
  refine VLoop.mk [3, 21] (fun x : Nat × List (BitVec 256) × Option Addr × Nat => match x with | (k, bl, a, c) => [.slice a bl.length c, .int .i64 (k : Int)])
    (fun x H3 => x.1 ≤ sets.length ∧ x.2.1 = blocksM (sets.take x.1) ∧ St H H3 [pS tSet 101 x.2.2.1 x.2.1.length x.2.2.2 x.2.1]) (fun x _ => sets.length - x.1) ?_ ?_
  · (conv => whnf)
    exact ⟨(0, [BitVec.allOnes 256], some ⟨b2, 0, none⟩, 1), rfl, by simp, rfl, st2⟩
  · rintro ⟨k, bl, a3, c3⟩ H3 junk ⟨hk, hbl, st3⟩
    simp only at hk hbl st3
    have hpo := part_ok (sets.take k)
    rw [← hbl] at hpo
    have hlen := hpo.len
    (conv => whnf); refine VIte.mk (fun hz => ?_) (fun hz => ?_) <;> simp only [decide_eq_true_eq, decide_eq_false_iff_not] at hz
    · obtain ⟨s, hs⟩ := get_some (l := sets) (k := k) (by omega)
      have hsucc := blocks_succ hs
      rw [← hbl] at hsucc
      (conv => whnf); refine ixr (i := k) sl106 (h.frame (st3.old.mono hS)) hs rfl ?_
      rintro b4 o4 cs4 hSb4 hcells4 rfl
      (conv => whnf); refine ldN (cs := setL s) ag101 hcells4 trivial ?_
      (conv => whnf); refine valloc (setV 0) (setL 0) rfl rfl ?_
      intro p5 H5 hp5 hs5 hb5 ha5
      have st5 := st3.box hp5 hs5 hb5 ha5
      (conv => whnf); refine stNB (cs := setL s) st5 1 rfl rfl (show 0 + 4 ≤ 4 by decide) rfl fun H6 st6 => ?_
      rw [spliceS] at st6
      (conv => whnf)
      refine VLoop.mk [6, 27] (fun x : Nat × List (BitVec 256) × Option Addr × Nat => match x with | (j, nx, a, c) => [.slice a nx.length c, .int .i64 (j : Int)])
        (fun x H7 => x.1 ≤ bl.length ∧ x.2.1 = (bl.take x.1).flatMap (cutB s) ∧ St H H7 [pS tSet 101 a3 bl.length c3 bl, pB 101 p5 (setL s), pS tSet 101 x.2.2.1 x.2.1.length x.2.2.2 x.2.1]) (fun x _ => bl.length - x.1) ?_ ?_
      · (conv => whnf)
        exact ⟨(0, [], none, 0), rfl, by simp, rfl, StB.nils st6 tSet 101⟩
      · rintro ⟨j, nx, a7, c7⟩ H7 junk7 ⟨hj, hnx, st7⟩
        simp only at hj hnx st7
        (conv => whnf); refine VIte.mk (fun hz2 => ?_) (fun hz2 => ?_) <;> simp only [decide_eq_true_eq, decide_eq_false_iff_not] at hz2
        · obtain ⟨b, hb⟩ := get_some (l := bl) (k := j) (by omega)
          have hnl := partB_len s (bl.take j)
          rw [← hnx, List.length_take] at hnl
          (conv => whnf); refine ixO (j := j) sl106 st7 0 rfl hb rfl fun b8 o8 cs8 hO8 hc8 hr8 => ?_
          obtain rfl := hr8
          (conv => whnf); refine ldN (cs := setL b) ag101 hc8 trivial ?_
          (conv => whnf); refine valloc (setV 0) (setL 0) rfl rfl ?_
          intro p9 H9 hp9 hs9 hb9 ha9
          have st9 := st7.box hp9 hs9 hb9 ha9
          (conv => whnf); refine stNB (cs := setL b) st9 3 rfl rfl (show 0 + 4 ≤ 4 by decide) rfl fun H10 st10 => ?_
          rw [spliceS] at st10
          (conv => whnf); refine VDraw.held (Old H10) 99 (sq [0,1,3,4,7] (.f 2 (.f 5 (sq [6] .e)))) rfl (by kernel_rfl) ?_
          have q5 := st10.blk 1 rfl
          have q9 := st10.blk 3 rfl
          (conv => whnf); refine ldN (cs := setL b) ag101 (q9.cells fun j v hv => by rw [Nat.zero_add]; exact hv) q9.lt ?_
          (conv => whnf); refine ldN (cs := setL s) ag101 (q5.cells fun j v hv => by rw [Nat.zero_add]; exact hv) q5.lt ?_
          (conv => whnf); refine ldN (cs := setL b) ag101 (q9.cells fun j v hv => by rw [Nat.zero_add]; exact hv) q9.lt ?_
          (conv => whnf); refine ldN (cs := setL s) ag101 (q5.cells fun j v hv => by rw [Nat.zero_add]; exact hv) q5.lt ?_
          (conv => whnf); refine pures (meet_c b s H10) fun H11 ha11 => ?_
          have st11 := st10.call ha11
          refine ⟨ha11, ?_⟩
          (conv => whnf); refine pures (minus_c b s H11) fun H12 ha12 => ?_
          have st12 := st11.call ha12
          refine ⟨ha11.trans (ha12.mono fun k hk => old_lt ha11 hk), ?_⟩
          (conv => whnf); refine vbuildA ar263 _ zero2 (setL (b &&& s) ++ setL (b &&& ~~~s)) (fill2 _ _) ?_
          have hcut : cutB s b = [b &&& s, b &&& ~~~s].filter fun x => !decide (x = 0) := rfl
          generalize b &&& s = x0 at *
          generalize b &&& ~~~s = x1 at *
          (conv => whnf)
          refine VLoop.mk [6, 38] (fun x : Nat × List (BitVec 256) × Option Addr × Nat => match x with | (i, nx, a, c) => [.slice a nx.length c, .int .i64 (i : Int)])
            (fun x H13 => x.1 ≤ 2 ∧ x.2.1 = nx ++ ([x0, x1].take x.1).filter (fun x => !decide (x = 0)) ∧ x.2.1.length ≤ nx.length + x.1 ∧ St H H13 [pS tSet 101 a3 bl.length c3 bl, pB 101 p5 (setL s), pS tSet 101 x.2.2.1 x.2.1.length x.2.2.2 x.2.1, pB 101 p9 (setL b)]) (fun x _ => 2 - x.1) ?_ ?_
          · (conv => whnf)
            exact ⟨(0, nx, a7, c7), rfl, by simp, by simp, by simp, st12⟩
          · rintro ⟨i, ny, a13, c13⟩ H13 junk13 ⟨hi, hny, hnyl, st13⟩
            simp only at hi hny hnyl st13
            (conv => whnf); refine VIte.mk (fun hz3 => ?_) (fun hz3 => ?_) <;> simp only [decide_eq_true_eq, decide_eq_false_iff_not] at hz3
            · have hi2 : i = 0 ∨ i = 1 := by omega
              obtain ⟨x, hx⟩ : ∃ x, [x0, x1][i]? = some x := get_some (by simp; omega)
              have e : Value.agg (((setL x0 ++ setL x1).toArray).extract (((i : Nat) : Int).toNat * 4) (((i : Nat) : Int).toNat * 4 + 4)) = setV x := by
                rcases hi2 with rfl | rfl <;> cases hx <;> rfl
              have hnext : nx ++ ([x0, x1].take (i + 1)).filter (fun x => !decide (x = 0)) = ny ++ [x].filter (fun x => !decide (x = 0)) := by
                rw [hny, take_succ_snoc hx, List.filter_append, List.append_assoc]
              (conv => whnf); refine VSeq.run ?_
              (conv => whnf); refine ixvN (i := (i : Int)) ar263 ag101 (by omega) (show (i : Int) < ((2 : Nat) : Int) by omega) ?_
              rw [e]
              (conv => whnf); refine valloc (setV 0) (setL 0) rfl rfl ?_
              intro p14 H14 hp14 hs14 hb14 ha14
              have st14 := st13.box hp14 hs14 hb14 ha14
              (conv => whnf); refine stNB (cs := setL x) st14 4 rfl rfl (show 0 + 4 ≤ 4 by decide) rfl fun H15 st15 => ?_
              rw [spliceS] at st15
              have q15 := st15.blk 4 rfl
              (conv => whnf); refine ldN (cs := setL x) ag101 (q15.cells fun j v hv => by rw [Nat.zero_add]; exact hv) trivial ?_
              (conv => whnf); refine vbuildA ar101 (setV 0) rfl (setL 0) rfl ?_
              (conv => whnf); refine set_neq x 0 ?_
              by_cases hx0 : x = 0
              · have d : (!decide (x = 0)) = false := by rw [decide_eq_true hx0]; rfl
                rw [d]
                have hf : [x].filter (fun x => !decide (x = 0)) = [] := List.filter_cons_of_neg (p := fun x => !decide (x = 0)) (by rw [d]; decide)
                rw [hf, List.append_nil] at hnext
                (conv => whnf); rw [w64 (x := (i : Int) + 1) (by omega) (by omega)]
                refine ⟨rfl, (i + 1, ny, a13, c13), by simp, ⟨by simp only; omega, hnext.symm, by simp only; omega, ?_⟩, by simp only; omega⟩
                exact st15.pick [0, 1, 2, 3] (by decide)
              · have d : (!decide (x = 0)) = true := by rw [decide_eq_false hx0]; rfl
                rw [d]
                have hf : [x].filter (fun x => !decide (x = 0)) = [x] := List.filter_cons_of_pos (p := fun x => !decide (x = 0)) d
                rw [hf] at hnext
                (conv => whnf); refine ldN (cs := setL x) ag101 (q15.cells fun j v hv => by rw [Nat.zero_add]; exact hv) trivial ?_
                (conv => whnf); refine vbuild1 sl106 (setL x) rfl rfl (by decide) (by decide) ?_
                intro q16 H16 hq16 hs16 hb16 ha16
                have st16 := st15.skip hq16 ha16
                (conv => whnf); refine appO (ys := [x]) (ds := setL x) st16 2 sl106 rfl (hb16.cells fun j v hv => by rw [Nat.zero_add]; exact hv) (Ty.reps_one rfl) rfl (by simp [setL, Value.oneCell']) (by simp only [List.length_singleton]; omega) (by decide) fun a' c' H17 st17 _ => ?_
                (conv => whnf); rw [w64 (x := (i : Int) + 1) (by omega) (by omega)]
                refine ⟨rfl, (i + 1, ny ++ [x], a', c'), by simp, ⟨by simp only; omega, hnext.symm, by simp only [List.length_append, List.length_singleton]; omega, ?_⟩, by simp only; omega⟩
                simp only [List.length_append]
                exact st17.pick [0, 1, 2, 3] (by decide)
            · obtain rfl : i = 2 := by omega
              have hnb : ny = (bl.take (j + 1)).flatMap (cutB s) := by
                rw [take_flat (cutB s) hb, ← hnx, hny, hcut]; rfl
              (conv => whnf); rw [w64 (x := (j : Int) + 1) (by omega) (by omega)]
              refine ⟨rfl, (j + 1, ny, a13, c13), by simp, ⟨by simp only; omega, hnb, ?_⟩, by simp only; omega⟩
              exact st13.pick [0, 1, 2] (by decide)
        · obtain rfl : j = bl.length := by omega
          rw [List.take_length] at hnx
          (conv => whnf); rw [w64 (x := (k : Int) + 1) (by omega) (by omega)]
          refine ⟨rfl, (k + 1, nx, a7, c7), by simp, ⟨by simp only; omega, by simp only; rw [hsucc, hnx], ?_⟩, by simp only; omega⟩
          exact st7.pick [2] (by decide)
    · obtain rfl : k = sets.length := by omega
      rw [List.take_length] at hbl hpo
      have hone : ∀ x : BitVec 256, ((nextM x 0).1 : Int) = ((nextM x 0).1 : Int) := fun _ => rfl
      (conv => whnf); refine vmake sl106 (by omega) (by omega) (by omega) (by omega) ?_
      intro p5 H5 hp5 hs5 hb5 ha5
      rw [Int.toNat_natCast] at hb5
      rw [Int.toNat_natCast, Int.toNat_zero]
      have st5 := st3.newCap (T := tSet) (cap := bl.length) hp5 hs5 hb5 ha5 (by simp [tSet]) (by unfold maxLen; omega)
      have hrl := reps_len sets
      (conv => whnf)
      refine VLoop.mk [11, 55] (fun x : Nat × List (BitVec 256) × Option Addr × Nat => match x with | (b, out, a, c) => [.slice a out.length c, .int .i64 (b : Int)])
        (fun x H6 => x.1 ≤ 256 ∧ x.2.1 = (List.range x.1).flatMap (atomsAt bl) ∧ St H H6 [pS tSet 101 a3 bl.length c3 bl, pS tSet 101 x.2.2.1 x.2.1.length x.2.2.2 x.2.1]) (fun x _ => 256 - x.1) ?_ ?_
      · (conv => whnf)
        exact ⟨(0, [], some ⟨p5, 0, none⟩, bl.length), rfl, by simp, rfl, st5⟩
      · rintro ⟨b, out, a6, c6⟩ H6 junk6 ⟨hb, hout, st6⟩
        simp only at hb hout st6
        have hol : out.length ≤ b * 256 := by
          rw [hout]
          clear hout
          induction b with
          | zero => simp
          | succ b ih =>
            have h1 := ih (by omega)
            have h2 : (atomsAt bl b).length ≤ bl.length := List.length_filter_le _ _
            rw [List.range_succ, List.flatMap_append, List.length_append]
            simp only [List.flatMap_cons, List.flatMap_nil, List.append_nil]
            omega
        (conv => whnf); refine VIte.mk (fun hz2 => ?_) (fun hz2 => ?_) <;> simp only [decide_eq_true_eq, decide_eq_false_iff_not] at hz2
        · have hnext : (List.range (b + 1)).flatMap (atomsAt bl) = out ++ atomsAt bl b := by
            rw [hout, List.range_succ, List.flatMap_append]; simp
          (conv => whnf)
          refine VLoop.mk [11, 60] (fun x : Nat × List (BitVec 256) × Option Addr × Nat => match x with | (j, o, a, c) => [.slice a o.length c, .int .i64 (j : Int)])
            (fun x H7 => x.1 ≤ bl.length ∧ x.2.1 = out ++ (bl.take x.1).filter (fun s => (nextM s 0).1 == b) ∧ x.2.1.length ≤ out.length + x.1 ∧ St H H7 [pS tSet 101 a3 bl.length c3 bl, pS tSet 101 x.2.2.1 x.2.1.length x.2.2.2 x.2.1]) (fun x _ => bl.length - x.1) ?_ ?_
          · (conv => whnf)
            exact ⟨(0, out, a6, c6), rfl, by simp, by simp, by simp, st6⟩
          · rintro ⟨j, o, a7, c7⟩ H7 junk7 ⟨hj, ho, hoL, st7⟩
            simp only at hj ho hoL st7
            (conv => whnf); refine VIte.mk (fun hz3 => ?_) (fun hz3 => ?_) <;> simp only [decide_eq_true_eq, decide_eq_false_iff_not] at hz3
            · obtain ⟨x, hx⟩ := get_some (l := bl) (k := j) (by omega)
              have hnx : out ++ (bl.take (j + 1)).filter (fun s => (nextM s 0).1 == b) = o ++ [x].filter (fun s => (nextM s 0).1 == b) := by
                rw [ho, take_succ_snoc hx, List.filter_append, List.append_assoc]
              (conv => whnf); refine VSeq.run ?_
              (conv => whnf); refine ixO (j := j) sl106 st7 0 rfl hx rfl fun b8 o8 cs8 hO8 hc8 hr8 => ?_
              obtain rfl := hr8
              (conv => whnf); refine ldN (cs := setL x) ag101 hc8 trivial ?_
              (conv => whnf); refine valloc (setV 0) (setL 0) rfl rfl ?_
              intro p9 H9 hp9 hs9 hb9 ha9
              have st9 := st7.box hp9 hs9 hb9 ha9
              (conv => whnf); refine stNB (cs := setL x) st9 2 rfl rfl (show 0 + 4 ≤ 4 by decide) rfl fun H10 st10 => ?_
              rw [spliceS] at st10
              (conv => whnf); refine ldN (cs := setL x) ag101 ((st10.blk 2 rfl).cells fun j v hv => by rw [Nat.zero_add]; exact hv) trivial ?_
              (conv => whnf); refine pures (next_p x 0 (by decide) H10) fun H11 ha11 => ?_
              have st11 := st10.call ha11
              have q11 := st11.blk 2 rfl
              have hn8 := nextM_lt x 0
              (conv => whnf); rw [w64 (x := ((nextM x 0).1 : Int)) (by omega) (by omega)]
              cases hd : ((nextM x 0).1 == b) with
              | false =>
                have d : (((nextM x 0).1 : Int) == (b : Int)) = false := by
                  rw [beq_eq_false_iff_ne] at hd ⊢; omega
                have hf : [x].filter (fun s => (nextM s 0).1 == b) = [] := List.filter_cons_of_neg (p := fun s => (nextM s 0).1 == b) (by rw [hd]; decide)
                rw [hf, List.append_nil] at hnx
                (conv => whnf); rw [d]
                (conv => whnf); rw [w64 (x := (j : Int) + 1) (by omega) (by omega)]
                refine ⟨rfl, (j + 1, o, a7, c7), by simp, ⟨by simp only; omega, hnx.symm, by simp only; omega, ?_⟩, by simp only; omega⟩
                exact st11.pick [0, 1] (by decide)
              | true =>
                have d : (((nextM x 0).1 : Int) == (b : Int)) = true := by
                  rw [beq_iff_eq] at hd ⊢; omega
                have hf : [x].filter (fun s => (nextM s 0).1 == b) = [x] := List.filter_cons_of_pos (p := fun s => (nextM s 0).1 == b) hd
                rw [hf] at hnx
                (conv => whnf); rw [d]
                (conv => whnf); refine ldN (cs := setL x) ag101 (q11.cells fun j v hv => by rw [Nat.zero_add]; exact hv) trivial ?_
                (conv => whnf); refine vbuild1 sl106 (setL x) rfl rfl (by decide) (by decide) ?_
                intro q12 H12 hq12 hs12 hb12 ha12
                have st12 := st11.skip hq12 ha12
                (conv => whnf); refine appO (ys := [x]) (ds := setL x) st12 1 sl106 rfl (hb12.cells fun j v hv => by rw [Nat.zero_add]; exact hv) (Ty.reps_one rfl) rfl (by simp [setL, Value.oneCell']) (by simp only [List.length_singleton]; omega) (by decide) fun a' c' H13 st13 _ => ?_
                (conv => whnf); rw [w64 (x := (j : Int) + 1) (by omega) (by omega)]
                refine ⟨rfl, (j + 1, o ++ [x], a', c'), by simp, ⟨by simp only; omega, hnx.symm, by simp only [List.length_append, List.length_singleton]; omega, ?_⟩, by simp only; omega⟩
                simp only [List.length_append]
                exact st13.pick [0, 1] (by decide)
            · obtain rfl : j = bl.length := by omega
              rw [List.take_length] at ho
              (conv => whnf); rw [w64 (x := (b : Int) + 1) (by omega) (by omega)]
              exact ⟨rfl, (b + 1, o, a7, c7), by simp, ⟨by simp only; omega, by simp only; rw [hnext, ho]; rfl, st7⟩, by simp only; omega⟩
        · obtain rfl : b = 256 := by omega
          have hfin : out = atomsM sets := by rw [hout, hbl]; rfl
          have hv := st6.view 1 rfl
          subst hfin
          (conv => whnf)
          exact ⟨st6.old, _, _, rfl, hv⟩
end Go.Proofs.YtfbghcpdinlmcaaGreatDoor
/- (*dfa.net).close: the name of all that silent ways reach: the walk. -/
set_option linter.unusedVariables false
set_option linter.unusedSimpArgs false
set_option maxRecDepth 100000
namespace Go.VC
section
variable {α : Type} {T : Ty α} {e : TypeId} {a : Option Addr} {n cap : Nat} {xs ys : List α} {B S : Nat → Prop} {H0 H : Heap} {ps : List Pc}
/-- append of a slice that is only read, which may be long. -/
theorem appSDL {P : Program} {t ty by_ : Nat} {z : Value} {a2 : Option Addr} {c2 : Nat} {K : Value → Heap → Prop} (hf : T.Free) (hone : T.Ones) (st : StB B H0 H ps) (i : Nat) (ht : SlT P t e T.size by_ z) (hp : ps[i]? = some (pS T e a n cap xs)) (hSB : ∀ k, S k → B k) (hy : SlD T S H a2 c2 ys)
    (h63 : xs.length + ys.length ≤ 1099511627776) (hby : by_ ≤ 64)
    (k : ∀ a' cap' H', StB B H0 H' (ps.set i (pS T e a' (xs.length + ys.length) cap' (xs ++ ys))) → K (.slice a' (xs.length + ys.length) cap') H') :
    VEff P (Builtin.append_ #[t, t] ty [.slice a n cap, .slice a2 ys.length c2].toArray) H K := by
  refine vappendD (T := T) (S := S) (lo := 0) ht hone ((st.at_ i hp).1.free hf) (Nat.zero_le _) (fun k hk => ⟨st.up (hSB k hk), fun hb => (st.in_ i hp (.inl hb)).1 (hSB k hk)⟩) hy (by unfold maxLen; omega) (by have := Nat.mul_le_mul h63 hby; omega) ?_
  intro v' H' hown hagr hsz hfr
  have hown : SlO T none_ H' 0 e v' (xs ++ ys) := hown.free hf
  obtain ⟨a', cap', rfl⟩ := hown.hull
  rw [List.length_append] at hown hfr ⊢
  refine k a' cap' H' (st.upd i hp (hagr.mono fun k hk => ⟨hk.1, fun hb => hk.2 (.inl hb)⟩) _ ⟨hown, fun k hk => hk.elim⟩ (fun k hk => ?_) (fun k hk => ?_) hsz)
  · rcases hk with hk | hk
    · rcases hfr k hk with h | h
      · exact .inl (.inl h)
      · exact .inr h
    · exact hk.elim
  · rcases hk with hk | hk
    · exact (hown.lt hk).2
    · exact hk.elim
theorem StB.capI (st : StB B H0 H ps) (i : Nat) (hp : ps[i]? = some (pS T e a n cap xs)) : xs.length ≤ cap := by
  obtain ⟨cs, ⟨-, h⟩, -⟩ := (st.at_ i hp).1
  rcases h with ⟨-, h⟩ | ⟨b, c, l, h1, -, -, h2, -⟩
  · omega
  · injection h1 with e1 e2 e3
    omega
/-- The last one taken off. -/
theorem StB.popI {x : α} (st : StB B H0 H ps) (i : Nat) (hp : ps[i]? = some (pS T e a n cap (xs ++ [x]))) : StB B H0 H (ps.set i (pS T e a xs.length cap xs)) := by
  have hown := (st.at_ i hp).1
  refine st.say i hp _ ⟨hown.pop, fun k hk => hk.elim⟩ fun k hk => ?_
  rcases hk with ⟨o, m, c, hk⟩ | hk
  · injection hk with e1 e2 e3
    subst e1
    exact .inl ⟨o, n, cap, rfl⟩
  · exact hk.elim
end
/-- How many keys a map has, where no list of its keys is longer. -/
theorem mlenB {α : Type} {Ok : α → Prop} {enc : α → Value} {P : Program} {t kt et vt : TypeId} {z : Value} {S : Nat → Prop} {H : Heap} {b N : Nat} {m : α → Option Value} (ht : MapTW P t kt et z) (h : MapW Ok enc H b m) (hb : S b) (hN : ∀ l : List α, l.Nodup → (∀ a ∈ l, (m a).isSome = true) → l.length ≤ N) {K : Value → Prop}
    (k : ∀ c : Nat, c ≤ N → K (.int .i64 (c : Int))) : VDet P (Builtin.len_ #[t] vt [.map (some b)].toArray) S H K := by
  obtain ⟨⟨es, clock, h1, h2, h3, h4⟩, hok⟩ := h
  have pre : ∀ k, k ≤ es.size → ∃ l : List α, l.length = k ∧ ∀ (j : Nat) (a : α), l[j]? = some a → ∃ x, es[j]? = some x ∧ x.key = enc a ∧ m a = some x.val := by
    intro k
    induction k with
    | zero => exact fun _ => ⟨[], rfl, fun j a h => by simp at h⟩
    | succ k ih =>
      intro hk
      obtain ⟨l, hl, hg⟩ := ih (by omega)
      have hx : es[k]? = some es[k] := Array.getElem?_eq_getElem (by omega)
      obtain ⟨a, e1, e2⟩ := h3 k _ hx
      refine ⟨l ++ [a], by simp [hl], fun j a' hj => ?_⟩
      by_cases hjk : j < k
      · rw [List.getElem?_append_left (by omega)] at hj
        exact hg j a' hj
      · have hjl := (List.getElem?_eq_some_iff.1 hj).1
        simp only [List.length_append, List.length_cons, List.length_nil] at hjl
        obtain rfl : j = k := by omega
        rw [List.getElem?_append_right (by omega), hl, Nat.sub_self] at hj
        simp only [List.getElem?_cons_zero, Option.some.injEq] at hj
        subst hj
        exact ⟨_, hx, e1, e2⟩
  obtain ⟨l, hl, hg⟩ := pre es.size (Nat.le_refl _)
  have hnd : l.Nodup := by
    unfold List.Nodup
    rw [List.pairwise_iff_getElem]
    intro i j hi hj hij e
    obtain ⟨x, hx, hkx, -⟩ := hg i _ (List.getElem?_eq_getElem hi)
    obtain ⟨y, hy, hky, -⟩ := hg j _ (List.getElem?_eq_getElem hj)
    rw [e] at hkx
    have := stamped_key h2 hx hy (hkx.trans hky.symm)
    omega
  have hle := hN l hnd fun a ha => by
    obtain ⟨j, hj⟩ := List.getElem?_of_mem ha
    obtain ⟨x, -, -, e⟩ := hg j a hj
    rw [e]; rfl
  refine VDet.mk _ (fun w hw => ?_) (k es.size (by omega))
  have hb' := (hw b hb).trans h1
  simp [Builtin.len_, run_underlying ht.under, Go.MapKept.run_getObj_map hb', goInt]
end Go.VC
namespace Go.Proofs.YtfbghcpdinlmcaaGreatDoor
open Go.VC
theorem mss_le (X : PS) : mss X ≤ 65536 := by unfold mss; exact lstS_len _
/-- What silent ways lead to is all among the rows. -/
theorem silT_row {a : NfM} {q : Int} (h : a.has q = true) : ∃ row, (silT a)[q.toNat]? = some row ∧ row.length ≤ a.edges.length ∧ ∀ p, p ∈ row ↔ ∃ e ∈ a.edges, e.sil = true ∧ e.fr = q ∧ a.has e.to = true ∧ p = e.to := by
  have hn : 0 ≤ q ∧ q < (nstA a : Int) := by
    have := has_n a q
    rw [h] at this
    simpa using this.symm
  refine ⟨_, grp_get _ _ (by omega), List.length_filterMap_le _ _, fun p => ?_⟩
  rw [List.mem_filterMap]
  constructor
  · rintro ⟨e, he, h1⟩
    unfold keyS okE at h1
    split at h1
    · rename_i hk
      simp only [Bool.and_eq_true] at hk
      rw [Option.bind_some] at h1
      have hfr := (NfM.has_iff.1 hk.1.1)
      split at h1
      · rename_i h2
        injection h1 with h1
        exact ⟨e, he, hk.2, by simp only at h2; omega, hk.1.2, h1.symm⟩
      · cases h1
    · simp at h1
  · rintro ⟨e, he, h1, rfl, h3, rfl⟩
    refine ⟨e, he, ?_⟩
    unfold keyS okE
    rw [h, h3, h1]
    simp
structure ClsI (a : NfM) (X : List Int) (todo : List Int) (mm : Int → Option Value) : Prop where
  has : ∀ q ∈ todo, a.has q = true
  one : ∀ p, Dom mm p → mm p = some (.int .i64 1)
  tcl : ∀ p ∈ todo, clS a (· ∈ X) p
  mcl : ∀ p, Dom mm p → clS a (· ∈ X) p
  all : ∀ x ∈ X, Dom mm x ∨ x ∈ todo
  shut : ∀ p, Dom mm p → ∀ e ∈ a.edges, e.sil = true → e.fr = p → a.has e.to = true → Dom mm e.to ∨ e.to ∈ todo
  len : todo.length ≤ X.length + (65536 - mss (Dom mm)) * 1048576
theorem ClsI.done {a : NfM} {X : List Int} {mm : Int → Option Value} (h : ClsI a X [] mm) : ∀ q, Dom mm q ↔ clS a (· ∈ X) q := fun q =>
  ⟨h.mcl q, clS_least (Y := Dom mm) (fun x hx => (h.all x hx).elim id fun h => by cases h) (fun e he hs ht hf => (h.shut e.fr hf e he hs rfl ht).elim id fun h => by cases h) q⟩
theorem ClsI.old_ {a : NfM} {X todo : List Int} {mm : Int → Option Value} {q : Int} (h : ClsI a X (todo ++ [q]) mm) (hq : Dom mm q) : ClsI a X todo mm := by
  refine ⟨fun p hp => h.has p (List.mem_append_left _ hp), h.one, fun p hp => h.tcl p (List.mem_append_left _ hp), h.mcl, fun x hx => ?_, fun p hp e he h1 h2 h3 => ?_, ?_⟩
  · rcases h.all x hx with h1 | h1
    · exact .inl h1
    · rcases List.mem_append.1 h1 with h1 | h1
      · exact .inr h1
      · rw [List.mem_singleton] at h1; subst h1; exact .inl hq
  · rcases h.shut p hp e he h1 h2 h3 with h4 | h4
    · exact .inl h4
    · rcases List.mem_append.1 h4 with h4 | h4
      · exact .inr h4
      · rw [List.mem_singleton] at h4; rw [h4]; exact .inl hq
  · have := h.len
    simp only [List.length_append, List.length_cons, List.length_nil] at this
    omega
theorem ClsI.new_ {a : NfM} {X todo row : List Int} {mm : Int → Option Value} {q : Int} (h : ClsI a X (todo ++ [q]) mm) (hq : ¬ Dom mm q) (hrl : row.length ≤ 1048576) (hrow : ∀ p, p ∈ row ↔ ∃ e ∈ a.edges, e.sil = true ∧ e.fr = q ∧ a.has e.to = true ∧ p = e.to) :
    ClsI a X (todo ++ row) (put mm q (some (.int .i64 1))) ∧ mss (Dom (put mm q (some (.int .i64 1)))) < mss (Dom mm) := by
  have hqh := h.has q (by simp)
  have hqr := NfM.has_iff.1 hqh
  have hqc := h.tcl q (by simp)
  have hlt : mss (Dom (put mm q (some (.int .i64 1)))) < mss (Dom mm) := mss_lt (fun p hp => (dom_put p).2 (.inl hp)) hqr.1 (by omega) hq ((dom_put q).2 (.inr rfl))
  refine ⟨⟨fun p hp => ?_, fun p hp => ?_, fun p hp => ?_, fun p hp => ?_, fun x hx => ?_, fun p hp e he h1 h2 h3 => ?_, ?_⟩, hlt⟩
  · rcases List.mem_append.1 hp with hp | hp
    · exact h.has p (List.mem_append_left _ hp)
    · obtain ⟨e, -, -, -, h4, rfl⟩ := (hrow p).1 hp; exact h4
  · by_cases hpq : p = q
    · subst hpq; unfold put; rw [if_pos rfl]
    · rcases (dom_put p).1 hp with h1 | h1
      · unfold put; rw [if_neg hpq]; exact h.one p h1
      · exact absurd h1 hpq
  · rcases List.mem_append.1 hp with hp | hp
    · exact h.tcl p (List.mem_append_left _ hp)
    · obtain ⟨e, h1, h2, h3, h4, rfl⟩ := (hrow p).1 hp
      exact clS_shut a _ e h1 h2 h4 (by rw [h3]; exact hqc)
  · rcases (dom_put p).1 hp with h1 | h1
    · exact h.mcl p h1
    · rw [h1]; exact hqc
  · rcases h.all x hx with h1 | h1
    · exact .inl ((dom_put x).2 (.inl h1))
    · rcases List.mem_append.1 h1 with h1 | h1
      · exact .inr (List.mem_append_left _ h1)
      · rw [List.mem_singleton] at h1; exact .inl ((dom_put x).2 (.inr h1))
  · by_cases hpq : p = q
    · subst hpq
      exact .inr (List.mem_append_right _ ((hrow e.to).2 ⟨e, he, h1, h2, h3, rfl⟩))
    · rcases (dom_put p).1 hp with h4 | h4
      · rcases h.shut p h4 e he h1 h2 h3 with h5 | h5
        · exact .inl ((dom_put _).2 (.inl h5))
        · rcases List.mem_append.1 h5 with h5 | h5
          · exact .inr (List.mem_append_left _ h5)
          · rw [List.mem_singleton] at h5; exact .inl ((dom_put _).2 (.inr h5))
      · exact absurd h4 hpq
  · have := h.len
    have hle := mss_le (Dom mm)
    simp only [List.length_append, List.length_cons, List.length_nil] at this ⊢
    have e1 : (65536 - mss (Dom mm)) + 1 ≤ 65536 - mss (Dom (put mm q (some (.int .i64 1)))) := by omega
    have e2 := Nat.mul_le_mul_right 1048576 e1
    omega
abbrev tByt : TypeId := 5
set_option maxHeartbeats 16000000 in
theorem close_c {S : Nat → Prop} {H0 H : Heap} {v : Value} {a : NfM} {la : Option Addr} {lc : Nat} {X : List Int} (st : St H0 H [pS tIk 3 la X.length lc X]) (hS : ∀ k, S k → k < H0.size) (hv : NetV S H0 v a) (hX : ∀ q ∈ X, a.has q = true) (hXl : X.length ≤ 68719476736) (hel : a.edges.length ≤ 1048576) (hpow : PowH Tryz.prog H0) :
    FnOk Tryz.prog 89 #[v, .slice la X.length lc] H fun r H' => r = .string (nmB (lstS (clS a (· ∈ X)))) ∧ Agr (Old H0) H0 H' := by
  obtain ⟨nb, sa, sc, ta, tc, rfl, hnb, hcells, hsil, -⟩ := hv
  have hnle := nstA_le a
  refine FnOk.of_vc Tryz.func89 rfl (Tryz.call89 _) ?_
  (conv => whnf); refine mmakeW (Ok := anyK) (enc := kI) fun mb H1 hb1 hs1 hm1 ha1 => ?_
  have st1 := st.mapNewW hb1 hs1 hm1 ha1
  (conv => whnf)
  refine VLoop.mk [1] (fun x : List Int × Option Addr × Nat × (Int → Option Value) => match x with | (todo, a5, c5, mm) => [.slice a5 todo.length c5])
    (fun x H2 => ClsI a X x.1 x.2.2.2 ∧ St H0 H2 [pS tIk 3 x.2.1 x.1.length x.2.2.1 x.1, pMW anyK kI mb x.2.2.2]) (fun x _ => mss (Dom x.2.2.2) * 1048578 + x.1.length) ?_ ?_
  · (conv => whnf)
    refine ⟨(X, la, lc, fun _ => none), rfl, ⟨hX, (fun p hp => by cases hp), fun p hp => clS_in hp, (fun p hp => by cases hp), fun x hx => .inr hx, (fun p hp => by cases hp), Nat.le_add_right _ _⟩, st1⟩
  · rintro ⟨todo, a5, c5, mm⟩ H2 junk2 ⟨hI, st2⟩
    simp only at hI st2
    have hlen := hI.len
    have htl : todo.length ≤ 137438953472 := by
      have : (65536 - mss (Dom mm)) * 1048576 ≤ 65536 * 1048576 := Nat.mul_le_mul_right _ (by omega)
      omega
    (conv => whnf); refine VIte.mk (fun hz => ?_) (fun hz => ?_) <;> simp only [decide_eq_true_eq, decide_eq_false_iff_not] at hz
    · have hne : todo ≠ [] := fun e => by subst e; simp at hz
      obtain ⟨td, q, rfl⟩ : ∃ td q, todo = td ++ [q] := ⟨todo.dropLast, todo.getLast hne, (List.dropLast_concat_getLast hne).symm⟩
      have hll : (td ++ [q]).length = td.length + 1 := by simp
      have hqh := hI.has q (by simp)
      have hget : (td ++ [q])[td.length]? = some q := by simp
      have w1 : IntKind.wrap .i64 (((td ++ [q]).length : Int) - 1) = (td.length : Int) := by rw [hll, w64 (by omega) (by omega)]; omega
      (conv => whnf); rw [w1]
      (conv => whnf); refine ixr (i := td.length) sl41 (st2.view 0 rfl) hget rfl ?_
      rintro b3 o3 c3 hS3 hc3 ⟨rfl, hqk⟩
      (conv => whnf); refine ld1 ct3 hc3.one trivial ?_
      (conv => whnf); rw [w1]
      (conv => whnf); refine vcutH sl41 (by omega) (by have := st2.capI 0 rfl; omega) ?_
      rw [Int.toNat_natCast]
      have st3 := st2.popI 0 rfl
      (conv => whnf); refine mlookW (a := q) mapII keyIW trivial (st3.mapW 1 rfl) trivial ?_
      cases hmq : mm q with
      | some w =>
        have hdq : Dom mm q := by unfold Dom; rw [hmq]; rfl
        have hw := hI.one q hdq
        rw [hmq] at hw
        injection hw with hw
        subst hw
        (conv => whnf)
        exact ⟨rfl, (td, a5, c5, mm), rfl, ⟨hI.old_ hdq, st3⟩, by simp only [List.length_append, List.length_cons, List.length_nil]; omega⟩
      | none =>
        have hnq : ¬ Dom mm q := by unfold Dom; rw [hmq]; decide
        obtain ⟨row, hrow, hrl, hrm⟩ := silT_row hqh
        obtain ⟨hI2, hlt⟩ := hI.new_ hnq (Nat.le_trans hrl hel) hrm
        (conv => whnf); refine mputPW (a := q) st3 1 mapII keyIW trivial rfl rfl fun H4 st4 => ?_
        (conv => whnf); refine fa fl172_0 ?_
        (conv => whnf); refine ld1 (v := .slice sa (nstA a) sc) ct35 ((hcells.eq (st4.old nb (hS nb hnb))) 0 _ rfl) trivial ?_
        (conv => whnf); refine ixrn (i := q.toNat) sl35 (hsil.frame (st4.old.mono hS)) (grp_len _ _ _).symm hrow (by have := NfM.has_iff.1 hqh; omega) ?_
        rintro b5 o5 cs5 hS5 hc5 ⟨ra, rc, rfl, hrd⟩
        (conv => whnf); refine ld1 ct41 hc5.one trivial ?_
        (conv => whnf); refine appSDL (S := S) (tInt_free .i64) (tInt_ones .i64) st4 0 sl41 rfl hS hrd (by simp only [List.length_append, List.length_cons, List.length_nil] at htl; omega) (by decide) fun a6 c6 H6 st6 => ?_
        (conv => whnf)
        refine ⟨rfl, (td ++ row, a6, c6, put mm q (some (.int .i64 1))), by simp only [List.length_append], ⟨hI2, ?_⟩, ?_⟩
        · simp only [List.length_append]
          exact st6
        · have e2 := Nat.mul_le_mul_right 1048578 (Nat.succ_le_of_lt hlt)
          simp only [List.length_append, List.length_cons, List.length_nil]
          omega
    · obtain rfl : todo = [] := List.eq_nil_of_length_eq_zero (by omega)
      have hdone := hI.done
      have hrng : ∀ q, Dom mm q → 0 ≤ q ∧ q < 65536 := fun q hq => has_rng (clS_has (X := (· ∈ X)) hX) q ((hdone q).1 hq)
      (conv => whnf); refine mlenB (N := 65536) mapII (st2.mapW 1 rfl) trivial (fun l hl hin => nodupI_len 65536 l hl fun x hx => hrng x (hin x hx)) fun c hc => ?_
      (conv => whnf); refine vmake1 sl41 rfl (by omega) (by omega) (by omega) (by omega) ?_
      intro ab H3 hab hs3 hb3 ha3
      rw [Int.toNat_natCast] at hb3
      rw [Int.toNat_natCast, show (0 : Int).toNat = 0 from rfl]
      have st3 := st2.newCap (T := tIk) (cap := c) hab hs3 hb3 ha3 (by simp [tInt]) (by unfold maxLen; omega)
      (conv => whnf); refine mrangeP st3 1 mapII rfl fun r n3 H4 st4 => ?_
      (conv => whnf)
      refine VLoop.mk [7] (fun x : List Int × Option Addr × Nat × Nat => match x with | (ks, a5, c5, n) => [.slice a5 ks.length c5])
        (fun x H5 => x.1.Nodup ∧ (∀ q ∈ x.1, Dom mm q) ∧ ∃ D last, (∀ q, D q ↔ q ∈ x.1) ∧ St H0 H5 [pIW anyK kI mb r mm D last x.2.2.2, pS tIk 3 x.2.1 x.1.length x.2.2.1 x.1]) (fun x _ => x.2.2.2) ?_ ?_
      · (conv => whnf)
        exact ⟨([], some ⟨ab, 0, none⟩, c, n3), rfl, List.Pairwise.nil, (fun q h => by cases h), _, none, fun q => ⟨fun h => h.elim, fun h => by cases h⟩, st4.pick [1, 2] (by decide)⟩
      · rintro ⟨ks, a5, c5, n5⟩ H5 junk5 ⟨hnd, hin, D, last, hD, st5⟩
        simp only at hnd hin hD st5
        have hkl := nodupI_len 65536 ks hnd fun x hx => hrng x (hin x hx)
        (conv => whnf); refine mnextP st5 0 keyIW.inj rfl (fun hall => ?_) fun q v H6 n6 hq hnD hlt st6 => ?_
        · have hset : ks.mergeSort (fun x y => decide (x ≤ y)) = lstS (clS a (· ∈ X)) := lstS_uniq (fun q hq => has_rng (clS_has (X := (· ∈ X)) hX) q hq) (sorted_srt hnd) fun q => by
            rw [List.mem_mergeSort, ← hdone q]
            exact ⟨hin q, fun h => (hD q).1 (hall q h)⟩
          have hL : ∀ q ∈ lstS (clS a (· ∈ X)), 0 ≤ q ∧ q < 65536 := fun q hq => has_rng (clS_has (X := (· ∈ X)) hX) q ((lstS_mem (has_rng (clS_has (X := (· ∈ X)) hX)) q).1 hq)
          have hLl : (lstS (clS a (· ∈ X))).length ≤ 65536 := lstS_len _
          have hel2 : (ks.mergeSort fun x y => decide (x ≤ y)).length = ks.length := List.length_mergeSort _
          (conv => whnf); refine sortI sorts_ st5 1 rfl (by omega) fun H7 st7 => ?_
          rw [hset] at st7 hel2
          rw [← hel2] at st7 ⊢
          generalize lstS (clS a (· ∈ X)) = L at *
          replace st7 : St H0 H7 [pIW anyK kI mb r mm D last n5, pS tIk 3 a5 L.length c5 L] := st7
          have hv7 := st7.view 1 rfl
          have hpow7 := hpow.agr st7.old
          have u7 : St H7 H7 [pS tU8 tByt none 0 0 []] := (St.nil H7).nils tU8 tByt
          (conv => whnf)
          refine VLoop.mk [9, 59] (fun x : Nat × Option Addr × Nat => match x with | (i, a9, c9) => [.slice a9 (nameN (L.take i)).length c9, .int .i64 (i : Int)])
            (fun x H8 => x.1 ≤ L.length ∧ (x.1 = 0 → x.2.1 = none) ∧ St H7 H8 [pS tU8 tByt x.2.1 (nameN (L.take x.1)).length x.2.2 ((nameN (L.take x.1)).map fun (y : Nat) => (y : Int))]) (fun x _ => L.length - x.1) ?_ ?_
          · (conv => whnf)
            exact ⟨(0, none, 0), rfl, Nat.zero_le _, fun _ => rfl, u7⟩
          · rintro ⟨i, a9, c9⟩ H8 junk8 ⟨hi, h09, st8⟩
            simp only at hi h09 st8
            (conv => whnf); refine VIte.mk (fun hz2 => ?_) (fun hz2 => ?_) <;> simp only [decide_eq_true_eq, decide_eq_false_iff_not] at hz2
            · obtain ⟨q, hq⟩ := get_some (l := L) (k := i) (by omega)
              have hqr := hL q (List.mem_of_getElem? hq)
              have hnl : (nameN (L.take i)).length ≤ 393216 := by
                have h1 := nameN_len (l := L.take i) fun x hx => hL x (List.mem_of_mem_take hx)
                have h2 : (L.take i).length ≤ 65536 := by rw [List.length_take]; omega
                omega
              have hml : ((nameN (L.take i)).map fun (y : Nat) => (y : Int)).length = (nameN (L.take i)).length := List.length_map _
              have hdl := dig_len hqr
              (conv => whnf); refine ixr (i := i) sl41 (hv7.frame st8.old) hq rfl ?_
              rintro b9 o9 cs9 hS9 hc9 ⟨rfl, -⟩
              (conv => whnf); refine ld1 ct3 hc9.one trivial ?_
              (conv => whnf); refine appI appInt_ st8 hpow7 (by omega) (by omega) (by omega) fun a10 c10 H10 st10 => ?_
              have e1 : ((nameN (L.take i)).map fun (y : Nat) => (y : Int)) ++ digL q = (nameN (L.take i) ++ digN q).map fun (y : Nat) => (y : Int) := by rw [List.map_append, digL_N]
              rw [e1] at st10 ⊢
              have hl1 : ((nameN (L.take i) ++ digN q).map fun (y : Nat) => (y : Int)).length = (nameN (L.take i)).length + (digN q).length := by simp
              (conv => whnf); refine vbuild1 sl201 [.int .u8 44] rfl rfl (by decide) (by decide) ?_
              intro q11 H11 hq11 hs11 hb11 ha11
              have st11 := st10.skip hq11 ha11
              (conv => whnf); refine app1 (x := (44 : Int)) st11 0 sl201 rfl hb11 ⟨rfl, inU8 (x := 44) (by decide)⟩ rfl (by omega) (by decide) fun a12 c12 H12 st12 _ => ?_
              have e2 : ((nameN (L.take i) ++ digN q).map fun (y : Nat) => (y : Int)) ++ [44] = (nameN (L.take (i + 1))).map fun (y : Nat) => (y : Int) := by
                rw [take_succ_snoc hq, nameN_snoc, List.map_append (l₂ := [44])]
                rfl
              have e3 : ((nameN (L.take i) ++ digN q).map fun (y : Nat) => (y : Int)).length + 1 = (nameN (L.take (i + 1))).length := by
                rw [hl1, take_succ_snoc hq, nameN_snoc]
                simp only [List.length_append, List.length_cons, List.length_nil]
              rw [e2, e3] at st12
              rw [e3]
              (conv => whnf); rw [w64 (x := (i : Int) + 1) (by omega) (by omega)]
              exact ⟨rfl, (i + 1, a12, c12), by simp, ⟨by simp only; omega, fun h => by simp only at h; omega, st12⟩, by simp only; omega⟩
            · obtain rfl : i = L.length := by omega
              rw [List.take_length] at st8
              rw [List.take_length]
              have hold : Agr (Old H0) H0 H8 := st7.old.trans (st8.old.mono fun k hk => st7.up hk)
              cases a9 with
              | none =>
                have hL0 : L = [] := by
                  apply Classical.byContradiction
                  intro hne
                  have hnl := st8.capI 0 rfl
                  obtain ⟨cs, ⟨-, hcs⟩, -⟩ := (st8.at_ 0 rfl).1
                  rcases hcs with ⟨h1, h2⟩ | ⟨b, c', l', h1, -⟩
                  · rw [List.length_map] at h2
                    cases L with
                    | nil => exact hne rfl
                    | cons x l =>
                      have : nameN (x :: l) = (digN x ++ [44]) ++ nameN l := by unfold nameN; rw [List.flatMap_cons]
                      rw [this] at h2
                      simp at h2
                  · injection h1 with h1; cases h1
                subst hL0
                (conv => whnf); refine vb2s0 (e := tByt) rfl rfl rfl ?_
                (conv => whnf)
                exact ⟨rfl, hold⟩
              | some ad =>
                obtain ⟨cs, ⟨-, hcs⟩, hrp⟩ := (st8.at_ 0 rfl).1
                obtain ⟨rfl, -⟩ := reps_u8 hrp
                rcases hcs with ⟨h1, -⟩ | ⟨b, c', l', h1, -, hb, -, -, -, htk⟩
                · injection h1 with h1; cases h1
                · injection h1 with h1 h2 h3
                  injection h1 with h1
                  subst h1
                  (conv => whnf); refine vb2s (nameN L) (e := tByt) rfl rfl rfl (fun j x hx => ?_) rfl ?_
                  · have hcj : ((((nameN L).map fun (y : Nat) => (y : Int)).map (Value.int .u8)))[j]? = some (.int .u8 (x : Int)) := by
                      rw [List.getElem?_map, List.getElem?_map, hx]; rfl
                    rw [← htk, List.getElem?_take] at hcj
                    split at hcj
                    · rw [Nat.zero_add, hb.cell]; exact hcj
                    · cases hcj
                  (conv => whnf)
                  exact ⟨rfl, hold⟩
        · have hdq : Dom mm q := by unfold Dom; rw [hq]; rfl
          have hqk : q ∉ ks := fun h => hnD ((hD q).2 h)
          have hqr := hrng q hdq
          have hnd2 : (ks ++ [q]).Nodup := List.nodup_append.2 ⟨hnd, by simp, fun x hx y hy e => by rw [List.mem_singleton] at hy; subst hy; subst e; exact hqk hx⟩
          (conv => whnf); refine mhere (st6.iterW 0 rfl) keyIW.inj hq ?_
          (conv => whnf); refine vbuild1 sl41 [.int .i64 q] rfl rfl (by decide) (by decide) ?_
          intro q11 H11 hq11 hs11 hb11 ha11
          (conv => whnf); refine app1 (x := q) (st6.skip hq11 ha11) 1 sl41 rfl hb11 ⟨rfl, kint hqr⟩ rfl (by omega) (by decide) fun a12 c12 H12 st12 _ => ?_
          (conv => whnf)
          refine ⟨rfl, (ks ++ [q], a12, c12, n6), by simp only [List.length_append, List.length_cons, List.length_nil], ⟨hnd2, fun x hx => ?_, _, _, fun x => ?_, by simp only [List.length_append, List.length_cons, List.length_nil]; exact st12⟩, hlt⟩
          · rcases List.mem_append.1 hx with h | h
            · exact hin x h
            · rw [List.mem_singleton] at h; subst h; exact hdq
          · rw [List.mem_append, List.mem_singleton, hD x]
end Go.Proofs.YtfbghcpdinlmcaaGreatDoor
