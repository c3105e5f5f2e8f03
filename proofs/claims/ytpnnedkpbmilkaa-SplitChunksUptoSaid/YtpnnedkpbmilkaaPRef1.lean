/- The document's sets, tables: From, Sets, Sound, Whole. -/
import Derived.Test.YtpnnedkpbmilkaaPTabs
set_option linter.unusedVariables false
set_option linter.unusedSimpArgs false
set_option maxRecDepth 100000
namespace Go.Proofs.Ytpnnedkpbmilkaa
open Go.VC
attribute [local irreducible] mRun

/-- A set as 256 bools, as far as it has been written. -/
def bitsTo (x : BitVec 256) (k : Nat) : List Value := (List.range 256).map fun b => .bool (decide (b < k) && x.getLsbD b)
def bitsL (x : BitVec 256) : List Value := bitsTo x 256
theorem bitsTo_len (x : BitVec 256) (k : Nat) : (bitsTo x k).length = 256 := by simp [bitsTo]
theorem bitsTo_get (x : BitVec 256) (k : Nat) {b : Nat} (h : b < 256) : (bitsTo x k)[b]? = some (.bool (decide (b < k) && x.getLsbD b)) := by
  unfold bitsTo
  rw [List.getElem?_map, List.getElem?_range h]; rfl
theorem bitsL_get (x : BitVec 256) {b : Nat} (h : b < 256) : (bitsL x)[b]? = some (.bool (x.getLsbD b)) := by
  unfold bitsL
  rw [bitsTo_get x 256 h]; simp [h]
theorem bitsTo_set (x : BitVec 256) {k : Nat} (h : k < 256) : (bitsTo x k).set k (.bool (x.getLsbD k)) = bitsTo x (k + 1) := by
  apply List.ext_getElem?
  intro i
  by_cases hi : i < 256
  · rw [bitsTo_get _ _ hi, List.getElem?_set, bitsTo_len]
    by_cases hik : k = i
    · subst hik; simp [h]
    · rw [if_neg hik, bitsTo_get _ _ hi]
      have : decide (i < k) = decide (i < k + 1) := decide_eq_decide.2 (by omega)
      rw [this]
  · rw [List.getElem?_eq_none (by simp [bitsTo_len]; omega), List.getElem?_eq_none (by simp [bitsTo_len]; omega)]
theorem bitsTo_zero (x : BitVec 256) : bitsTo x 0 = List.replicate 256 (.bool false) := by
  unfold bitsTo
  simp [List.map_const']
def tB : Ty (BitVec 256) where
  size := 256
  rep _ _ cs s := cs = bitsL s
  len h := by rw [h]; exact bitsTo_len _ _
  frame h _ := h
  mono h _ := h
theorem tB_free : tB.Free := fun S S' H H' cs x h => h
theorem bits_ones (x : BitVec 256) (k : Nat) : (bitsTo x k).all (·.oneCell') = true := by
  simp [bitsTo, Value.oneCell']
theorem tB_ones : tB.Ones := by
  rintro S H cs x rfl u hu
  exact List.all_eq_true.1 (bits_ones x 256) u hu
theorem word_bit (x : BitVec 256) (b : Nat) (hb : b < 256) : ((((wd x (b / 64) / 2 ^ (b % 64) % 2 : Nat) : Int) == (1 : Int))) = x.getLsbD b := by
  have h1 := wd_bit x (b / 64) (b % 64) (Nat.mod_lt _ (by decide))
  rw [show 64 * (b / 64) + b % 64 = b by omega] at h1
  rw [← h1, Nat.testBit_eq_decide_div_mod_eq]
  have := Nat.mod_two_eq_zero_or_one (wd x (b / 64) / 2 ^ (b % 64))
  rcases this with h | h <;> simp [h]

theorem from_p (x : BitVec 256) (H : Heap) : Pure Try.prog 83 #[.agg (setL x).toArray] H (.agg (bitsL x).toArray) := by
  refine FnOk.of_vc Try.func83 rfl (Try.call83 _) ?_
  (conv => whnf); refine vbox (setL x) rfl ?_
  intro p1 H1 hp1 hs1 hb1 ha1
  (conv => whnf); refine valloc _ (List.replicate 256 (.bool false)) rfl rfl ?_
  intro p2 H2 hp2 hs2 hb2 ha2
  (conv => whnf); refine valloc _ (List.replicate 256 (.bool false)) rfl rfl ?_
  intro p3 H3 hp3 hs3 hb3 ha3
  (conv => whnf)
  refine VLoop.mk [4] (fun k : Nat => [.int .i64 k]) (fun k H4 => k ≤ 256 ∧ Agr (fun j => j < p3) H3 H4 ∧ H4.size = H3.size ∧ Blk H4 p3 98 (bitsTo x k)) (fun k _ => 256 - k) ?_ ?_
  · (conv => whnf)
    exact ⟨0, rfl, by omega, Agr.refl _ _, rfl, by rw [bitsTo_zero]; exact hb3⟩
  · rintro k H4 junk ⟨hk, ha4, hs4, hb4⟩
    have hb1' := ((hb1.agr ha2 (show p1 < p2 by omega)).agr ha3 (show p1 < p3 by omega)).agr ha4 (show p1 < p3 by omega)
    (conv => whnf); refine VIte.mk (fun h => ?_) (fun h => ?_) <;> simp only [decide_eq_true_eq, decide_eq_false_iff_not] at h
    · have hk6 : k / 64 < 4 := by omega
      (conv => whnf); refine vquo (b := 64) (by decide) (inI64 (by omega)) ?_
      (conv => whnf); refine ixa ar40 (by omega) (by omega) ?_
      (conv => whnf); refine ld1 (v := .int .u64 (wd x (k / 64))) ct39 ?_ trivial ?_
      · rw [hb1'.cell, show 0 + (((k / 64 : Nat) : Int)).toNat * 1 = k / 64 by omega]
        have := setL_get x k (by omega)
        rwa [show k / 2 ^ 6 = k / 64 by rfl] at this
      (conv => whnf); refine vrem (b := 64) (by decide) ?_
      (conv => whnf); rw [wrap_in (k := .u64) (inU64 (x := k % 64) (by omega))]
      (conv => whnf); refine vshr (k := .u64) (b := k % 64) (by show k % 64 ≤ 64; omega) ?_
      (conv => whnf); refine vrem (k := .u64) (b := 2) (by decide) ?_
      (conv => whnf); refine ixa ar98 (by omega) (by omega) ?_
      rw [word_bit x k (by omega)]
      (conv => whnf); refine st1 ct4 hb4 (by rw [bitsTo_len]; omega) rfl ?_
      intro H5 hb5 ha5 hs5
      rw [show 0 + ((k : Nat) : Int).toNat * 1 = k by omega, bitsTo_set x (by omega)] at hb5
      (conv => whnf); rw [w64 (x := (k : Int) + 1) (by omega) (by omega)]
      exact ⟨rfl, k + 1, by simp, ⟨by omega, ha4.trans (ha5.mono fun j hj => by omega), by omega, hb5⟩, by omega⟩
    · obtain rfl : k = 256 := by omega
      (conv => whnf); refine ldN (cs := bitsL x) (by rw [show (bitsL x).length = 256 from bitsTo_len _ _]; exact ag98) (hb4.cells fun j v hv => by rw [Nat.zero_add]; exact hv) trivial ?_
      (conv => whnf); refine VC.stN (cs := bitsL x) (by rw [show (bitsL x).length = 256 from bitsTo_len _ _]; rfl) ((hb2.agr ha3 (show p2 < p3 by omega)).agr ha4 (show p2 < p3 by omega)) (by rw [show (bitsL x).length = 256 from bitsTo_len _ _]; simp) (bits_ones x 256) ?_
      intro H6 hb6 ha6 hs6
      have hsp : splice (List.replicate 256 (.bool false)) 0 (bitsL x) = bitsL x := by
        unfold splice
        rw [show (bitsL x).length = 256 from bitsTo_len _ _]
        simp
      rw [hsp] at hb6
      (conv => whnf); refine ldN (cs := bitsL x) (by rw [show (bitsL x).length = 256 from bitsTo_len _ _]; exact ag98) (hb6.cells fun j v hv => by rw [Nat.zero_add]; exact hv) trivial ?_
      exact ⟨rfl, (((ha1.mono fun j hj => by omega).trans (ha2.mono fun j hj => by omega)).trans (ha3.mono fun j hj => by omega)).trans ((ha4.mono fun j hj => by omega).trans (ha6.mono fun j hj => by omega))⟩

end Go.Proofs.Ytpnnedkpbmilkaa
