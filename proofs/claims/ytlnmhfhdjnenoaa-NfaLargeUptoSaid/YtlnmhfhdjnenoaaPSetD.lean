/- Sets of bytes as 256 bools: From and Words. -/
import Derived.Test.YtlnmhfhdjnenoaaPClass
import Derived.Test.YtlnmhfhdjnenoaaVMem
set_option linter.unusedVariables false
set_option linter.unusedSimpArgs false
set_option maxRecDepth 100000
namespace Go.Proofs.Ytlnmhfhdjnenoaa
open Go.VC
def bitsTo (x : BitVec 256) (k : Nat) : List Value := (List.range 256).map fun b => .bool (decide (b < k) && x.getLsbD b)
def bitsL (x : BitVec 256) : List Value := bitsTo x 256
theorem bitsTo_len (x : BitVec 256) (k : Nat) : (bitsTo x k).length = 256 := by simp [bitsTo]
theorem bitsTo_get (x : BitVec 256) (k : Nat) {b : Nat} (h : b < 256) : (bitsTo x k)[b]? = some (.bool (decide (b < k) && x.getLsbD b)) := by
  unfold bitsTo
  rw [List.getElem?_map, List.getElem?_range h]; rfl
theorem bitsL_get (x : BitVec 256) {b : Nat} (h : b < 256) : (bitsL x)[b]? = some (.bool (x.getLsbD b)) := by
  unfold bitsL
  rw [bitsTo_get x 256 h]; simp [h]
theorem bitsTo_set (x : BitVec 256) {k : Nat} (h : k < 256) : (bitsTo x k).set k (.bool (x.getLsbD k)) = bitsTo x (k + 1) := by
  apply List.ext_getElem?
  intro i
  by_cases hi : i < 256
  · rw [bitsTo_get _ _ hi, List.getElem?_set, bitsTo_len]
    by_cases hik : k = i
    · subst hik; simp [h]
    · rw [if_neg hik, bitsTo_get _ _ hi]
      have : decide (i < k) = decide (i < k + 1) := decide_eq_decide.2 (by omega)
      rw [this]
  · rw [List.getElem?_eq_none (by simp [bitsTo_len]; omega), List.getElem?_eq_none (by simp [bitsTo_len]; omega)]
theorem bitsTo_zero (x : BitVec 256) : bitsTo x 0 = List.replicate 256 (.bool false) := by
  unfold bitsTo
  simp [List.map_const']
def tB : Ty (BitVec 256) where
  size := 256
  rep _ _ cs s := cs = bitsL s
  len h := by rw [h]; exact bitsTo_len _ _
  frame h _ := h
  mono h _ := h
theorem tB_free : tB.Free := fun S S' H H' cs x h => h
theorem bits_ones (x : BitVec 256) (k : Nat) : (bitsTo x k).all (·.oneCell') = true := by
  simp [bitsTo, Value.oneCell']
theorem tB_ones : tB.Ones := by
  rintro S H cs x rfl u hu
  exact List.all_eq_true.1 (bits_ones x 256) u hu
theorem word_bit (x : BitVec 256) (b : Nat) (hb : b < 256) : ((((wd x (b / 64) / 2 ^ (b % 64) % 2 : Nat) : Int) == (1 : Int))) = x.getLsbD b := by
  have h1 := wd_bit x (b / 64) (b % 64) (Nat.mod_lt _ (by decide))
  rw [show 64 * (b / 64) + b % 64 = b by omega] at h1
  rw [← h1, Nat.testBit_eq_decide_div_mod_eq]
  have := Nat.mod_two_eq_zero_or_one (wd x (b / 64) / 2 ^ (b % 64))
  rcases this with h | h <;> simp [h]

theorem from_p (x : BitVec 256) (H : Heap) : Pure Try.prog 30 #[.agg (setL x).toArray] H (.agg (bitsL x).toArray) := by
  refine FnOk.of_vc Try.func30 rfl (Try.call30 _) ?_
  (conv => whnf); refine vbox (setL x) rfl ?_
  intro p1 H1 hp1 hs1 hb1 ha1
  (conv => whnf); refine valloc _ (List.replicate 256 (.bool false)) rfl rfl ?_
  intro p2 H2 hp2 hs2 hb2 ha2
  (conv => whnf); refine valloc _ (List.replicate 256 (.bool false)) rfl rfl ?_
  intro p3 H3 hp3 hs3 hb3 ha3
  (conv => whnf)
  refine VLoop.mk [4] (fun k : Nat => [.int .i64 k]) (fun k H4 => k ≤ 256 ∧ Agr (fun j => j < p3) H3 H4 ∧ H4.size = H3.size ∧ Blk H4 p3 75 (bitsTo x k)) (fun k _ => 256 - k) ?_ ?_
  · (conv => whnf)
    exact ⟨0, rfl, by omega, Agr.refl _ _, rfl, by rw [bitsTo_zero]; exact hb3⟩
  · rintro k H4 junk ⟨hk, ha4, hs4, hb4⟩
    have hb1' := ((hb1.agr ha2 (show p1 < p2 by omega)).agr ha3 (show p1 < p3 by omega)).agr ha4 (show p1 < p3 by omega)
    (conv => whnf); refine VIte.mk (fun h => ?_) (fun h => ?_) <;> simp only [decide_eq_true_eq, decide_eq_false_iff_not] at h
    · have hk6 : k / 64 < 4 := by omega
      (conv => whnf); refine vquo (b := 64) (by decide) (inI64 (by omega)) ?_
      (conv => whnf); refine ixa ar58 (by omega) (by omega) ?_
      (conv => whnf); refine ld1 (v := .int .u64 (wd x (k / 64))) ct57 ?_ trivial ?_
      · rw [hb1'.cell, show 0 + (((k / 64 : Nat) : Int)).toNat * 1 = k / 64 by omega]
        have := setL_get x k (by omega)
        rwa [show k / 2 ^ 6 = k / 64 by rfl] at this
      (conv => whnf); refine vrem (b := 64) (by decide) ?_
      (conv => whnf); rw [wrap_in (k := .u64) (inU64 (x := k % 64) (by omega))]
      (conv => whnf); refine vshr (k := .u64) (b := k % 64) (by show k % 64 ≤ 64; omega) ?_
      (conv => whnf); refine vrem (k := .u64) (b := 2) (by decide) ?_
      (conv => whnf); refine ixa ar75 (by omega) (by omega) ?_
      rw [word_bit x k (by omega)]
      (conv => whnf); refine st1 ct4 hb4 (by rw [bitsTo_len]; omega) rfl ?_
      intro H5 hb5 ha5 hs5
      rw [show 0 + ((k : Nat) : Int).toNat * 1 = k by omega, bitsTo_set x (by omega)] at hb5
      (conv => whnf); rw [w64 (x := (k : Int) + 1) (by omega) (by omega)]
      exact ⟨rfl, k + 1, by simp, ⟨by omega, ha4.trans (ha5.mono fun j hj => by omega), by omega, hb5⟩, by omega⟩
    · obtain rfl : k = 256 := by omega
      (conv => whnf); refine ldN (cs := bitsL x) (by rw [show (bitsL x).length = 256 from bitsTo_len _ _]; exact ag75) (hb4.cells fun j v hv => by rw [Nat.zero_add]; exact hv) trivial ?_
      (conv => whnf); refine VC.stN (cs := bitsL x) (by rw [show (bitsL x).length = 256 from bitsTo_len _ _]; rfl) ((hb2.agr ha3 (show p2 < p3 by omega)).agr ha4 (show p2 < p3 by omega)) (by rw [show (bitsL x).length = 256 from bitsTo_len _ _]; simp) (bits_ones x 256) ?_
      intro H6 hb6 ha6 hs6
      have hsp : splice (List.replicate 256 (.bool false)) 0 (bitsL x) = bitsL x := by
        unfold splice
        rw [show (bitsL x).length = 256 from bitsTo_len _ _]
        simp
      rw [hsp] at hb6
      (conv => whnf); refine ldN (cs := bitsL x) (by rw [show (bitsL x).length = 256 from bitsTo_len _ _]; exact ag75) (hb6.cells fun j v hv => by rw [Nat.zero_add]; exact hv) trivial ?_
      exact ⟨rfl, (((ha1.mono fun j hj => by omega).trans (ha2.mono fun j hj => by omega)).trans (ha3.mono fun j hj => by omega)).trans ((ha4.mono fun j hj => by omega).trans (ha6.mono fun j hj => by omega))⟩

/-! ### sets as functions -/
def funL (f : Nat → Bool) : List Value := (List.range 256).map fun b => .bool (f b)
theorem funL_len (f : Nat → Bool) : (funL f).length = 256 := by simp [funL]
theorem funL_get (f : Nat → Bool) {b : Nat} (h : b < 256) : (funL f)[b]? = some (.bool (f b)) := by
  unfold funL
  rw [List.getElem?_map, List.getElem?_range h]; rfl
theorem funL_ext {f g : Nat → Bool} (h : ∀ b, b < 256 → f b = g b) : funL f = funL g := by
  unfold funL
  exact List.map_congr_left fun b hb => by rw [h b (List.mem_range.1 hb)]
theorem funL_set (f : Nat → Bool) {k : Nat} (h : k < 256) : (funL f).set k (.bool true) = funL fun b => decide (b = k) || f b := by
  apply List.ext_getElem?
  intro i
  by_cases hi : i < 256
  · rw [funL_get _ hi, List.getElem?_set, funL_len]
    by_cases hik : k = i
    · subst hik; simp [h]
    · rw [if_neg hik, funL_get _ hi, decide_eq_false (Ne.symm hik)]; rfl
  · rw [List.getElem?_eq_none (by simp [funL_len]; omega), List.getElem?_eq_none (by simp [funL_len]; omega)]
theorem funL_ones (f : Nat → Bool) : (funL f).all (·.oneCell') = true := by simp [funL, Value.oneCell']
theorem funL_zero : funL (fun _ => false) = List.replicate 256 (.bool false) := by
  unfold funL
  rw [List.map_const', List.length_range]
def tF : Ty (Nat → Bool) where
  size := 256
  rep _ _ cs f := cs = funL f
  len h := by rw [h]; exact funL_len _
  frame h _ := h
  mono h _ := h
theorem tF_free : tF.Free := fun S S' H H' cs x h => h
theorem tF_ones : tF.Ones := by
  rintro S H cs x rfl u hu
  exact List.all_eq_true.1 (funL_ones x) u hu
theorem splice_all {l c : List Value} (h : c.length = l.length) : splice l 0 c = c := by
  unfold splice
  rw [List.take_zero, List.nil_append, Nat.zero_add, h, List.drop_length, List.append_nil]

/-! ### Words -/
def wv (x : BitVec 256) (i m : Nat) : Nat := wd x i / 2 ^ (min 64 (m - 64 * i))
def wvL (x : BitVec 256) (m : Nat) : List Value := (List.range 4).map fun i => .int .u64 (wv x i m : Int)
theorem wvL_get (x : BitVec 256) (m : Nat) {i : Nat} (h : i < 4) : (wvL x m)[i]? = some (.int .u64 (wv x i m : Int)) := by
  unfold wvL
  rw [List.getElem?_map, List.getElem?_range h]; rfl
theorem wvL_len (x : BitVec 256) (m : Nat) : (wvL x m).length = 4 := by simp [wvL]
theorem wv_other (x : BitVec 256) {b j : Nat} (h : j ≠ b / 64) : wv x j b = wv x j (b + 1) := by
  unfold wv
  rcases Nat.lt_or_ge j (b / 64) with h1 | h1
  · rw [show min 64 (b - 64 * j) = 64 by omega, show min 64 (b + 1 - 64 * j) = 64 by omega]
  · rw [show min 64 (b - 64 * j) = 0 by omega, show min 64 (b + 1 - 64 * j) = 0 by omega]
theorem wv_step (x : BitVec 256) (b : Nat) : wv x (b / 64) b = wv x (b / 64) (b + 1) * 2 + (if x.getLsbD b then 1 else 0) := by
  unfold wv
  rw [show min 64 (b - 64 * (b / 64)) = b % 64 by omega, show min 64 (b + 1 - 64 * (b / 64)) = b % 64 + 1 by omega]
  have h1 := wd_bit x (b / 64) (b % 64) (Nat.mod_lt _ (by decide))
  rw [show 64 * (b / 64) + b % 64 = b by omega, Nat.testBit_eq_decide_div_mod_eq] at h1
  have h4 : wd x (b / 64) / 2 ^ (b % 64) / 2 = wd x (b / 64) / 2 ^ (b % 64 + 1) := by rw [Nat.div_div_eq_div_mul, ← Nat.pow_succ]
  rw [← h1, ← h4]
  generalize wd x (b / 64) / 2 ^ (b % 64) = a
  have h3 := Nat.mod_two_eq_zero_or_one a
  have h5 : (if decide (a % 2 = 1) = true then 1 else 0) = a % 2 := by rcases h3 with h | h <;> rw [h] <;> rfl
  rw [h5]
  omega
theorem wv_lt (x : BitVec 256) (b : Nat) : wv x (b / 64) (b + 1) * 2 + 1 < 18446744073709551616 := by
  unfold wv
  rw [show min 64 (b + 1 - 64 * (b / 64)) = b % 64 + 1 by omega]
  have h1 := wd_lt x (b / 64)
  have h2 : wd x (b / 64) / 2 ^ (b % 64 + 1) ≤ wd x (b / 64) / 2 ^ 1 := Nat.div_le_div_left (Nat.pow_le_pow_right (by decide) (by omega)) (by decide)
  omega
theorem wvL_put (x : BitVec 256) (b : Nat) (hb : b < 256) : (wvL x (b + 1)).set (b / 64) (.int .u64 (wv x (b / 64) b : Int)) = wvL x b := by
  apply List.ext_getElem?
  intro j
  by_cases hj : j < 4
  · rw [wvL_get x b hj, List.getElem?_set, wvL_len]
    by_cases h : b / 64 = j
    · subst h; simp [hj]
    · rw [if_neg h, wvL_get x (b + 1) hj, wv_other x (Ne.symm h)]
  · rw [List.getElem?_eq_none (by simp [wvL_len]; omega), List.getElem?_eq_none (by simp [wvL_len]; omega)]
theorem wvL_top (x : BitVec 256) : wvL x 256 = [.int .u64 0, .int .u64 0, .int .u64 0, .int .u64 0] := by
  have key : ∀ i, i < 4 → wv x i 256 = 0 := fun i hi => by
    unfold wv
    rw [show min 64 (256 - 64 * i) = 64 by omega]
    exact Nat.div_eq_of_lt (wd_lt x i)
  simp [wvL, List.range, List.range.loop, key]
theorem wvL_end (x : BitVec 256) : wvL x 0 = setL x := by
  simp [wvL, List.range, List.range.loop, wv, setL]
set_option maxHeartbeats 4000000 in
theorem words_p (f : Nat → Bool) (x : BitVec 256) (hx : ∀ i, i < 256 → x.getLsbD i = f i) (H : Heap) : Pure Try.prog 27 #[.agg (funL f).toArray] H (setV x) := by
  refine FnOk.of_vc Try.func27 rfl (Try.call27 _) ?_
  (conv => whnf); refine vbox (funL f) rfl ?_
  intro p1 H1 hp1 hs1 hb1 ha1
  (conv => whnf); refine valloc _ [.int .u64 0, .int .u64 0, .int .u64 0, .int .u64 0] rfl rfl ?_
  intro p2 H2 hp2 hs2 hb2 ha2
  (conv => whnf); refine valloc _ [.int .u64 0, .int .u64 0, .int .u64 0, .int .u64 0] rfl rfl ?_
  intro p3 H3 hp3 hs3 hb3 ha3
  have hA3 : Agr (Old H) H H3 := ((ha1.mono fun j hj => by unfold Old at hj; omega).trans (ha2.mono fun j hj => by unfold Old at hj; omega)).trans (ha3.mono fun j hj => by unfold Old at hj; omega)
  (conv => whnf)
  refine VLoop.mk [4] (fun n : Nat => [.int .i64 (255 - (n : Int))]) (fun n H4 => n ≤ 256 ∧ Agr (fun j => j ≠ p3) H3 H4 ∧ H4.size = H3.size ∧ Blk H4 p3 58 (wvL x (256 - n))) (fun n _ => 256 - n) ?_ ?_
  · (conv => whnf)
    exact ⟨0, rfl, by omega, Agr.refl _ _, rfl, by rw [Nat.sub_zero, wvL_top]; exact hb3⟩
  · rintro n H4 junk ⟨hn, ha4, hs4, hb4⟩
    have hb14 := ((hb1.agr ha2 (show p1 < p2 by omega)).agr ha3 (show p1 < p3 by omega)).agr ha4 (by omega)
    (conv => whnf); refine VIte.mk (fun h => ?_) (fun h => ?_) <;> simp only [decide_eq_true_eq, decide_eq_false_iff_not] at h
    · obtain ⟨b, hb⟩ : ∃ b : Nat, b = 255 - n := ⟨_, rfl⟩
      have hb256 : b < 256 := by omega
      have hbi : (255 : Int) - (n : Int) = (b : Int) := by omega
      rw [show 256 - n = b + 1 by omega] at hb4
      have hi4 : b / 64 < 4 := by omega
      have hlt := wv_lt x b
      have hst := wv_step x b
      rw [hbi]
      (conv => whnf); refine VSeq.run ?_
      (conv => whnf); refine vquo (a := b) (b := 64) (by decide) (inI64 (by omega)) ?_
      (conv => whnf); refine vquo (a := b) (b := 64) (by decide) (inI64 (by omega)) ?_
      (conv => whnf); refine ixa ar58 (by omega) (by omega) ?_
      (conv => whnf); refine ld1 (v := .int .u64 (wv x (b / 64) (b + 1) : Int)) ct57 (by rw [hb4.cell, show 0 + ((b / 64 : Nat) : Int).toNat * 1 = b / 64 by omega]; exact wvL_get x _ hi4) trivial ?_
      have e2 : ((wv x (b / 64) (b + 1) : Nat) : Int) * 2 = ((wv x (b / 64) (b + 1) * 2 : Nat) : Int) := by omega
      (conv => whnf); rw [e2, wrap_in (k := .u64) (inU64 (x := wv x (b / 64) (b + 1) * 2) (by omega))]
      (conv => whnf); refine ixa ar58 (by omega) (by omega) ?_
      (conv => whnf); refine st1 ct57 hb4 (by rw [wvL_len]; omega) rfl ?_
      intro H5 hb5 ha5 hs5
      rw [show 0 + ((b / 64 : Nat) : Int).toNat * 1 = b / 64 by omega] at hb5
      have hb15 := hb14.agr ha5 (show p1 ≠ p3 by omega)
      (conv => whnf); refine ixa ar75 (by omega) (by omega) ?_
      (conv => whnf); refine ld1 (v := .bool (f b)) ct4 (by rw [hb15.cell, show 0 + ((b : Nat) : Int).toNat * 1 = b by omega]; exact funL_get f hb256) trivial ?_
      rw [← hx b hb256]
      cases hbit : x.getLsbD b with
      | true =>
        rw [hbit, if_pos rfl] at hst
        (conv => whnf); refine vquo (a := b) (b := 64) (by decide) (inI64 (by omega)) ?_
        (conv => whnf); refine ixa ar58 (by omega) (by omega) ?_
        (conv => whnf); refine ld1 (v := .int .u64 ((wv x (b / 64) (b + 1) * 2 : Nat) : Int)) ct57 (by rw [hb5.cell, show 0 + ((b / 64 : Nat) : Int).toNat * 1 = b / 64 by omega, List.getElem?_set_self (by rw [wvL_len]; exact hi4)]) trivial ?_
        have e3 : ((wv x (b / 64) (b + 1) * 2 : Nat) : Int) + 1 = ((wv x (b / 64) b : Nat) : Int) := by omega
        (conv => whnf); rw [e3, wrap_in (k := .u64) (inU64 (x := wv x (b / 64) b) (by omega))]
        (conv => whnf); refine ixa ar58 (by omega) (by omega) ?_
        (conv => whnf); refine st1 ct57 hb5 (by rw [List.length_set, wvL_len]; omega) rfl ?_
        intro H6 hb6 ha6 hs6
        rw [show 0 + ((b / 64 : Nat) : Int).toNat * 1 = b / 64 by omega, List.set_set, wvL_put x b hb256] at hb6
        (conv => whnf); rw [w64 (x := (b : Int) - 1) (by omega) (by omega)]
        exact ⟨rfl, n + 1, by simp; omega, ⟨by omega, (ha4.trans (ha5.mono fun j hj => hj)).trans (ha6.mono fun j hj => hj), by omega, by rw [show 256 - (n + 1) = b by omega]; exact hb6⟩, by omega⟩
      | false =>
        rw [hbit] at hst
        simp only [Bool.false_eq_true, if_false, Nat.add_zero] at hst
        rw [← hst, wvL_put x b hb256] at hb5
        (conv => whnf); rw [w64 (x := (b : Int) - 1) (by omega) (by omega)]
        exact ⟨rfl, n + 1, by simp; omega, ⟨by omega, ha4.trans (ha5.mono fun j hj => hj), by omega, by rw [show 256 - (n + 1) = b by omega]; exact hb5⟩, by omega⟩
    · obtain rfl : n = 256 := by omega
      rw [Nat.sub_self, wvL_end] at hb4
      (conv => whnf); refine ldN (cs := setL x) ag58 (hb4.cells fun j v hv => by rw [Nat.zero_add]; exact hv) trivial ?_
      (conv => whnf); refine VC.stN (cs := setL x) rfl ((hb2.agr ha3 (show p2 < p3 by omega)).agr ha4 (by omega)) (show 0 + 4 ≤ 4 by decide) rfl ?_
      intro H6 hb6 ha6 hs6
      have hsp : splice [.int .u64 0, .int .u64 0, .int .u64 0, .int .u64 0] 0 (setL x) = setL x := splice_all rfl
      rw [hsp] at hb6
      (conv => whnf); refine ldN (cs := setL x) ag58 (hb6.cells fun j v hv => by rw [Nat.zero_add]; exact hv) trivial ?_
      exact ⟨rfl, (hA3.trans (ha4.mono fun j hj => by unfold Old at hj; omega)).trans (ha6.mono fun j hj => by unfold Old at hj; omega)⟩

theorem set_lits4 (s : BitVec 256) : Try.prog.keyLits 2 58 (setL s) = some (setLits s) := by
  have c1 : Try.prog.cellsOf 58 = 4 := rfl
  have c2 : Try.prog.cellsOf 57 = 1 := rfl
  simp [Program.keyLits, Try.underlying58, Try.underlying57, c1, c2, setL, setLits, set_wf, List.range, List.range.loop]
theorem set_neq4 (a b : BitVec 256) {x y : Operand} {S : Nat → Prop} {H : Heap} {K : Value → Prop} (k : K (.bool (!decide (a = b)))) :
    VDet Try.prog (do eqGuard .neq 58 x y (setV a) (setV b); binOp .neq 58 (setV a) (setV b)) S H K :=
  vneq (m := 2) (la := setLits a) (lb := setLits b) rfl (by decide) (Try.eqGuardType58) rfl rfl (set_lits4 a) (set_lits4 b) (setLits_inj a b) k
end Go.Proofs.Ytlnmhfhdjnenoaa
