/- Words, listed, Cells as memory of the call's own; the law DfaCells: its walk. -/
import Derived.Test.YtpnnedkpbmilkaaPCel2
import Derived.Test.YtpnnedkpbmilkaaPNews
set_option linter.unusedVariables false
set_option linter.unusedSimpArgs false
set_option maxRecDepth 100000
namespace Go.Proofs.Ytpnnedkpbmilkaa
open Go.VC
attribute [local irreducible] mRun atRun gRun

/-! ### Words -/
def wv (x : BitVec 256) (i m : Nat) : Nat := wd x i / 2 ^ (min 64 (m - 64 * i))
def wvL (x : BitVec 256) (m : Nat) : List Value := (List.range 4).map fun i => .int .u64 (wv x i m : Int)
theorem wvL_get (x : BitVec 256) (m : Nat) {i : Nat} (h : i < 4) : (wvL x m)[i]? = some (.int .u64 (wv x i m : Int)) := by
  unfold wvL
  rw [List.getElem?_map, List.getElem?_range h]; rfl
theorem wvL_len (x : BitVec 256) (m : Nat) : (wvL x m).length = 4 := by simp [wvL]
theorem wv_other (x : BitVec 256) {b j : Nat} (h : j ≠ b / 64) : wv x j b = wv x j (b + 1) := by
  unfold wv
  rcases Nat.lt_or_ge j (b / 64) with h1 | h1
  · rw [show min 64 (b - 64 * j) = 64 by omega, show min 64 (b + 1 - 64 * j) = 64 by omega]
  · rw [show min 64 (b - 64 * j) = 0 by omega, show min 64 (b + 1 - 64 * j) = 0 by omega]
theorem wv_step (x : BitVec 256) (b : Nat) : wv x (b / 64) b = wv x (b / 64) (b + 1) * 2 + (if x.getLsbD b then 1 else 0) := by
  unfold wv
  rw [show min 64 (b - 64 * (b / 64)) = b % 64 by omega, show min 64 (b + 1 - 64 * (b / 64)) = b % 64 + 1 by omega]
  have h1 := wd_bit x (b / 64) (b % 64) (Nat.mod_lt _ (by decide))
  rw [show 64 * (b / 64) + b % 64 = b by omega, Nat.testBit_eq_decide_div_mod_eq] at h1
  have h4 : wd x (b / 64) / 2 ^ (b % 64) / 2 = wd x (b / 64) / 2 ^ (b % 64 + 1) := by rw [Nat.div_div_eq_div_mul, ← Nat.pow_succ]
  rw [← h1, ← h4]
  generalize wd x (b / 64) / 2 ^ (b % 64) = a
  have h3 := Nat.mod_two_eq_zero_or_one a
  have h5 : (if decide (a % 2 = 1) = true then 1 else 0) = a % 2 := by rcases h3 with h | h <;> rw [h] <;> rfl
  rw [h5]
  omega
theorem wv_lt (x : BitVec 256) (b : Nat) : wv x (b / 64) (b + 1) * 2 + 1 < 18446744073709551616 := by
  unfold wv
  rw [show min 64 (b + 1 - 64 * (b / 64)) = b % 64 + 1 by omega]
  have h1 := wd_lt x (b / 64)
  have h2 : wd x (b / 64) / 2 ^ (b % 64 + 1) ≤ wd x (b / 64) / 2 ^ 1 := Nat.div_le_div_left (Nat.pow_le_pow_right (by decide) (by omega)) (by decide)
  omega
theorem wvL_put (x : BitVec 256) (b : Nat) (hb : b < 256) : (wvL x (b + 1)).set (b / 64) (.int .u64 (wv x (b / 64) b : Int)) = wvL x b := by
  apply List.ext_getElem?
  intro j
  by_cases hj : j < 4
  · rw [wvL_get x b hj, List.getElem?_set, wvL_len]
    by_cases h : b / 64 = j
    · subst h; simp [hj]
    · rw [if_neg h, wvL_get x (b + 1) hj, wv_other x (Ne.symm h)]
  · rw [List.getElem?_eq_none (by simp [wvL_len]; omega), List.getElem?_eq_none (by simp [wvL_len]; omega)]
theorem wvL_top (x : BitVec 256) : wvL x 256 = [.int .u64 0, .int .u64 0, .int .u64 0, .int .u64 0] := by
  have key : ∀ i, i < 4 → wv x i 256 = 0 := fun i hi => by
    unfold wv
    rw [show min 64 (256 - 64 * i) = 64 by omega]
    exact Nat.div_eq_of_lt (wd_lt x i)
  simp [wvL, List.range, List.range.loop, key]
theorem wvL_end (x : BitVec 256) : wvL x 0 = setL x := by
  simp [wvL, List.range, List.range.loop, wv, setL]
set_option maxHeartbeats 4000000 in
theorem words_p (f : Nat → Bool) (x : BitVec 256) (hx : ∀ i, i < 256 → x.getLsbD i = f i) (H : Heap) : Pure Try.prog 61 #[.agg (funL f).toArray] H (setV x) := by
  refine FnOk.of_vc Try.func61 rfl (Try.call61 _) ?_
  (conv => whnf); refine vbox (funL f) rfl ?_
  intro p1 H1 hp1 hs1 hb1 ha1
  (conv => whnf); refine valloc _ [.int .u64 0, .int .u64 0, .int .u64 0, .int .u64 0] rfl rfl ?_
  intro p2 H2 hp2 hs2 hb2 ha2
  (conv => whnf); refine valloc _ [.int .u64 0, .int .u64 0, .int .u64 0, .int .u64 0] rfl rfl ?_
  intro p3 H3 hp3 hs3 hb3 ha3
  have hA3 : Agr (Old H) H H3 := ((ha1.mono fun j hj => by unfold Old at hj; omega).trans (ha2.mono fun j hj => by unfold Old at hj; omega)).trans (ha3.mono fun j hj => by unfold Old at hj; omega)
  (conv => whnf)
  refine VLoop.mk [4] (fun n : Nat => [.int .i64 (255 - (n : Int))]) (fun n H4 => n ≤ 256 ∧ Agr (fun j => j ≠ p3) H3 H4 ∧ H4.size = H3.size ∧ Blk H4 p3 40 (wvL x (256 - n))) (fun n _ => 256 - n) ?_ ?_
  · (conv => whnf)
    exact ⟨0, rfl, by omega, Agr.refl _ _, rfl, by rw [Nat.sub_zero, wvL_top]; exact hb3⟩
  · rintro n H4 junk ⟨hn, ha4, hs4, hb4⟩
    have hb14 := ((hb1.agr ha2 (show p1 < p2 by omega)).agr ha3 (show p1 < p3 by omega)).agr ha4 (by omega)
    (conv => whnf); refine VIte.mk (fun h => ?_) (fun h => ?_) <;> simp only [decide_eq_true_eq, decide_eq_false_iff_not] at h
    · obtain ⟨b, hb⟩ : ∃ b : Nat, b = 255 - n := ⟨_, rfl⟩
      have hb256 : b < 256 := by omega
      have hbi : (255 : Int) - (n : Int) = (b : Int) := by omega
      rw [show 256 - n = b + 1 by omega] at hb4
      have hi4 : b / 64 < 4 := by omega
      have hlt := wv_lt x b
      have hst := wv_step x b
      rw [hbi]
      (conv => whnf); refine VSeq.run ?_
      (conv => whnf); refine vquo (a := b) (b := 64) (by decide) (inI64 (by omega)) ?_
      (conv => whnf); refine vquo (a := b) (b := 64) (by decide) (inI64 (by omega)) ?_
      (conv => whnf); refine ixa ar40 (by omega) (by omega) ?_
      (conv => whnf); refine ld1 (v := .int .u64 (wv x (b / 64) (b + 1) : Int)) ct39 (by rw [hb4.cell, show 0 + ((b / 64 : Nat) : Int).toNat * 1 = b / 64 by omega]; exact wvL_get x _ hi4) trivial ?_
      have e2 : ((wv x (b / 64) (b + 1) : Nat) : Int) * 2 = ((wv x (b / 64) (b + 1) * 2 : Nat) : Int) := by omega
      (conv => whnf); rw [e2, wrap_in (k := .u64) (inU64 (x := wv x (b / 64) (b + 1) * 2) (by omega))]
      (conv => whnf); refine ixa ar40 (by omega) (by omega) ?_
      (conv => whnf); refine st1 ct39 hb4 (by rw [wvL_len]; omega) rfl ?_
      intro H5 hb5 ha5 hs5
      rw [show 0 + ((b / 64 : Nat) : Int).toNat * 1 = b / 64 by omega] at hb5
      have hb15 := hb14.agr ha5 (show p1 ≠ p3 by omega)
      (conv => whnf); refine ixa ar98 (by omega) (by omega) ?_
      (conv => whnf); refine ld1 (v := .bool (f b)) ct4 (by rw [hb15.cell, show 0 + ((b : Nat) : Int).toNat * 1 = b by omega]; exact funL_get f hb256) trivial ?_
      rw [← hx b hb256]
      cases hbit : x.getLsbD b with
      | true =>
        rw [hbit, if_pos rfl] at hst
        (conv => whnf); refine vquo (a := b) (b := 64) (by decide) (inI64 (by omega)) ?_
        (conv => whnf); refine ixa ar40 (by omega) (by omega) ?_
        (conv => whnf); refine ld1 (v := .int .u64 ((wv x (b / 64) (b + 1) * 2 : Nat) : Int)) ct39 (by rw [hb5.cell, show 0 + ((b / 64 : Nat) : Int).toNat * 1 = b / 64 by omega, List.getElem?_set_self (by rw [wvL_len]; exact hi4)]) trivial ?_
        have e3 : ((wv x (b / 64) (b + 1) * 2 : Nat) : Int) + 1 = ((wv x (b / 64) b : Nat) : Int) := by omega
        (conv => whnf); rw [e3, wrap_in (k := .u64) (inU64 (x := wv x (b / 64) b) (by omega))]
        (conv => whnf); refine ixa ar40 (by omega) (by omega) ?_
        (conv => whnf); refine st1 ct39 hb5 (by rw [List.length_set, wvL_len]; omega) rfl ?_
        intro H6 hb6 ha6 hs6
        rw [show 0 + ((b / 64 : Nat) : Int).toNat * 1 = b / 64 by omega, List.set_set, wvL_put x b hb256] at hb6
        (conv => whnf); rw [w64 (x := (b : Int) - 1) (by omega) (by omega)]
        exact ⟨rfl, n + 1, by simp; omega, ⟨by omega, (ha4.trans (ha5.mono fun j hj => hj)).trans (ha6.mono fun j hj => hj), by omega, by rw [show 256 - (n + 1) = b by omega]; exact hb6⟩, by omega⟩
      | false =>
        rw [hbit] at hst
        simp only [Bool.false_eq_true, if_false, Nat.add_zero] at hst
        rw [← hst, wvL_put x b hb256] at hb5
        (conv => whnf); rw [w64 (x := (b : Int) - 1) (by omega) (by omega)]
        exact ⟨rfl, n + 1, by simp; omega, ⟨by omega, ha4.trans (ha5.mono fun j hj => hj), by omega, by rw [show 256 - (n + 1) = b by omega]; exact hb5⟩, by omega⟩
    · obtain rfl : n = 256 := by omega
      rw [Nat.sub_self, wvL_end] at hb4
      (conv => whnf); refine ldN (cs := setL x) ag40 (hb4.cells fun j v hv => by rw [Nat.zero_add]; exact hv) trivial ?_
      (conv => whnf); refine VC.stN (cs := setL x) rfl ((hb2.agr ha3 (show p2 < p3 by omega)).agr ha4 (by omega)) (show 0 + 4 ≤ 4 by decide) rfl ?_
      intro H6 hb6 ha6 hs6
      have hsp : splice [.int .u64 0, .int .u64 0, .int .u64 0, .int .u64 0] 0 (setL x) = setL x := splice_all rfl
      rw [hsp] at hb6
      (conv => whnf); refine ldN (cs := setL x) ag40 (hb6.cells fun j v hv => by rw [Nat.zero_add]; exact hv) trivial ?_
      exact ⟨rfl, (hA3.trans (ha4.mono fun j hj => by unfold Old at hj; omega)).trans (ha6.mono fun j hj => by unfold Old at hj; omega)⟩

theorem set_lits4 (s : BitVec 256) : Try.prog.keyLits 2 40 (setL s) = some (setLits s) := by
  have c1 : Try.prog.cellsOf 40 = 4 := rfl
  have c2 : Try.prog.cellsOf 39 = 1 := rfl
  simp [Program.keyLits, Try.underlying40, Try.underlying39, c1, c2, setL, setLits, set_wf, List.range, List.range.loop]
theorem set_neq4 (a b : BitVec 256) {x y : Operand} {S : Nat → Prop} {H : Heap} {K : Value → Prop} (k : K (.bool (!decide (a = b)))) :
    VDet Try.prog (do eqGuard .neq 40 x y (setV a) (setV b); binOp .neq 40 (setV a) (setV b)) S H K :=
  vneq (m := 2) (la := setLits a) (lb := setLits b) rfl (by decide) (Try.eqGuardType40) rfl rfl (set_lits4 a) (set_lits4 b) (setLits_inj a b) k
theorem listed_p (a1 a2 : Option Addr) (c1 c2 : Nat) (xs : List (BitVec 256)) (fs : List (Nat → Bool)) (S : Nat → Prop) (H : Heap) (hS : ∀ k, S k → k < H.size) (h1 : SlD tSet S H a1 c1 xs) (h2 : SlD tF S H a2 c2 fs) (hl : xs.length = fs.length) (hr : ∀ (k : Nat) x f, xs[k]? = some x → fs[k]? = some f → ∀ i, i < 256 → x.getLsbD i = f i) :
    Pure Try.prog 27 #[.slice a1 xs.length c1, .slice a2 fs.length c2] H (.bool true) := by
  have l1 := h1.le
  unfold maxLen at l1
  refine FnOk.of_vc Try.func27 rfl (Try.call27 _) ?_
  have d0 : ((xs.length : Int) != (fs.length : Int)) = false := by rw [hl]; simp
  (conv => whnf); rw [d0]
  (conv => whnf)
  refine VLoop.mk [5] (fun k : Nat => [.int .i64 k]) (fun k H2 => k ≤ xs.length ∧ Agr (Old H) H H2) (fun k _ => xs.length - k) ?_ ?_
  · (conv => whnf); exact ⟨0, rfl, by omega, Agr.refl _ _⟩
  · rintro k H2 junk ⟨hk, ha2⟩
    (conv => whnf); refine VIte.mk (fun h => ?_) (fun h => ?_) <;> simp only [decide_eq_true_eq, decide_eq_false_iff_not] at h
    · obtain ⟨x, hx⟩ := get_some (l := xs) (k := k) (by omega)
      obtain ⟨f, hf⟩ := get_some (l := fs) (k := k) (by omega)
      (conv => whnf); refine VDraw.quiet (Old H2) rfl (by kernel_rfl) ?_
      (conv => whnf); refine ixr sl29 (h1.frame (ha2.mono hS)) hx rfl ?_
      rintro b3 o3 cs3 hSb3 hcells3 rfl
      (conv => whnf); refine ldN (cs := setL x) ag41 hcells3 (old_lt ha2 (hS _ hSb3)) ?_
      (conv => whnf); refine ixr slF_ (h2.frame (ha2.mono hS)) hf rfl ?_
      rintro b4 o4 cs4 hSb4 hcells4 rfl
      (conv => whnf); refine ldN (cs := funL f) (by rw [funL_len]; exact ag98) hcells4 (old_lt ha2 (hS _ hSb4)) ?_
      (conv => whnf); refine pureq (fun H' h' => words_p f x (hr k x f hx hf) H') ?_
      (conv => whnf); refine set_neq4 x x ?_
      rw [show (!decide (x = x)) = false by simp]
      (conv => whnf)
      intro H3 ha3
      (conv => whnf); rw [w64 (x := (k : Int) + 1) (by omega) (by omega)]
      exact ⟨rfl, k + 1, by simp, ⟨by omega, ha2.trans (ha3.mono fun j hj => old_lt ha2 hj)⟩, by omega⟩
    · (conv => whnf)
      exact ⟨rfl, ha2⟩

/-! ### dfa.Cells, as memory of the call's own -/
theorem cells_o {S : Nat → Prop} {H : Heap} {v : Value} {o : Option AM} (hS : ∀ k, S k → k < H.size) (h : AutoV S H v o) :
    FnOk Try.prog 26 #[v] H fun v' H' => Agr (Old H) H H' ∧ H.size ≤ H'.size ∧ SlO tSet (fun _ => False) H' H.size 41 v' (cellsM o) := by
  refine FnOk.of_vc Try.func26 rfl (Try.call26 _) ?_
  cases o with
  | none =>
    obtain rfl := h
    (conv => whnf); refine peqN ptrA ?_
    (conv => whnf); refine pures (span_p 0 255 (by decide) (by decide) H) fun H1 ha1 => ?_
    rw [spanS_full]
    have hs1 := old_size ha1
    (conv => whnf); refine vbuild1 sl29 (setL (BitVec.allOnes 256)) rfl rfl (by decide) (by decide) ?_
    intro b H2 hb hs2 hb2 ha2
    (conv => whnf)
    exact ⟨ha1.trans (ha2.mono fun k hk => by unfold Old at hk; omega), by omega, SlO.ofBlk (by omega) hb2 (Ty.reps_one rfl) rfl (by decide)⟩
  | some A =>
    obtain ⟨pb, rfl, hown, hok, ac, cc, an, cn, af, cf, aa, ca, al, hb, hsets, hnext, hfin, hal, hall, hlive⟩ := h
    have hcl : A.cell.length ≤ 256 := Nat.le_of_eq hok.cell
    have hsl := hok.sl
    (conv => whnf); refine peqS ptrA ?_
    (conv => whnf); refine VC.fa fl91_0 ?_
    (conv => whnf); refine ld1 ct29 (by rw [hb.cell]; exact autoL_0) trivial ?_
    (conv => whnf); refine vappendD (T := tSet) (S := S) (lo := H.size) (xs := []) sl29 tSet_ones SlO.nil (Nat.le_refl _) (fun k hk => ⟨hS k hk, ?_⟩) hsets (by simp only [maxLen, List.length_nil]; omega) (by simp only [List.length_nil]; omega) ?_
    · rintro ⟨o, n, c, h⟩; cases h
    intro v2 H2 hown2 ha2 hs2 _
    rw [List.nil_append] at hown2
    (conv => whnf)
    exact ⟨ha2.mono fun k hk => ⟨hk, fun hb => by obtain ⟨o, n, c, h⟩ := hb; cases h⟩, hs2, hown2.free tSet_free⟩

/-! ### the plain law -/
theorem gRun_congr {s t : Nat → Nat → Bool} (hr : ∀ a, s a a = true) (h : ∀ b g, b < 256 → g < 256 → s b g = t b g) : ∀ b, b ≤ 256 → gRun s b = gRun t b
  | 0, _ => by unfold gRun; rfl
  | b + 1, hb => by
    have ih := gRun_congr hr h b (by omega)
    have hok := gRun_ok hr b
    have hf : (gRun s b).1.findIdx? (fun g => s b g) = (gRun t b).1.findIdx? fun g => t b g := by
      rw [← ih]
      exact findIdx_congr fun g hg => by
        obtain ⟨k, hk⟩ := List.getElem?_of_mem hg
        exact h b g (by omega) (by have := (hok.first k g hk).1; omega)
    cases hfi : (gRun t b).1.findIdx? fun g => t b g with
    | some k => rw [gRun_some hfi, gRun_some (hf.trans hfi), ih]
    | none => rw [gRun_none hfi, gRun_none (hf.trans hfi), ih]
theorem gRun_one {s : Nat → Nat → Bool} (h : ∀ b, s b 0 = true) : ∀ b, gRun s (b + 1) = ([0], List.replicate (b + 1) 0)
  | 0 => by rw [gRun_none (by unfold gRun; rfl)]; unfold gRun; rfl
  | b + 1 => by
    have ih := gRun_one h b
    have hfi : (gRun s (b + 1)).1.findIdx? (fun g => s (b + 1) g) = some 0 := by rw [ih]; simp [List.findIdx?_cons, h]
    rw [gRun_some hfi, ih]
    simp only [List.replicate_succ' (n := b + 1)]
theorem cells_law (cells : List (BitVec 256)) (next : List (List Int)) (final : List Bool) : (cellsM (autoOf cells next final)).length = (gRun (simD (dfaOf cells next final)) 256).1.length ∧
    ∀ (k : Nat) x, (cellsM (autoOf cells next final))[k]? = some x → ∀ i, i < 256 → x.getLsbD i = atSet (gRun (simD (dfaOf cells next final)) 256).2 k i := by
  unfold autoOf dfaOf
  split
  · rename_i hs
    have hsim : ∀ b g, b < 256 → g < 256 → simD (madeD cells next final) b g = simT next cells b g := by
      intro b g hb hg
      unfold simD simTo simT
      rw [Bool.eq_iff_iff, List.all_eq_true, List.all_eq_true]
      have hlen : (madeD cells next final).next.length = next.length := by simp [madeD]
      constructor
      · intro h row hrow
        obtain ⟨q, hq⟩ := List.getElem?_of_mem hrow
        have := h q (List.mem_range.2 (by rw [hlen]; exact (List.getElem?_eq_some_iff.1 hq).1))
        rwa [madeD_step hq hb, madeD_step hq hg] at this
      · intro h q hq
        have hq' := List.mem_range.1 hq
        rw [hlen] at hq'
        obtain ⟨row, hrow⟩ := get_some hq'
        rw [madeD_step hrow hb, madeD_step hrow hg]
        exact h row (List.mem_of_getElem? hrow)
    rw [gRun_congr (simD_refl _) hsim 256 (Nat.le_refl _)]
    exact sets_of_g hs
  · have hone : ∀ b, simD noneD b 0 = true := by
      intro b
      unfold simD simTo
      rw [List.all_eq_true]
      intro q hq
      have hq1 : q < 1 := List.mem_range.1 hq
      obtain rfl : q = 0 := by omega
      have hz : ∀ c, stepD noneD 0 c = 0 := fun c => by
        have h0 : noneD.cell.getD c 0 = 0 := by
          simp only [noneD]
          rw [List.getD_eq_getElem?_getD, List.getElem?_replicate]
          split <;> rfl
        unfold stepD
        rw [h0]
        rfl
      show (stepD noneD 0 b == stepD noneD 0 0) = true
      rw [hz, hz]; rfl
    have h1 := gRun_one hone 255
    rw [show 255 + 1 = 256 from rfl] at h1
    rw [h1]
    refine ⟨rfl, fun k x hx i hi => ?_⟩
    simp only [cellsM] at hx
    have hk := (List.getElem?_eq_some_iff.1 hx).1
    simp only [List.length_singleton] at hk
    rw [show k = 0 by omega, List.getElem?_cons_zero] at hx
    cases hx
    rw [BitVec.getLsbD_allOnes, show k = 0 by omega]
    unfold atSet
    rw [List.getElem?_replicate, if_pos hi]
    simp [hi]

/-- What dfa.Cells tells is what the document's Cells tells. -/
theorem cells_sets (cells : List (BitVec 256)) (next : List (List Int)) (final : List Bool) : (cellsM (autoOf cells next final)).length = (atSets (gRun (simD (dfaOf cells next final)) 256).2 (gRun (simD (dfaOf cells next final)) 256).1.length).length ∧
    ∀ (k : Nat) x f, (cellsM (autoOf cells next final))[k]? = some x → (atSets (gRun (simD (dfaOf cells next final)) 256).2 (gRun (simD (dfaOf cells next final)) 256).1.length)[k]? = some f → ∀ i, i < 256 → x.getLsbD i = f i := by
  obtain ⟨h1, h2⟩ := cells_law cells next final
  refine ⟨by rw [atSets_len]; exact h1, fun k x f hx hf i hi => ?_⟩
  have hk : k < (gRun (simD (dfaOf cells next final)) 256).1.length := by rw [← h1]; exact (List.getElem?_eq_some_iff.1 hx).1
  rw [atSets_get hk] at hf
  cases hf
  exact h2 k x hx i hi

end Go.Proofs.Ytpnnedkpbmilkaa
