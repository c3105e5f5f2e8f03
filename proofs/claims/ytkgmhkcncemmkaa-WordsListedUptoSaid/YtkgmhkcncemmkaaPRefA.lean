import Derived.Test.YtkgmhkcncemmkaaPTabs
/- The document's sets, tables: From, Sets, Sound, Whole. -/
set_option linter.unusedVariables false
set_option linter.unusedSimpArgs false
set_option maxRecDepth 100000
namespace Go.Proofs.Ytkgmhkcncemmkaa
open Go.VC
attribute [local irreducible] mRun

/-- A set as 256 bools, as far as it has been written. -/
def bitsTo (x : BitVec 256) (k : Nat) : List Value := (List.range 256).map fun b => .bool (decide (b < k) && x.getLsbD b)
def bitsL (x : BitVec 256) : List Value := bitsTo x 256
theorem bitsTo_len (x : BitVec 256) (k : Nat) : (bitsTo x k).length = 256 := by simp [bitsTo]
theorem bitsTo_get (x : BitVec 256) (k : Nat) {b : Nat} (h : b < 256) : (bitsTo x k)[b]? = some (.bool (decide (b < k) && x.getLsbD b)) := by
  unfold bitsTo
  rw [List.getElem?_map, List.getElem?_range h]; rfl
theorem bitsL_get (x : BitVec 256) {b : Nat} (h : b < 256) : (bitsL x)[b]? = some (.bool (x.getLsbD b)) := by
  unfold bitsL
  rw [bitsTo_get x 256 h]; simp [h]
theorem bitsTo_set (x : BitVec 256) {k : Nat} (h : k < 256) : (bitsTo x k).set k (.bool (x.getLsbD k)) = bitsTo x (k + 1) := by
  apply List.ext_getElem?
  intro i
  by_cases hi : i < 256
  · rw [bitsTo_get _ _ hi, List.getElem?_set, bitsTo_len]
    by_cases hik : k = i
    · subst hik; simp [h]
    · rw [if_neg hik, bitsTo_get _ _ hi]
      have : decide (i < k) = decide (i < k + 1) := decide_eq_decide.2 (by omega)
      rw [this]
  · rw [List.getElem?_eq_none (by simp [bitsTo_len]; omega), List.getElem?_eq_none (by simp [bitsTo_len]; omega)]
theorem bitsTo_zero (x : BitVec 256) : bitsTo x 0 = List.replicate 256 (.bool false) := by
  unfold bitsTo
  simp [List.map_const']
def tB : Ty (BitVec 256) where
  size := 256
  rep _ _ cs s := cs = bitsL s
  len h := by rw [h]; exact bitsTo_len _ _
  frame h _ := h
  mono h _ := h
theorem tB_free : tB.Free := fun S S' H H' cs x h => h
theorem bits_ones (x : BitVec 256) (k : Nat) : (bitsTo x k).all (·.oneCell') = true := by
  simp [bitsTo, Value.oneCell']
theorem tB_ones : tB.Ones := by
  rintro S H cs x rfl u hu
  exact List.all_eq_true.1 (bits_ones x 256) u hu
theorem word_bit (x : BitVec 256) (b : Nat) (hb : b < 256) : ((((wd x (b / 64) / 2 ^ (b % 64) % 2 : Nat) : Int) == (1 : Int))) = x.getLsbD b := by
  have h1 := wd_bit x (b / 64) (b % 64) (Nat.mod_lt _ (by decide))
  rw [show 64 * (b / 64) + b % 64 = b by omega] at h1
  rw [← h1, Nat.testBit_eq_decide_div_mod_eq]
  have := Nat.mod_two_eq_zero_or_one (wd x (b / 64) / 2 ^ (b % 64))
  rcases this with h | h <;> simp [h]

theorem from_p (x : BitVec 256) (H : Heap) : Pure Try.prog 78 #[.agg (setL x).toArray] H (.agg (bitsL x).toArray) := by
  refine FnOk.of_vc Try.func78 rfl (Try.call78 _) ?_
  (conv => whnf); refine vbox (setL x) rfl ?_
  intro p1 H1 hp1 hs1 hb1 ha1
  (conv => whnf); refine valloc _ (List.replicate 256 (.bool false)) rfl rfl ?_
  intro p2 H2 hp2 hs2 hb2 ha2
  (conv => whnf); refine valloc _ (List.replicate 256 (.bool false)) rfl rfl ?_
  intro p3 H3 hp3 hs3 hb3 ha3
  (conv => whnf)
  refine VLoop.mk [4] (fun k : Nat => [.int .i64 k]) (fun k H4 => k ≤ 256 ∧ Agr (fun j => j < p3) H3 H4 ∧ H4.size = H3.size ∧ Blk H4 p3 138 (bitsTo x k)) (fun k _ => 256 - k) ?_ ?_
  · (conv => whnf)
    exact ⟨0, rfl, by omega, Agr.refl _ _, rfl, by rw [bitsTo_zero]; exact hb3⟩
  · rintro k H4 junk ⟨hk, ha4, hs4, hb4⟩
    have hb1' := ((hb1.agr ha2 (show p1 < p2 by omega)).agr ha3 (show p1 < p3 by omega)).agr ha4 (show p1 < p3 by omega)
    (conv => whnf); refine VIte.mk (fun h => ?_) (fun h => ?_) <;> simp only [decide_eq_true_eq, decide_eq_false_iff_not] at h
    · have hk6 : k / 64 < 4 := by omega
      (conv => whnf); refine vquo (b := 64) (by decide) (inI64 (by omega)) ?_
      (conv => whnf); refine ixa ar77 (by omega) (by omega) ?_
      (conv => whnf); refine ld1 (v := .int .u64 (wd x (k / 64))) ct76 ?_ trivial ?_
      · rw [hb1'.cell, show 0 + (((k / 64 : Nat) : Int)).toNat * 1 = k / 64 by omega]
        have := setL_get x k (by omega)
        rwa [show k / 2 ^ 6 = k / 64 by rfl] at this
      (conv => whnf); refine vrem (b := 64) (by decide) ?_
      (conv => whnf); rw [wrap_in (k := .u64) (inU64 (x := k % 64) (by omega))]
      (conv => whnf); refine vshr (k := .u64) (b := k % 64) (by show k % 64 ≤ 64; omega) ?_
      (conv => whnf); refine vrem (k := .u64) (b := 2) (by decide) ?_
      (conv => whnf); refine ixa ar138 (by omega) (by omega) ?_
      rw [word_bit x k (by omega)]
      (conv => whnf); refine st1 ct4 hb4 (by rw [bitsTo_len]; omega) rfl ?_
      intro H5 hb5 ha5 hs5
      rw [show 0 + ((k : Nat) : Int).toNat * 1 = k by omega, bitsTo_set x (by omega)] at hb5
      (conv => whnf); rw [w64 (x := (k : Int) + 1) (by omega) (by omega)]
      exact ⟨rfl, k + 1, by simp, ⟨by omega, ha4.trans (ha5.mono fun j hj => by omega), by omega, hb5⟩, by omega⟩
    · obtain rfl : k = 256 := by omega
      (conv => whnf); refine ldN (cs := bitsL x) (by rw [show (bitsL x).length = 256 from bitsTo_len _ _]; exact ag138) (hb4.cells fun j v hv => by rw [Nat.zero_add]; exact hv) trivial ?_
      (conv => whnf); refine VC.stN (cs := bitsL x) (by rw [show (bitsL x).length = 256 from bitsTo_len _ _]; rfl) ((hb2.agr ha3 (show p2 < p3 by omega)).agr ha4 (show p2 < p3 by omega)) (by rw [show (bitsL x).length = 256 from bitsTo_len _ _]; simp) (bits_ones x 256) ?_
      intro H6 hb6 ha6 hs6
      have hsp : splice (List.replicate 256 (.bool false)) 0 (bitsL x) = bitsL x := by
        unfold splice
        rw [show (bitsL x).length = 256 from bitsTo_len _ _]
        simp
      rw [hsp] at hb6
      (conv => whnf); refine ldN (cs := bitsL x) (by rw [show (bitsL x).length = 256 from bitsTo_len _ _]; exact ag138) (hb6.cells fun j v hv => by rw [Nat.zero_add]; exact hv) trivial ?_
      exact ⟨rfl, (((ha1.mono fun j hj => by omega).trans (ha2.mono fun j hj => by omega)).trans (ha3.mono fun j hj => by omega)).trans ((ha4.mono fun j hj => by omega).trans (ha6.mono fun j hj => by omega))⟩

end Go.Proofs.Ytkgmhkcncemmkaa

/- The document's Sets, Sound and Whole. -/
set_option linter.unusedVariables false
set_option linter.unusedSimpArgs false
set_option maxRecDepth 100000
namespace Go.Proofs.Ytkgmhkcncemmkaa
open Go.VC
attribute [local irreducible] mRun

/-! ### the plain law -/
def cntTo (cells : List (BitVec 256)) (c b : Nat) : Nat := ((cells.take c).filter fun x => x.getLsbD b).length
def cnt (cells : List (BitVec 256)) (b : Nat) : Nat := (cells.filter fun x => x.getLsbD b).length
def ind (x : BitVec 256) (b : Nat) : Nat := if x.getLsbD b then 1 else 0
theorem cnt_cons (c : BitVec 256) (cs : List (BitVec 256)) (b : Nat) : cnt (c :: cs) b = ind c b + cnt cs b := by
  unfold cnt ind
  rw [List.filter_cons]
  split <;> simp <;> omega
theorem and_zero {a c : BitVec 256} : a &&& c = 0#256 ↔ ∀ b, b < 256 → ind a b + ind c b ≤ 1 := by
  constructor
  · intro h b hb
    have h1 : (a &&& c).getLsbD b = false := by rw [h]; simp
    rw [BitVec.getLsbD_and] at h1
    unfold ind
    cases ha : a.getLsbD b <;> cases hc : c.getLsbD b <;> simp_all
  · intro h
    apply BitVec.eq_of_getLsbD_eq
    intro b hb
    have h1 := h b hb
    rw [BitVec.getLsbD_and]
    unfold ind at h1
    cases ha : a.getLsbD b <;> cases hc : c.getLsbD b <;> simp_all
theorem ind_or {a c : BitVec 256} (h : a &&& c = 0#256) {b : Nat} (hb : b < 256) : ind (a ||| c) b = ind a b + ind c b := by
  have h1 := and_zero.1 h b hb
  unfold ind at h1 ⊢
  rw [BitVec.getLsbD_or]
  cases ha : a.getLsbD b <;> cases hc : c.getLsbD b <;> simp_all
theorem disjGo_some : ∀ (cs : List (BitVec 256)) (all : BitVec 256), (∃ x, disjGo all cs = some x) ↔ ∀ b, b < 256 → ind all b + cnt cs b ≤ 1
  | [], all => by
    simp only [disjGo, cnt, List.filter_nil, List.length_nil]
    refine ⟨fun _ b _ => ?_, fun _ => ⟨_, rfl⟩⟩
    unfold ind
    split <;> omega
  | c :: cs, all => by
    simp only [disjGo]
    split
    · rename_i h
      rw [disjGo_some cs (all ||| c)]
      constructor
      · intro h1 b hb
        have := h1 b hb
        rw [ind_or h hb] at this
        rw [cnt_cons]; omega
      · intro h1 b hb
        have := h1 b hb
        rw [cnt_cons] at this
        rw [ind_or h hb]; omega
    · rename_i h
      refine ⟨fun ⟨x, hx⟩ => (by cases hx), fun h1 => absurd (and_zero.2 fun b hb => ?_) h⟩
      have := h1 b hb
      rw [cnt_cons] at this
      omega
theorem cnt_pos {cs : List (BitVec 256)} {b : Nat} : (cs.any fun c => c.getLsbD b) = true ↔ 1 ≤ cnt cs b := by
  unfold cnt
  rw [List.any_eq_true]
  constructor
  · rintro ⟨x, hx, hb⟩
    exact List.length_pos_of_mem (List.mem_filter.2 ⟨hx, hb⟩)
  · intro h
    obtain ⟨x, hx⟩ := List.exists_mem_of_length_pos h
    exact ⟨x, (List.mem_filter.1 hx).1, (List.mem_filter.1 hx).2⟩
theorem soundB_iff {cells : List (BitVec 256)} {next : List (List Int)} {fl : Nat} : soundB cells next fl = true ↔ (1 ≤ next.length ∧ next.length ≤ 65536 ∧ next.length = fl) ∧ (∀ b, b < 256 → cnt cells b = 1) ∧ ∀ row ∈ next, rowOk next.length cells.length row = true := by
  have hz : ∀ b, ind 0#256 b = 0 := fun b => by simp [ind]
  constructor
  · intro h
    have hr := soundB_rows h
    unfold soundB at h
    split at h
    · cases h
    · rename_i all hall
      simp only [Bool.and_eq_true, beq_iff_eq, decide_eq_true_eq, List.all_eq_true] at h
      refine ⟨⟨hr.1, hr.2.1, hr.2.2.1⟩, fun b hb => ?_, h.2⟩
      have h1 := (disjGo_some cells 0#256).1 ⟨all, hall⟩ b hb
      rw [hz] at h1
      have h2 := disjGo_bits hall b
      rw [h.1.1.1.1, BitVec.getLsbD_allOnes] at h2
      simp only [hb, decide_true, BitVec.getLsbD_zero, Bool.false_or] at h2
      have h3 := cnt_pos.1 h2.symm
      omega
  · rintro ⟨⟨h1, h2, h3⟩, h4, h5⟩
    obtain ⟨all, hall⟩ := (disjGo_some cells 0#256).2 fun b hb => by rw [hz, h4 b hb]; omega
    unfold soundB
    rw [hall]
    simp only [Bool.and_eq_true, beq_iff_eq, decide_eq_true_eq, List.all_eq_true]
    refine ⟨⟨⟨⟨BitVec.eq_of_getLsbD_eq fun b hb => ?_, h1⟩, h2⟩, h3⟩, h5⟩
    rw [disjGo_bits hall b, BitVec.getLsbD_allOnes, cnt_pos.2 (by rw [h4 b hb]; omega)]
    simp [hb]
theorem cntTo_succ {cells : List (BitVec 256)} {c b : Nat} {x : BitVec 256} (h : cells[c]? = some x) : cntTo cells (c + 1) b = cntTo cells c b + ind x b := by
  unfold cntTo ind
  rw [take_succ_snoc h, List.filter_append]
  cases hx : x.getLsbD b <;> simp [hx]
theorem cntTo_all (cells : List (BitVec 256)) (b : Nat) : cntTo cells cells.length b = cnt cells b := by unfold cntTo cnt; rw [List.take_length]
theorem cntTo_le (cells : List (BitVec 256)) (c b : Nat) : cntTo cells c b ≤ c := Nat.le_trans (List.length_filter_le _ _) (by simp; omega)

/-! ### the walks -/
theorem slB_ : SlT Try.prog 88 138 tB.size 256 (Try.t138.zero.getD undef) := sl88
theorem zero_B (S : Nat → Prop) (H : Heap) : tB.rep S H ((Try.t138.zero.getD undef).cells.toList) 0#256 := by
  show _ = bitsL 0#256
  kernel_rfl
theorem sets_l (v1 v2 : Value) (ca : Option Addr) (cc : Nat) (cells : List (BitVec 256)) (S : Nat → Prop) (H : Heap) (hS : ∀ k, S k → k < H.size) (hc : SlD tSet S H ca cc cells) (hn : cells.length ≤ 4194304) :
    FnOk Try.prog 48 #[.agg #[.slice ca cells.length cc, v1, v2]] H fun v H' => Agr (Old H) H H' ∧ H.size ≤ H'.size ∧ ∃ b, v = .slice (some ⟨b, 0, none⟩) cells.length cells.length ∧ H.size ≤ b ∧
      SlO tB (fun _ => False) H' H.size 138 v cells := by
  refine FnOk.of_vc Try.func48 rfl (Try.call48 _) ?_
  (conv => whnf); refine vbox [.slice ca cells.length cc, v1, v2] rfl ?_
  intro pb H1 hpb hs1 hb1 ha1
  (conv => whnf); refine VC.fa fl26_0 ?_
  (conv => whnf); refine ld1 ct22 (by rw [hb1.cell]; rfl) trivial ?_
  (conv => whnf); refine vmakeT (T := tB) (v := 0#256) (S := fun _ => False) slB_ (zero_B _ _) (by omega) rfl (by omega) (by omega) ?_
  intro nb H2 hnb hs2 hb2 ha2
  rw [Int.toNat_natCast] at hb2
  (conv => whnf)
  refine VLoop.mk [4] (fun k : Nat => [.int .i64 k]) (fun k H3 => k ≤ cells.length ∧ Agr (fun j => j < H2.size ∧ j ≠ nb) H2 H3 ∧ H2.size ≤ H3.size ∧
    SlO tB (fun _ => False) H3 H.size 138 (.slice (some ⟨nb, 0, none⟩) cells.length cells.length) (cells.take k ++ List.replicate (cells.length - k) 0#256)) (fun k _ => cells.length - k) ?_ ?_
  · (conv => whnf)
    refine ⟨0, rfl, by omega, Agr.refl _ _, Nat.le_refl _, ?_⟩
    rw [fill_beg]
    exact SlO.made (by omega) hb2 (zero_B _ _) (by unfold maxLen; omega)
  · rintro k H3 junk ⟨hk, ha3, hs3, hown⟩
    have hb13 := (hb1.agr ha2 (show pb < nb by omega)).agr ha3 ⟨by omega, by omega⟩
    (conv => whnf); refine VC.fa fl26_0 ?_
    (conv => whnf); refine ld1 ct22 (by rw [hb13.cell]; rfl) trivial ?_
    (conv => whnf); refine VIte.mk (fun h => ?_) (fun h => ?_) <;> simp only [decide_eq_true_eq, decide_eq_false_iff_not] at h
    · obtain ⟨x, hx⟩ := get_some (l := cells) (k := k) (by omega)
      have hA : Agr (Old H) H H3 := ((ha1.mono fun j hj => by unfold Old at hj; omega).trans (ha2.mono fun j hj => by unfold Old at hj; omega)).trans (ha3.mono fun j hj => by unfold Old at hj; omega)
      (conv => whnf); refine VC.fa fl26_0 ?_
      (conv => whnf); refine ld1 ct22 (by rw [hb13.cell]; rfl) trivial ?_
      (conv => whnf); refine ixr sl22 (hc.frame (hA.mono hS)) hx rfl ?_
      rintro b4 o4 cs4 hSb4 hcells4 rfl
      (conv => whnf); refine ldN (cs := setL x) ag77 hcells4 trivial ?_
      (conv => whnf); refine pures (from_p x H3) fun H4 ha4 => ?_
      have hs4 := old_size ha4
      have hown4 := hown.agr ha4 (fun b hb => (hown.lt hb).2) (fun _ f => f.elim)
      obtain ⟨-, -, hlo5, l5, hblk5, hlen5, hget5, hput5⟩ := hown4.placeS (i := k) (by rw [fill_len hk]; omega)
      have hszB : tB.size = 256 := rfl
      (conv => whnf); refine ix slB_ (by omega) (by omega) ?_
      (conv => whnf); refine VC.stN (cs := bitsL x) (by rw [show (bitsL x).length = 256 from bitsTo_len _ _]; rfl) hblk5 (by rw [Nat.zero_add, Int.toNat_natCast, show (bitsL x).length = 256 from bitsTo_len _ _]; exact hlen5) (bits_ones x 256) ?_
      intro H6 hb6 ha6 hs6
      rw [Nat.zero_add, Int.toNat_natCast] at hb6
      have hown6 := hput5 H6 (bitsL x) x hb6 (fun j hj => hj.elim) rfl
      rw [fill_set hx] at hown6
      (conv => whnf); rw [w64 (x := (k : Int) + 1) (by omega) (by omega)]
      exact ⟨rfl, k + 1, by simp, ⟨by omega, (ha3.trans (ha4.mono fun j hj => by unfold Old; omega)).trans (ha6.mono fun j hj => hj.2), by omega, hown6⟩, by omega⟩
    · obtain rfl : k = cells.length := by omega
      rw [fill_end] at hown
      (conv => whnf)
      exact ⟨((ha1.mono fun j hj => by unfold Old at hj; omega).trans (ha2.mono fun j hj => by unfold Old at hj; omega)).trans (ha3.mono fun j hj => by unfold Old at hj; omega), by omega, nb, rfl, by omega, hown⟩

theorem rowOk_bad {n m : Nat} {row : List Int} {c : Nat} {t : Int} (h : row[c]? = some t) (ht : t < 0 ∨ (n : Int) ≤ t) : rowOk n m row = false := by
  cases hr : rowOk n m row with
  | false => rfl
  | true =>
    unfold rowOk at hr
    simp only [Bool.and_eq_true, List.all_eq_true, decide_eq_true_eq] at hr
    have := hr.2 t (List.mem_of_getElem? h)
    omega
set_option maxHeartbeats 4000000 in
theorem refsound_p (ca na fa : Option Addr) (cc nc fl fc : Nat) (cells : List (BitVec 256)) (next : List (List Int)) (S : Nat → Prop) (H : Heap) (hS : ∀ k, S k → k < H.size) (hc : SlD tB S H ca cc cells) (hn : SlD tRows S H na nc next) (hcn : cells.length ≤ 4194304) (hnn : next.length ≤ 4194304) (hfn : fl ≤ 4194304) :
    Pure Try.prog 76 #[.slice ca cells.length cc, .slice na next.length nc, .slice fa fl fc] H (.bool (soundB cells next fl)) := by
  have no : ∀ {p : Prop}, (soundB cells next fl = true → False) → soundB cells next fl = false := fun h => by
    cases hs : soundB cells next fl with
    | false => rfl
    | true => exact (h hs).elim
  refine FnOk.of_vc Try.func76 rfl (Try.call76 _) ?_
  by_cases e1 : next.length < 1
  · have d1 : decide ((next.length : Int) < 1) = true := decide_eq_true (by omega)
    (conv => whnf); rw [d1]
    (conv => whnf)
    exact ⟨by rw [no (p := True) fun h => by have := (soundB_iff.1 h).1; omega], Agr.refl _ _⟩
  have d1 : decide ((next.length : Int) < 1) = false := decide_eq_false (by omega)
  by_cases e2 : 65536 < next.length
  · have d2 : decide ((65536 : Int) < (next.length : Int)) = true := decide_eq_true (by omega)
    (conv => whnf); rw [d1]
    (conv => whnf); rw [d2]
    (conv => whnf)
    exact ⟨by rw [no (p := True) fun h => by have := (soundB_iff.1 h).1; omega], Agr.refl _ _⟩
  have d2 : decide ((65536 : Int) < (next.length : Int)) = false := decide_eq_false (by omega)
  by_cases e3 : next.length = fl
  · subst e3
    have d3 : ((next.length : Int) != (next.length : Int)) = false := by simp
    (conv => whnf); rw [d1]
    (conv => whnf); rw [d2]
    (conv => whnf); rw [d3]
    (conv => whnf)
    refine VLoop.mk [7] (fun b : Nat => [.int .i64 b]) (fun b H2 => b ≤ 256 ∧ H2 = H ∧ ∀ i, i < b → cnt cells i = 1) (fun b _ => 256 - b) ?_ ?_
    · (conv => whnf); exact ⟨0, rfl, by omega, rfl, fun i hi => by omega⟩
    · rintro b H2 junk ⟨hb, rfl, hcnt⟩
      (conv => whnf); refine VIte.mk (fun h => ?_) (fun h => ?_) <;> simp only [decide_eq_true_eq, decide_eq_false_iff_not] at h
      · (conv => whnf)
        refine VLoop.mk [8, 9] (fun c : Nat => [.int .i64 (cntTo cells c b : Nat), .int .i64 c]) (fun c H3 => c ≤ cells.length ∧ H3 = H2) (fun c _ => cells.length - c) ?_ ?_
        · (conv => whnf); exact ⟨0, by simp [cntTo], by omega, rfl⟩
        · rintro c H3 junk3 ⟨hcl, rfl⟩
          have hle := cntTo_le cells c b
          (conv => whnf); refine VIte.mk (fun h => ?_) (fun h => ?_) <;> simp only [decide_eq_true_eq, decide_eq_false_iff_not] at h
          · obtain ⟨x, hx⟩ := get_some (l := cells) (k := c) (by omega)
            (conv => whnf); refine VSeq.run ?_
            (conv => whnf); refine ixr slB_ hc hx rfl ?_
            rintro b4 o4 cs4 hSb4 hcells4 rfl
            (conv => whnf); refine ixa ar138 (by omega) (by omega) ?_
            (conv => whnf); refine ld1 (v := .bool (x.getLsbD b)) ct4 (by rw [show o4 + ((b : Nat) : Int).toNat * 1 = o4 + b by omega]; exact hcells4 b _ (bitsL_get x (by omega))) trivial ?_
            have hsucc := cntTo_succ (b := b) hx
            unfold ind at hsucc
            (conv => whnf); refine VIte.mk (fun hbit => ?_) (fun hbit => ?_)
            · rw [hbit, if_pos rfl] at hsucc
              (conv => whnf); rw [w64 (x := (cntTo cells c b : Int) + 1) (by omega) (by omega), w64 (x := (c : Int) + 1) (by omega) (by omega)]
              exact ⟨rfl, c + 1, by rw [hsucc]; simp, ⟨by omega, rfl⟩, by omega⟩
            · rw [hbit] at hsucc
              simp only [Bool.false_eq_true, if_false, Nat.add_zero] at hsucc
              (conv => whnf); rw [w64 (x := (c : Int) + 1) (by omega) (by omega)]
              exact ⟨rfl, c + 1, by rw [hsucc]; simp, ⟨by omega, rfl⟩, by omega⟩
          · obtain rfl : c = cells.length := by omega
            rw [cntTo_all] at *
            (conv => whnf); refine VIte.mk (fun h1 => ?_) (fun h1 => ?_)
            · (conv => whnf)
              have h1' : cnt cells b ≠ 1 := fun h => by rw [h] at h1; simp at h1
              exact ⟨by rw [no (p := True) fun h => h1' ((soundB_iff.1 h).2.1 b (by omega))], Agr.refl _ _⟩
            · have h1' : cnt cells b = 1 := by
                have : ((cnt cells b : Nat) : Int) = 1 := by simpa using h1
                omega
              (conv => whnf); rw [w64 (x := (b : Int) + 1) (by omega) (by omega)]
              refine ⟨rfl, b + 1, by simp, ⟨by omega, rfl, fun i hi => ?_⟩, by omega⟩
              by_cases hib : i = b
              · subst hib; exact h1'
              · exact hcnt i (by omega)
      · obtain rfl : b = 256 := by omega
        (conv => whnf)
        refine VLoop.mk [10] (fun q : Nat => [.int .i64 q]) (fun q H3 => q ≤ next.length ∧ H3 = H2 ∧ ∀ (i : Nat) row, i < q → next[i]? = some row → rowOk next.length cells.length row = true) (fun q _ => next.length - q) ?_ ?_
        · (conv => whnf); exact ⟨0, rfl, by omega, rfl, fun i row hi => by omega⟩
        · rintro q H3 junk3 ⟨hq, rfl, hrows⟩
          (conv => whnf); refine VIte.mk (fun h => ?_) (fun h => ?_) <;> simp only [decide_eq_true_eq, decide_eq_false_iff_not] at h
          · obtain ⟨row, hrow⟩ := get_some (l := next) (k := q) (by omega)
            (conv => whnf); refine ixr sl23 hn hrow rfl ?_
            rintro b4 o4 cs4 hSb4 hcells4 ⟨ra, rc, rfl, hr⟩
            (conv => whnf); refine ld1 ct36 hcells4.one trivial ?_
            (conv => whnf); refine VIte.mk (fun h1 => ?_) (fun h1 => ?_)
            · (conv => whnf)
              have h1' : row.length ≠ cells.length := fun h => by rw [h] at h1; simp at h1
              exact ⟨by rw [no (p := True) fun h => h1' (by have := (soundB_iff.1 h).2.2 row (List.mem_of_getElem? hrow); simp only [rowOk, Bool.and_eq_true, beq_iff_eq] at this; exact this.1)], Agr.refl _ _⟩
            · have h1' : row.length = cells.length := by
                have : (row.length : Int) = (cells.length : Int) := by simpa using h1
                omega
              (conv => whnf)
              refine VLoop.mk [11] (fun c : Nat => [.int .i64 c]) (fun c H4 => c ≤ cells.length ∧ H4 = H3 ∧ ∀ (i : Nat) t, i < c → row[i]? = some t → 0 ≤ t ∧ t < (next.length : Int)) (fun c _ => cells.length - c) ?_ ?_
              · (conv => whnf); exact ⟨0, rfl, by omega, rfl, fun i t hi => by omega⟩
              · rintro c H4 junk4 ⟨hcl, rfl, hts⟩
                (conv => whnf); refine VIte.mk (fun h => ?_) (fun h => ?_) <;> simp only [decide_eq_true_eq, decide_eq_false_iff_not] at h
                · obtain ⟨t, ht⟩ := get_some (l := row) (k := c) (by omega)
                  (conv => whnf); refine ixr sl23 hn hrow rfl ?_
                  rintro b5 o5 cs5 hSb5 hcells5 ⟨ra5, rc5, rfl, hr5⟩
                  (conv => whnf); refine ld1 ct36 hcells5.one trivial ?_
                  (conv => whnf); refine ixr sl36 hr5 ht rfl ?_
                  rintro b6 o6 cs6 hSb6 hcells6 ⟨rfl, -⟩
                  (conv => whnf); refine ld1 ct3 hcells6.one trivial ?_
                  by_cases hneg : t < 0
                  · have d4 : decide (t < 0) = true := decide_eq_true hneg
                    (conv => whnf); rw [d4]
                    (conv => whnf)
                    exact ⟨by rw [no (p := True) fun h => by have := (soundB_iff.1 h).2.2 row (List.mem_of_getElem? hrow); rw [rowOk_bad ht (.inl hneg)] at this; cases this], Agr.refl _ _⟩
                  · have d4 : decide (t < 0) = false := decide_eq_false hneg
                    (conv => whnf); rw [d4]
                    (conv => whnf); refine ixr sl23 hn hrow rfl ?_
                    rintro b7 o7 cs7 hSb7 hcells7 ⟨ra7, rc7, rfl, hr7⟩
                    (conv => whnf); refine ld1 ct36 hcells7.one trivial ?_
                    (conv => whnf); refine ixr sl36 hr7 ht rfl ?_
                    rintro b8 o8 cs8 hSb8 hcells8 ⟨rfl, -⟩
                    (conv => whnf); refine ld1 ct3 hcells8.one trivial ?_
                    (conv => whnf); refine VIte.mk (fun h2 => ?_) (fun h2 => ?_) <;> simp only [decide_eq_true_eq, decide_eq_false_iff_not] at h2
                    · (conv => whnf)
                      exact ⟨by rw [no (p := True) fun h => by have := (soundB_iff.1 h).2.2 row (List.mem_of_getElem? hrow); rw [rowOk_bad ht (.inr h2)] at this; cases this], Agr.refl _ _⟩
                    · (conv => whnf); rw [w64 (x := (c : Int) + 1) (by omega) (by omega)]
                      refine ⟨rfl, c + 1, by simp, ⟨by omega, rfl, fun i t' hi ht' => ?_⟩, by omega⟩
                      by_cases hic : i = c
                      · subst hic; rw [ht] at ht'; cases ht'; omega
                      · exact hts i t' (by omega) ht'
                · obtain rfl : c = cells.length := by omega
                  (conv => whnf); rw [w64 (x := (q : Int) + 1) (by omega) (by omega)]
                  refine ⟨rfl, q + 1, by simp, ⟨by omega, rfl, fun i row' hi hrow' => ?_⟩, by omega⟩
                  by_cases hiq : i = q
                  · subst hiq
                    rw [hrow] at hrow'; cases hrow'
                    simp only [rowOk, Bool.and_eq_true, beq_iff_eq, List.all_eq_true, decide_eq_true_eq]
                    refine ⟨h1', fun t ht => ?_⟩
                    obtain ⟨j, hj⟩ := List.getElem?_of_mem ht
                    exact hts j t (by have := (List.getElem?_eq_some_iff.1 hj).1; omega) hj
                  · exact hrows i row' (by omega) hrow'
          · obtain rfl : q = next.length := by omega
            (conv => whnf)
            refine ⟨?_, Agr.refl _ _⟩
            rw [soundB_iff.2 ⟨⟨by omega, by omega, rfl⟩, fun b hb => hcnt b hb, fun row hrow => ?_⟩]
            obtain ⟨j, hj⟩ := List.getElem?_of_mem hrow
            exact hrows j row (List.getElem?_eq_some_iff.1 hj).1 hj
  · have d3 : ((next.length : Int) != (fl : Int)) = true := by simp; omega
    (conv => whnf); rw [d1]
    (conv => whnf); rw [d2]
    (conv => whnf); rw [d3]
    (conv => whnf)
    exact ⟨by rw [no (p := True) fun h => by have := (soundB_iff.1 h).1; omega], Agr.refl _ _⟩

end Go.Proofs.Ytkgmhkcncemmkaa

/- The document's Atoms. -/
set_option linter.unusedVariables false
set_option linter.unusedSimpArgs false
set_option maxRecDepth 100000
namespace Go.Proofs.Ytkgmhkcncemmkaa
open Go.VC
attribute [local irreducible] mRun

/-! ### sets as functions -/
def funL (f : Nat → Bool) : List Value := (List.range 256).map fun b => .bool (f b)
theorem funL_len (f : Nat → Bool) : (funL f).length = 256 := by simp [funL]
theorem funL_get (f : Nat → Bool) {b : Nat} (h : b < 256) : (funL f)[b]? = some (.bool (f b)) := by
  unfold funL
  rw [List.getElem?_map, List.getElem?_range h]; rfl
theorem funL_ext {f g : Nat → Bool} (h : ∀ b, b < 256 → f b = g b) : funL f = funL g := by
  unfold funL
  exact List.map_congr_left fun b hb => by rw [h b (List.mem_range.1 hb)]
theorem funL_set (f : Nat → Bool) {k : Nat} (h : k < 256) : (funL f).set k (.bool true) = funL fun b => decide (b = k) || f b := by
  apply List.ext_getElem?
  intro i
  by_cases hi : i < 256
  · rw [funL_get _ hi, List.getElem?_set, funL_len]
    by_cases hik : k = i
    · subst hik; simp [h]
    · rw [if_neg hik, funL_get _ hi, decide_eq_false (Ne.symm hik)]; rfl
  · rw [List.getElem?_eq_none (by simp [funL_len]; omega), List.getElem?_eq_none (by simp [funL_len]; omega)]
theorem funL_ones (f : Nat → Bool) : (funL f).all (·.oneCell') = true := by simp [funL, Value.oneCell']
theorem funL_zero : funL (fun _ => false) = List.replicate 256 (.bool false) := by
  unfold funL
  rw [List.map_const', List.length_range]
def tF : Ty (Nat → Bool) where
  size := 256
  rep _ _ cs f := cs = funL f
  len h := by rw [h]; exact funL_len _
  frame h _ := h
  mono h _ := h
theorem tF_free : tF.Free := fun S S' H H' cs x h => h
theorem tF_ones : tF.Ones := by
  rintro S H cs x rfl u hu
  exact List.all_eq_true.1 (funL_ones x) u hu
theorem slF_ : SlT Try.prog 88 138 tF.size 256 (Try.t138.zero.getD undef) := sl88

/-! ### the plain run -/
def sigEq (cells : List (BitVec 256)) (a b : Nat) : Bool := cells.all fun c => c.getLsbD a == c.getLsbD b
/-- The least bytes of the atoms so far, the place of each byte so far. -/
def atRun (cells : List (BitVec 256)) : Nat → List Nat × List Nat
  | 0 => ([], [])
  | b + 1 => match (atRun cells b).1.findIdx? fun g => sigEq cells b g with
    | some k => ((atRun cells b).1, (atRun cells b).2 ++ [k])
    | none => ((atRun cells b).1 ++ [b], (atRun cells b).2 ++ [(atRun cells b).1.length])
def atSet (ps : List Nat) (k : Nat) (b : Nat) : Bool := ps[b]? == some k
def atSets (ps : List Nat) (n : Nat) : List (Nat → Bool) := (List.range n).map (atSet ps)
structure AtOk (cells : List (BitVec 256)) (b : Nat) (f ps : List Nat) : Prop where
  plen : ps.length = b
  flen : f.length ≤ b
  lt : ∀ p ∈ ps, p < f.length
  first : ∀ (k g : Nat), f[k]? = some g → g < b ∧ ps[g]? = some k
  sig : ∀ (i p g : Nat), ps[i]? = some p → f[p]? = some g → sigEq cells i g = true ∧ g ≤ i
theorem sigEq_refl (cells : List (BitVec 256)) (a : Nat) : sigEq cells a a = true := by simp [sigEq]
theorem atRun_ok (cells : List (BitVec 256)) : ∀ b, AtOk cells b (atRun cells b).1 (atRun cells b).2
  | 0 => ⟨rfl, Nat.le_refl _, (fun p h => by cases h), (fun k g h => by cases h), (fun i p g h => by cases h)⟩
  | b + 1 => by
    have ih := atRun_ok cells b
    unfold atRun
    split
    · rename_i k hk
      rw [List.findIdx?_eq_some_iff_getElem] at hk
      obtain ⟨hlt, hsig, _⟩ := hk
      refine ⟨by simp [ih.plen], by have := ih.flen; simp only; omega, fun p hp => ?_, fun k' g hg => ?_, fun i p g hi hg => ?_⟩
      · rcases List.mem_append.1 hp with h | h
        · exact ih.lt p h
        · rw [List.mem_singleton] at h; subst h; exact hlt
      · obtain ⟨h1, h2⟩ := ih.first k' g hg
        exact ⟨by omega, by simp only; rw [List.getElem?_append_left (by rw [ih.plen]; exact h1)]; exact h2⟩
      · simp only at hi hg
        by_cases hib : i < b
        · rw [List.getElem?_append_left (by rw [ih.plen]; exact hib)] at hi
          exact ih.sig i p g hi hg
        · rw [List.getElem?_append_right (by rw [ih.plen]; omega), ih.plen] at hi
          have hi0 : i - b = 0 := by
            have := (List.getElem?_eq_some_iff.1 hi).1
            simp only [List.length_singleton] at this
            omega
          rw [hi0, List.getElem?_cons_zero] at hi
          cases hi
          rw [List.getElem?_eq_getElem hlt] at hg
          cases hg
          have hib' : i = b := by omega
          subst hib'
          exact ⟨hsig, by have := (ih.first _ _ (List.getElem?_eq_getElem hlt)).1; omega⟩
    · rename_i hk
      refine ⟨by simp [ih.plen], by have := ih.flen; simp; omega, fun p hp => ?_, fun k' g hg => ?_, fun i p g hi hg => ?_⟩
      · simp only [List.length_append, List.length_singleton]
        rcases List.mem_append.1 hp with h | h
        · have := ih.lt p h; omega
        · rw [List.mem_singleton] at h; subst h; omega
      · simp only at hg ⊢
        by_cases hkl : k' < (atRun cells b).1.length
        · rw [List.getElem?_append_left hkl] at hg
          obtain ⟨h1, h2⟩ := ih.first k' g hg
          exact ⟨by omega, by rw [List.getElem?_append_left (by rw [ih.plen]; exact h1)]; exact h2⟩
        · rw [List.getElem?_append_right (by omega)] at hg
          have h0 := (List.getElem?_eq_some_iff.1 hg).1
          simp only [List.length_singleton] at h0
          rw [show k' - (atRun cells b).1.length = 0 by omega, List.getElem?_cons_zero] at hg
          cases hg
          exact ⟨by omega, by rw [List.getElem?_append_right (by rw [ih.plen]; omega), ih.plen, Nat.sub_self, List.getElem?_cons_zero]; congr 1; omega⟩
      · simp only at hi hg
        by_cases hib : i < b
        · rw [List.getElem?_append_left (by rw [ih.plen]; exact hib)] at hi
          have hp := ih.lt p (List.mem_of_getElem? hi)
          rw [List.getElem?_append_left hp] at hg
          exact ih.sig i p g hi hg
        · rw [List.getElem?_append_right (by rw [ih.plen]; omega), ih.plen] at hi
          have hi0 : i - b = 0 := by
            have := (List.getElem?_eq_some_iff.1 hi).1
            simp only [List.length_singleton] at this
            omega
          rw [hi0, List.getElem?_cons_zero] at hi
          cases hi
          rw [List.getElem?_append_right (Nat.le_refl _), Nat.sub_self, List.getElem?_cons_zero] at hg
          cases hg
          have hib' : i = b := by omega
          subst hib'
          exact ⟨sigEq_refl _ _, Nat.le_refl _⟩

def asI (l : List Nat) : List Int := l.map fun (n : Nat) => (n : Int)
theorem asI_get {l : List Nat} {i n : Nat} (h : l[i]? = some n) : (asI l)[i]? = some (n : Int) := by unfold asI; rw [List.getElem?_map, h]; rfl
theorem asI_len (l : List Nat) : (asI l).length = l.length := by simp [asI]
theorem atSets_len (ps : List Nat) (n : Nat) : (atSets ps n).length = n := by simp [atSets]
theorem atSets_get {ps : List Nat} {n k : Nat} (h : k < n) : (atSets ps n)[k]? = some (atSet ps k) := by unfold atSets; rw [List.getElem?_map, List.getElem?_range h]; rfl
/-- One byte more has its place. -/
theorem atSets_put {ps : List Nat} {n k : Nat} (hk : k < n) : (atSets ps n).set k (fun b => decide (b = ps.length) || atSet ps k b) = atSets (ps ++ [k]) n := by
  apply List.ext_getElem?
  intro i
  by_cases hi : i < n
  · rw [List.getElem?_set, atSets_len, atSets_get hi, atSets_get hi]
    have key : ∀ j, atSet (ps ++ [k]) j = fun b => (decide (b = ps.length) && decide (j = k)) || atSet ps j b := by
      intro j
      funext b
      unfold atSet
      rcases Nat.lt_trichotomy b ps.length with h | h | h
      · rw [List.getElem?_append_left h, decide_eq_false (by omega)]; simp
      · subst h
        rw [List.getElem?_append_right (Nat.le_refl _), Nat.sub_self, List.getElem?_cons_zero, List.getElem?_eq_none (Nat.le_refl _)]
        simp [eq_comm]
        by_cases h : k = j <;> simp [h]
      · rw [List.getElem?_eq_none (by simp; omega), List.getElem?_eq_none (by omega), decide_eq_false (by omega)]; simp
    rw [key]
    by_cases hik : k = i
    · subst hik; simp [hi]
    · rw [if_neg hik]
      have : (decide (i = k)) = false := decide_eq_false (Ne.symm hik)
      simp [this]
  · rw [List.getElem?_eq_none (by simp [atSets_len]; omega), List.getElem?_eq_none (by simp [atSets_len]; omega)]
theorem atSets_more (ps : List Nat) (n : Nat) (h : ∀ p ∈ ps, p < n) : atSets ps (n + 1) = atSets ps n ++ [fun _ => false] := by
  unfold atSets
  rw [List.range_succ, List.map_append]
  congr 1
  simp only [List.map_cons, List.map_nil, List.cons.injEq, and_true]
  funext b
  unfold atSet
  cases hb : ps[b]? with
  | none => rfl
  | some p => have := h p (List.mem_of_getElem? hb); simp; omega

end Go.Proofs.Ytkgmhkcncemmkaa

/- The document's Atoms: the walk. -/
set_option linter.unusedVariables false
set_option linter.unusedSimpArgs false
set_option maxRecDepth 100000
namespace Go.Proofs.Ytkgmhkcncemmkaa
open Go.VC
attribute [local irreducible] mRun

theorem splice_set {l c : List Value} {o b : Nat} {v : Value} (h : ∀ i, i < c.length → l[o + i]? = c[i]?) (hl : o + c.length ≤ l.length) (hb : b < c.length) : splice l o (c.set b v) = l.set (o + b) v := by
  apply List.ext_getElem?
  intro j
  rw [splice_get (by rw [List.length_set]; exact hl), List.length_set, List.getElem?_set (l := l)]
  by_cases hj : o ≤ j ∧ j < o + c.length
  · rw [if_pos hj, List.getElem?_set]
    by_cases hjb : o + b = j
    · rw [if_pos hjb, if_pos (by omega), if_pos (by omega), if_pos (by omega)]
    · rw [if_neg hjb, if_neg (by omega), ← h (j - o) (by omega), show o + (j - o) = j by omega]
  · rw [if_neg hj, if_neg (by omega)]
theorem SlO.byte {H : Heap} {lo : Nat} {e : TypeId} {v : Value} {xs : List (Nat → Bool)} {k b : Nat} {f : Nat → Bool} (h : SlO tF (fun _ => False) H lo e v xs) (hk : xs[k]? = some f) (hb : b < 256) :
    ∃ vb cap l, v = .slice (some ⟨vb, 0, none⟩) xs.length cap ∧ lo ≤ vb ∧ Blk H vb e l ∧ k * 256 + b < l.length ∧ ∀ H', Blk H' vb e (l.set (k * 256 + b) (.bool true)) → SlO tF (fun _ => False) H' lo e v (xs.set k fun i => decide (i = b) || f i) := by
  have hlt := (List.getElem?_eq_some_iff.1 hk).1
  obtain ⟨vb, cap, l, cs, e1, h1, h2, h3, h4, h5, h6⟩ := h.place hlt
  have hsz : tF.size = 256 := rfl
  rw [hsz] at h3 h4 h6
  obtain ⟨c, hc, rfl⟩ := h4 f hk
  refine ⟨vb, cap, l, e1, h1, h2, by omega, fun H' hb' => h6 H' (funL fun i => decide (i = b) || f i) _ ?_ (fun _ f => f.elim) rfl⟩
  rw [← funL_set f hb, splice_set (by
    intro i hi
    obtain ⟨u, hu⟩ := get_some hi
    have := hc i u hu
    rw [h2.cell] at this
    rw [this, hu]) (by rw [funL_len]; exact h3) (by rw [funL_len]; exact hb)]
  exact hb'

theorem atRun_some {cells : List (BitVec 256)} {b k : Nat} (h : (atRun cells b).1.findIdx? (fun g => sigEq cells b g) = some k) : atRun cells (b + 1) = ((atRun cells b).1, (atRun cells b).2 ++ [k]) := by
  rw [atRun, h]
theorem atRun_none {cells : List (BitVec 256)} {b : Nat} (h : (atRun cells b).1.findIdx? (fun g => sigEq cells b g) = none) : atRun cells (b + 1) = ((atRun cells b).1 ++ [b], (atRun cells b).2 ++ [(atRun cells b).1.length]) := by
  rw [atRun, h]
def fdI (cells : List (BitVec 256)) (b : Nat) (l : List Nat) : Int := match l.findIdx? fun g => sigEq cells b g with
  | some k => (k : Int)
  | none => -1
theorem fdI_none {cells : List (BitVec 256)} {b : Nat} {l : List Nat} : fdI cells b l < 0 ↔ (l.findIdx? fun g => sigEq cells b g) = none := by
  unfold fdI
  split
  · rename_i k h; rw [h]; simp
  · rename_i h; rw [h]; simp
theorem fdI_in {cells : List (BitVec 256)} {b : Nat} {l : List Nat} : -1 ≤ fdI cells b l ∧ fdI cells b l < l.length := by
  unfold fdI
  split
  · rename_i k h
    have := (List.findIdx?_eq_some_iff_getElem.1 h).1
    omega
  · omega
theorem fdI_snoc {cells : List (BitVec 256)} {b g : Nat} {l : List Nat} (h : fdI cells b l < 0) : fdI cells b (l ++ [g]) = if sigEq cells b g then (l.length : Int) else -1 := by
  have h1 := fdI_none.1 h
  unfold fdI
  rw [List.findIdx?_append, h1]
  simp only [List.findIdx?_singleton, Option.none_or]
  cases hs : sigEq cells b g <;> simp
theorem fdI_take {cells : List (BitVec 256)} {b k : Nat} {l : List Nat} (h : 0 ≤ fdI cells b (l.take k)) : fdI cells b l = fdI cells b (l.take k) := by
  have h1 : (l.take k).findIdx? (fun g => sigEq cells b g) ≠ none := fun h2 => by have := fdI_none.2 h2; omega
  cases h2 : (l.take k).findIdx? (fun g => sigEq cells b g) with
  | none => exact absurd h2 h1
  | some k0 =>
    have h3 : l.findIdx? (fun g => sigEq cells b g) = some k0 := by
      conv => lhs; rw [← List.take_append_drop k l]
      rw [List.findIdx?_append, h2]; rfl
    unfold fdI
    rw [h2, h3]
def alikeTo (cells : List (BitVec 256)) (b g j : Nat) : Bool := (cells.take j).all fun c => c.getLsbD b == c.getLsbD g
theorem alikeTo_succ {cells : List (BitVec 256)} {b g j : Nat} {c : BitVec 256} (h : cells[j]? = some c) : alikeTo cells b g (j + 1) = (alikeTo cells b g j && (c.getLsbD b == c.getLsbD g)) := by
  unfold alikeTo
  rw [take_succ_snoc h, List.all_append]; simp
theorem alikeTo_all (cells : List (BitVec 256)) (b g : Nat) : alikeTo cells b g cells.length = sigEq cells b g := by unfold alikeTo sigEq; rw [List.take_length]
theorem alikeTo_no {cells : List (BitVec 256)} {b g j : Nat} (h : alikeTo cells b g j = false) : sigEq cells b g = false := by
  unfold alikeTo at h
  unfold sigEq
  rw [← List.take_append_drop j cells, List.all_append, h]; rfl

set_option maxHeartbeats 4000000 in
theorem atoms_c (ca : Option Addr) (cc : Nat) (cells : List (BitVec 256)) (S : Nat → Prop) (H : Heap) (hS : ∀ k, S k → k < H.size) (hc : SlD tB S H ca cc cells) (hn : cells.length ≤ 4194304) :
    FnOk Try.prog 94 #[.slice ca cells.length cc] H fun v H' => Agr (Old H) H H' ∧ H.size ≤ H'.size ∧ ∃ a cap, v = .slice a (atRun cells 256).1.length cap ∧
      SlD tF (Fresh H H') H' a cap (atSets (atRun cells 256).2 (atRun cells 256).1.length) := by
  refine FnOk.of_vc Try.func94 rfl (Try.call94 _) ?_
  (conv => whnf)
  refine VLoop.mk [3, 4, 5] (fun x : Nat × Value × Value => match x with | (b, vo, vf) => [vo, vf, .int .i64 b]) (fun x H2 => x.1 ≤ 256 ∧ Agr (Old H) H H2 ∧ H.size ≤ H2.size ∧
    SlO tF (fun _ => False) H2 H.size 138 x.2.1 (atSets (atRun cells x.1).2 (atRun cells x.1).1.length) ∧ SlO tI (fun _ => False) H2 H.size 3 x.2.2 (asI (atRun cells x.1).1) ∧ ∀ j, slB x.2.1 j → ¬ slB x.2.2 j) (fun x _ => 256 - x.1) ?_ ?_
  · (conv => whnf)
    exact ⟨(0, .slice none 0 0, .slice none 0 0), rfl, by simp, Agr.refl _ _, Nat.le_refl _, SlO.nil, SlO.nil, fun j hj => by obtain ⟨o, n, c, h⟩ := hj; cases h⟩
  · rintro ⟨b, vo, vf⟩ H2 junk ⟨hb, ha2, hs2, ho, hf, hap⟩
    simp only at hb ho hf hap
    have hok := atRun_ok cells b
    have hfl := hok.flen
    obtain ⟨fa, fcap, rfl, hfv, -⟩ := hf.view (S' := Old H2) (fun j hj => (hf.lt hj).2) (fun _ f => f.elim)
    obtain ⟨oa, ocap, rfl, hov, -⟩ := ho.view (S' := Old H2) (fun j hj => (ho.lt hj).2) (fun _ f => f.elim)
    rw [asI_len, atSets_len] at *
    have hcS := hc.frame (ha2.mono hS)
    (conv => whnf); refine VIte.mk (fun h => ?_) (fun h => ?_) <;> simp only [decide_eq_true_eq, decide_eq_false_iff_not] at h
    · (conv => whnf)
      refine VLoop.mk [6, 7] (fun k : Nat => [.int .i64 (fdI cells b ((atRun cells b).1.take k)), .int .i64 k]) (fun k H3 => k ≤ (atRun cells b).1.length ∧ H3 = H2) (fun k _ => (atRun cells b).1.length - k) ?_ ?_
      · (conv => whnf); exact ⟨0, rfl, by omega, rfl⟩
      · rintro k H3 junk3 ⟨hk, rfl⟩
        by_cases hkl : k < (atRun cells b).1.length
        · have d1 : decide ((k : Int) < ((atRun cells b).1.length : Int)) = true := decide_eq_true (by omega)
          (conv => whnf); rw [d1]
          (conv => whnf); refine VIte.mk (fun h1 => ?_) (fun h1 => ?_) <;> simp only [decide_eq_true_eq, decide_eq_false_iff_not] at h1
          · obtain ⟨g, hg⟩ := get_some hkl
            have hgb := (hok.first k g hg).1
            (conv => whnf); refine VSeq.run ?_
            (conv => whnf)
            refine VLoop.mk [8, 9] (fun j : Nat => [.bool (alikeTo cells b g j), .int .i64 j]) (fun j H4 => j ≤ cells.length ∧ H4 = H3) (fun j _ => cells.length - j) ?_ ?_
            · (conv => whnf); exact ⟨0, rfl, by omega, rfl⟩
            · rintro j H4 junk4 ⟨hj, rfl⟩
              -- behind the inner loop
              by_cases hjl : j < cells.length
              · have d2 : decide ((j : Int) < (cells.length : Int)) = true := decide_eq_true (by omega)
                cases hal : alikeTo cells b g j with
                | true =>
                  obtain ⟨x, hx⟩ := get_some hjl
                  (conv => whnf); rw [d2]
                  (conv => whnf); refine VDraw.lex rfl (by kernel_rfl) ?_
                  (conv => whnf); refine ixr slB_ hcS hx rfl ?_
                  rintro b5 o5 cs5 hSb5 hcells5 rfl
                  (conv => whnf); refine ixa ar138 (by omega) (by omega) ?_
                  (conv => whnf); refine ld1 (v := .bool (x.getLsbD b)) ct4 (by rw [show o5 + ((b : Nat) : Int).toNat * 1 = o5 + b by omega]; exact hcells5 b _ (bitsL_get x (by omega))) trivial ?_
                  (conv => whnf); refine ixrn sl36 hfv (asI_len _).symm (asI_get hg) rfl ?_
                  rintro b6 o6 cs6 hSb6 hcells6 ⟨rfl, -⟩
                  (conv => whnf); refine ld1 ct3 hcells6.one trivial ?_
                  (conv => whnf); refine ixr slB_ hcS hx rfl ?_
                  rintro b7 o7 cs7 hSb7 hcells7 rfl
                  (conv => whnf); refine ixa ar138 (by omega) (by omega) ?_
                  (conv => whnf); refine ld1 (v := .bool (x.getLsbD g)) ct4 (by rw [show o7 + ((g : Nat) : Int).toNat * 1 = o7 + g by omega]; exact hcells7 g _ (bitsL_get x (by omega))) trivial ?_
                  (conv => whnf); refine beq_b rfl ?_
                  (conv => whnf); rw [w64 (x := (j : Int) + 1) (by omega) (by omega)]
                  exact ⟨rfl, j + 1, by rw [alikeTo_succ hx, hal]; simp, ⟨by omega, rfl⟩, by omega⟩
                | false =>
                  have hs := alikeTo_no hal
                  (conv => whnf); rw [d2]
                  (conv => whnf); rw [w64 (x := (k : Int) + 1) (by omega) (by omega)]
                  refine ⟨rfl, k + 1, ?_, ⟨by omega, rfl⟩, by omega⟩
                  rw [take_succ_snoc hg, fdI_snoc h1, hs]
                  have : fdI cells b ((atRun cells b).1.take k) = -1 := by have := (fdI_in (cells := cells) (b := b) (l := (atRun cells b).1.take k)).1; omega
                  rw [this]; simp
              · obtain rfl : j = cells.length := by omega
                have d2 : decide ((cells.length : Int) < (cells.length : Int)) = false := decide_eq_false (by omega)
                rw [alikeTo_all]
                cases hs : sigEq cells b g with
                | true =>
                  (conv => whnf); rw [d2]
                  (conv => whnf); rw [w64 (x := (k : Int) + 1) (by omega) (by omega)]
                  refine ⟨rfl, k + 1, ?_, ⟨by omega, rfl⟩, by omega⟩
                  rw [take_succ_snoc hg, fdI_snoc h1, hs]
                  simp; omega
                | false =>
                  (conv => whnf); rw [d2]
                  (conv => whnf); rw [w64 (x := (k : Int) + 1) (by omega) (by omega)]
                  refine ⟨rfl, k + 1, ?_, ⟨by omega, rfl⟩, by omega⟩
                  rw [take_succ_snoc hg, fdI_snoc h1, hs]
                  have : fdI cells b ((atRun cells b).1.take k) = -1 := by have := (fdI_in (cells := cells) (b := b) (l := (atRun cells b).1.take k)).1; omega
                  rw [this]; simp
          · rw [← fdI_take (by omega)]
            replace h1 : 0 ≤ fdI cells b (atRun cells b).1 := by rw [fdI_take (k := k) (by omega)]; omega
            cases hfi : (atRun cells b).1.findIdx? fun g => sigEq cells b g with
            | none => exact absurd (fdI_none.2 hfi) (by omega)
            | some k0 =>
              have hk0 := (List.findIdx?_eq_some_iff_getElem.1 hfi).1
              have hfd : fdI cells b (atRun cells b).1 = (k0 : Int) := by unfold fdI; rw [hfi]
              rw [hfd]
              have hnext : atRun cells (b + 1) = ((atRun cells b).1, (atRun cells b).2 ++ [k0]) := atRun_some hfi
              obtain ⟨vb, cap, l, e1, hlo, hblk, hlen, hput⟩ := SlO.byte ho (atSets_get hk0) (show b < 256 by omega)
              rw [atSets_len] at e1
              injection e1 with e2 e3 e4
              subst e2; subst e4
              (conv => whnf); refine VSeq.run ?_
              (conv => whnf); refine ix slF_ (by omega) (by omega) ?_
              (conv => whnf); refine ixa ar138 (by omega) (by omega) ?_
              (conv => whnf); refine st1 ct4 hblk (by rw [show tF.size = 256 from rfl]; omega) rfl ?_
              intro H6 hb6 ha6 hs6
              rw [show 0 + ((k0 : Nat) : Int).toNat * tF.size + ((b : Nat) : Int).toNat * 1 = k0 * 256 + b by rw [show tF.size = 256 from rfl]; omega] at hb6
              have ho6 := hput H6 hb6
              have hput2 := atSets_put (ps := (atRun cells b).2) hk0
              rw [hok.plen] at hput2
              rw [hput2] at ho6
              have hf6 := hf.agr ha6 (fun j hj => by rintro rfl; exact hap _ ⟨0, _, _, rfl⟩ hj) (fun _ f => f.elim)
              (conv => whnf); rw [w64 (x := (b : Int) + 1) (by omega) (by omega)]
              refine ⟨rfl, (b + 1, .slice (some ⟨vb, 0, none⟩) (atRun cells b).1.length ocap, .slice fa (atRun cells b).1.length fcap), by simp, ⟨by simp only; omega, ha2.trans (ha6.mono fun j hj => by unfold Old at hj; omega), by omega, ?_, ?_, hap⟩, by simp only; omega⟩
              · simp only [hnext]; exact ho6
              · simp only [hnext]; exact hf6
        · obtain rfl : k = (atRun cells b).1.length := by omega
          have d1 : decide (((atRun cells b).1.length : Int) < ((atRun cells b).1.length : Int)) = false := decide_eq_false (by omega)
          rw [List.take_length]
          (conv => whnf); rw [d1]
          by_cases h1 : fdI cells b (atRun cells b).1 < 0
          · have hfi := fdI_none.1 h1
            have hfd : fdI cells b (atRun cells b).1 = -1 := by have := (fdI_in (cells := cells) (b := b) (l := (atRun cells b).1)).1; omega
            rw [hfd]
            have hnext : atRun cells (b + 1) = ((atRun cells b).1 ++ [b], (atRun cells b).2 ++ [(atRun cells b).1.length]) := atRun_none hfi
            have hlt' : ∀ p ∈ (atRun cells b).2, p < (atRun cells b).1.length := hok.lt
            (conv => whnf); refine VSeq.run ?_
            (conv => whnf); refine vbuildA ar138 (Try.t138.zero.getD undef) rfl (List.replicate 256 (.bool false)) rfl ?_
            (conv => whnf); refine vbuild1 slF_ (List.replicate 256 (.bool false)) rfl rfl (by decide) (by decide) ?_
            intro q4 H4 hq4 hs4 hb4 ha4
            have ho4 := ho.agr ha4 (fun j hj => by have := (ho.lt hj).2; omega) (fun _ f => f.elim)
            have hf4 := hf.agr ha4 (fun j hj => by have := (hf.lt hj).2; omega) (fun _ f => f.elim)
            (conv => whnf); refine vappendO (T := tF) (S := fun _ => False) (ys := [fun _ => false]) (ds := List.replicate 256 (.bool false)) (lo := H.size) (xs := atSets (atRun cells b).2 (atRun cells b).1.length) slF_ ho4 (by omega) (fun j hj => hj.elim)
              (hb4.cells (fun j v hv => by rw [Nat.zero_add]; exact hv)) (Ty.reps_one (show List.replicate 256 (Value.bool false) = funL (fun _ => false) from funL_zero.symm)) rfl (by intro u hu; rw [List.eq_of_mem_replicate hu]; rfl) (by rw [atSets_len]; simp only [maxLen, List.length_singleton]; omega) (by rw [atSets_len]; simp only [List.length_singleton]; omega) ?_
            intro v5 H5 ho5 ha5 hs5 hfr5
            rw [← atSets_more _ _ hlt'] at ho5
            have hf5 := hf4.agr ha5 (fun j hj => ⟨(hf4.lt hj).2, fun h => hap j h hj⟩) (fun _ f => f.elim)
            have hb5 : Blk H5 q4 138 (List.replicate 256 (.bool false)) := hb4.agr ha5 ⟨hb4.lt, fun h => by have := (ho.lt h).2; omega⟩
            (conv => whnf); refine vbuild1 sl36 [.int .i64 (b : Int)] rfl rfl (by decide) (by decide) ?_
            intro q6 H6 hq6 hs6 hb6 ha6
            have ho6 := ho5.agr ha6 (fun j hj => by have := (ho5.lt hj).2; omega) (fun _ f => f.elim)
            have hf6 := hf5.agr ha6 (fun j hj => by have := (hf5.lt hj).2; omega) (fun _ f => f.elim)
            (conv => whnf); refine vappendO (T := tI) (S := fun _ => False) (ys := [(b : Int)]) (ds := [.int .i64 (b : Int)]) (lo := H.size) (xs := asI (atRun cells b).1) sl36 hf6 (by omega) (fun j hj => hj.elim)
              (hb6.cells (fun j v hv => by simpa using hv)) (Ty.reps_one ⟨rfl, inI64 (by omega)⟩) rfl (by intro u hu; cases List.mem_singleton.1 hu; rfl) (by rw [asI_len]; simp only [maxLen, List.length_singleton]; omega) (by rw [asI_len]; simp only [List.length_singleton]; omega) ?_
            intro v7 H7 hf7 ha7 hs7 hfr7
            have hap5 : ∀ j, slB v5 j → ¬ slB (.slice fa (atRun cells b).1.length fcap) j := fun j hj hj' => by
              rcases hfr5 j hj with h | h
              · exact hap j h hj'
              · have := (hf.lt hj').2; omega
            have ho7 := ho6.agr ha7 (fun j hj => ⟨(ho6.lt hj).2, hap5 j hj⟩) (fun _ f => f.elim)
            have hap7 : ∀ j, slB v5 j → ¬ slB v7 j := fun j hj hj' => by
              rcases hfr7 j hj' with h | h
              · exact hap5 j hj h
              · have := (ho6.lt hj).2; omega
            have hget7 : (atSets (atRun cells b).2 ((atRun cells b).1.length + 1))[(atRun cells b).1.length]? = some (atSet (atRun cells b).2 (atRun cells b).1.length) := atSets_get (by omega)
            obtain ⟨vb, cap, l, e1, hlo, hblk, hlen, hput⟩ := SlO.byte ho7 hget7 (show b < 256 by omega)
            subst e1
            rw [atSets_len] at *
            have hnn : (atRun cells b).1.length < (atRun cells b).1.length + 1 := by omega
            (conv => whnf); refine ix slF_ (by omega) (by omega) ?_
            (conv => whnf); refine ixa ar138 (by omega) (by omega) ?_
            (conv => whnf); refine st1 ct4 hblk (by rw [show tF.size = 256 from rfl]; omega) rfl ?_
            intro H8 hb8 ha8 hs8
            rw [show 0 + (((atRun cells b).1.length : Nat) : Int).toNat * tF.size + ((b : Nat) : Int).toNat * 1 = (atRun cells b).1.length * 256 + b by rw [show tF.size = 256 from rfl]; omega] at hb8
            have ho8 := hput H8 hb8
            have hput2 := atSets_put (ps := (atRun cells b).2) hnn
            rw [hok.plen] at hput2
            rw [hput2] at ho8
            have hf8 := hf7.agr ha8 (fun j hj => by rintro rfl; exact hap7 _ ⟨0, _, _, rfl⟩ hj) (fun _ f => f.elim)
            have hA8 : Agr (Old H) H H8 := ((((ha2.trans (ha4.mono fun j hj => by have := old_lt ha2 hj; omega)).trans (ha5.mono fun j hj => ⟨by have := old_lt ha2 hj; omega, fun h => by have := (ho.lt h).1; unfold Old at hj; omega⟩)).trans (ha6.mono fun j hj => by have := old_lt ha2 hj; omega)).trans (ha7.mono fun j hj => ⟨by have := old_lt ha2 hj; omega, fun h => by have := (hf.lt h).1; unfold Old at hj; omega⟩)).trans (ha8.mono fun j hj => by unfold Old at hj; omega)
            (conv => whnf); rw [w64 (x := (b : Int) + 1) (by omega) (by omega)]
            refine ⟨rfl, (b + 1, _, _), rfl, ⟨by simp only; omega, hA8, by omega, ?_, ?_, hap7⟩, by simp only; omega⟩
            · simp only [hnext, List.length_append, List.length_singleton]; exact ho8
            · simp only [hnext, asI, List.map_append, List.map_cons, List.map_nil]; exact hf8
          · replace h1 : 0 ≤ fdI cells b (atRun cells b).1 := by omega
            cases hfi : (atRun cells b).1.findIdx? fun g => sigEq cells b g with
            | none => exact absurd (fdI_none.2 hfi) (by omega)
            | some k0 =>
              have hk0 := (List.findIdx?_eq_some_iff_getElem.1 hfi).1
              have hfd : fdI cells b (atRun cells b).1 = (k0 : Int) := by unfold fdI; rw [hfi]
              rw [hfd]
              have hnext : atRun cells (b + 1) = ((atRun cells b).1, (atRun cells b).2 ++ [k0]) := atRun_some hfi
              obtain ⟨vb, cap, l, e1, hlo, hblk, hlen, hput⟩ := SlO.byte ho (atSets_get hk0) (show b < 256 by omega)
              rw [atSets_len] at e1
              injection e1 with e2 e3 e4
              subst e2; subst e4
              (conv => whnf); refine VSeq.run ?_
              (conv => whnf); refine ix slF_ (by omega) (by omega) ?_
              (conv => whnf); refine ixa ar138 (by omega) (by omega) ?_
              (conv => whnf); refine st1 ct4 hblk (by rw [show tF.size = 256 from rfl]; omega) rfl ?_
              intro H6 hb6 ha6 hs6
              rw [show 0 + ((k0 : Nat) : Int).toNat * tF.size + ((b : Nat) : Int).toNat * 1 = k0 * 256 + b by rw [show tF.size = 256 from rfl]; omega] at hb6
              have ho6 := hput H6 hb6
              have hput2 := atSets_put (ps := (atRun cells b).2) hk0
              rw [hok.plen] at hput2
              rw [hput2] at ho6
              have hf6 := hf.agr ha6 (fun j hj => by rintro rfl; exact hap _ ⟨0, _, _, rfl⟩ hj) (fun _ f => f.elim)
              (conv => whnf); rw [w64 (x := (b : Int) + 1) (by omega) (by omega)]
              refine ⟨rfl, (b + 1, .slice (some ⟨vb, 0, none⟩) (atRun cells b).1.length ocap, .slice fa (atRun cells b).1.length fcap), by simp, ⟨by simp only; omega, ha2.trans (ha6.mono fun j hj => by unfold Old at hj; omega), by omega, ?_, ?_, hap⟩, by simp only; omega⟩
              · simp only [hnext]; exact ho6
              · simp only [hnext]; exact hf6
    · obtain rfl : b = 256 := by omega
      obtain ⟨oa2, ocap2, e2, hov2, -⟩ := ho.view (S' := Fresh H H2) (fun j hj => ho.lt hj) (fun _ f => f.elim)
      rw [atSets_len] at e2
      injection e2 with e3 e4 e5
      subst e3; subst e5
      (conv => whnf)
      exact ⟨ha2, hs2, _, _, rfl, hov2⟩

end Go.Proofs.Ytkgmhkcncemmkaa

/- The document's automata in memory; Parted. -/
set_option linter.unusedVariables false
set_option linter.unusedSimpArgs false
set_option maxRecDepth 100000
namespace Go.Proofs.Ytkgmhkcncemmkaa
open Go.VC
attribute [local irreducible] mRun atRun

def dfaL (cell : List Int) (rv nv fv : Value) : List Value := cell.map (Value.int .i64) ++ [rv, nv, fv]
section
variable {cell : List Int} {rv nv fv v : Value}
theorem dfaL_len (h : cell.length = 256) : (dfaL cell rv nv fv).length = 259 := by simp [dfaL, h]
theorem dfaL_at {b : Nat} {c : Int} (h : cell[b]? = some c) : (dfaL cell rv nv fv)[b]? = some (.int .i64 c) := by
  unfold dfaL
  rw [List.getElem?_append_left (by simpa using (List.getElem?_eq_some_iff.1 h).1), List.getElem?_map, h]; rfl
theorem dfaL_256 (h : cell.length = 256) : (dfaL cell rv nv fv)[256]? = some rv := by
  unfold dfaL
  rw [List.getElem?_append_right (by simp [h]), List.length_map, h]; rfl
theorem dfaL_257 (h : cell.length = 256) : (dfaL cell rv nv fv)[257]? = some nv := by
  unfold dfaL
  rw [List.getElem?_append_right (by simp [h]), List.length_map, h]; rfl
theorem dfaL_258 (h : cell.length = 256) : (dfaL cell rv nv fv)[258]? = some fv := by
  unfold dfaL
  rw [List.getElem?_append_right (by simp [h]), List.length_map, h]; rfl
theorem dfaL_put {b : Nat} {c : Int} (h : b < cell.length) : (dfaL cell rv nv fv).set b (.int .i64 c) = dfaL (cell.set b c) rv nv fv := by
  unfold dfaL
  rw [List.set_append_left _ _ (by simpa using h), List.map_set]
theorem dfaL_put256 (h : cell.length = 256) : (dfaL cell rv nv fv).set 256 v = dfaL cell v nv fv := by
  unfold dfaL
  rw [List.set_append_right _ _ (by simp [h]), List.length_map, h]; rfl
theorem dfaL_put257 (h : cell.length = 256) : (dfaL cell rv nv fv).set 257 v = dfaL cell rv v fv := by
  unfold dfaL
  rw [List.set_append_right _ _ (by simp [h]), List.length_map, h]; rfl
theorem dfaL_put258 (h : cell.length = 256) : (dfaL cell rv nv fv).set 258 v = dfaL cell rv nv v := by
  unfold dfaL
  rw [List.set_append_right _ _ (by simp [h]), List.length_map, h]; rfl
theorem dfaL_ones (h1 : rv.oneCell' = true) (h2 : nv.oneCell' = true) (h3 : fv.oneCell' = true) : (dfaL cell rv nv fv).all (·.oneCell') = true := by
  rw [List.all_eq_true]
  intro u hu
  unfold dfaL at hu
  rcases List.mem_append.1 hu with hu | hu
  · obtain ⟨x, -, rfl⟩ := List.mem_map.1 hu
    rfl
  · simp only [List.mem_cons, List.mem_nil_iff, or_false] at hu
    rcases hu with rfl | rfl | rfl
    · exact h1
    · exact h2
    · exact h3
end
theorem splice_all {l c : List Value} (h : c.length = l.length) : splice l 0 c = c := by
  unfold splice
  rw [List.take_zero, List.nil_append, Nat.zero_add, h, List.drop_length, List.append_nil]

/-! ### the cells so far -/
def cellIn (ps : List Nat) (i n : Nat) : List Int := (List.range 256).map fun b => match ps[b]? with
  | some p => if p < i ∨ (p = i ∧ 256 ≤ b + n) then (p : Int) else 0
  | none => 0
def lstAt (ps : List Nat) (i : Nat) : Nat → Int
  | 0 => -1
  | n + 1 => if ps[255 - n]? = some i then ((255 - n : Nat) : Int) else lstAt ps i n
theorem cellIn_len (ps : List Nat) (i n : Nat) : (cellIn ps i n).length = 256 := by simp [cellIn]
theorem cellIn_get (ps : List Nat) (i n : Nat) {b : Nat} (h : b < 256) : (cellIn ps i n)[b]? = some (match ps[b]? with
  | some p => if p < i ∨ (p = i ∧ 256 ≤ b + n) then (p : Int) else 0
  | none => 0) := by
  unfold cellIn
  rw [List.getElem?_map, List.getElem?_range h]; rfl
theorem cellIn_ext {ps : List Nat} {i n j m : Nat} (h : ∀ (b p : Nat), b < 256 → ps[b]? = some p → ((p < i ∨ (p = i ∧ 256 ≤ b + n)) ↔ (p < j ∨ (p = j ∧ 256 ≤ b + m)))) : cellIn ps i n = cellIn ps j m := by
  apply List.ext_getElem?
  intro b
  by_cases hb : b < 256
  · rw [cellIn_get _ _ _ hb, cellIn_get _ _ _ hb]
    cases hp : ps[b]? with
    | none => rfl
    | some p =>
      have := h b p hb hp
      simp only [this]
  · rw [List.getElem?_eq_none (by rw [cellIn_len]; omega), List.getElem?_eq_none (by rw [cellIn_len]; omega)]
theorem cellIn_yes {ps : List Nat} {i n : Nat} (hn : n < 256) (h : ps[255 - n]? = some i) : (cellIn ps i n).set (255 - n) (i : Int) = cellIn ps i (n + 1) := by
  apply List.ext_getElem?
  intro b
  by_cases hb : b < 256
  · rw [cellIn_get _ _ _ hb, List.getElem?_set, cellIn_len]
    by_cases hbn : 255 - n = b
    · subst hbn
      rw [if_pos rfl, if_pos (by omega), h]
      simp only
      rw [if_pos (.inr ⟨trivial, by omega⟩)]
    · rw [if_neg hbn, cellIn_get _ _ _ hb]
      cases hp : ps[b]? with
      | none => rfl
      | some p =>
        have : (256 ≤ b + n) ↔ (256 ≤ b + (n + 1)) := by omega
        simp only [this]
  · rw [List.getElem?_eq_none (by rw [List.length_set, cellIn_len]; omega), List.getElem?_eq_none (by rw [cellIn_len]; omega)]
theorem cellIn_no {ps : List Nat} {i n : Nat} (hn : n < 256) (h : ps[255 - n]? ≠ some i) : cellIn ps i n = cellIn ps i (n + 1) := by
  refine cellIn_ext fun b p hb hp => ?_
  by_cases hbn : b = 255 - n
  · subst hbn
    rw [hp] at h
    have : p ≠ i := fun e => h (by rw [e])
    simp [this]
  · have : (256 ≤ b + n) ↔ (256 ≤ b + (n + 1)) := by omega
    rw [this]
theorem cellIn_next (ps : List Nat) (i : Nat) : cellIn ps i 256 = cellIn ps (i + 1) 0 := by
  refine cellIn_ext fun b p hb hp => ?_
  omega
theorem cellIn_zero (ps : List Nat) : cellIn ps 0 0 = List.replicate 256 0 := by
  apply List.ext_getElem?
  intro b
  by_cases hb : b < 256
  · rw [cellIn_get _ _ _ hb, List.getElem?_replicate, if_pos hb]
    cases hp : ps[b]? with
    | none => rfl
    | some p => simp only; rw [if_neg (by omega)]
  · rw [List.getElem?_eq_none (by rw [cellIn_len]; omega), List.getElem?_eq_none (by simp; omega)]
theorem cellIn_end {ps : List Nat} {n : Nat} (hl : ps.length = 256) (h : ∀ p ∈ ps, p < n) : cellIn ps n 0 = asI ps := by
  apply List.ext_getElem?
  intro b
  by_cases hb : b < 256
  · obtain ⟨p, hp⟩ := get_some (l := ps) (k := b) (by omega)
    rw [cellIn_get _ _ _ hb, asI_get hp, hp]
    simp only
    rw [if_pos (.inl (h p (List.mem_of_getElem? hp)))]
  · rw [List.getElem?_eq_none (by rw [cellIn_len]; omega), List.getElem?_eq_none (by rw [asI_len]; omega)]
theorem lstAt_in (ps : List Nat) (i : Nat) : ∀ n, n ≤ 256 → -1 ≤ lstAt ps i n ∧ lstAt ps i n ≤ 255
  | 0, _ => by simp [lstAt]
  | n + 1, h => by
    have := lstAt_in ps i n (by omega)
    unfold lstAt
    split <;> omega
theorem lstAt_first {ps : List Nat} {i g : Nat} (hg : g < 256) (h : ps[g]? = some i) (hno : ∀ b, b < g → ps[b]? ≠ some i) : ∀ m, m ≤ g → lstAt ps i (256 - g + m) = (g : Int)
  | 0, _ => by
    rw [Nat.add_zero, show 256 - g = (255 - g) + 1 by omega, lstAt, show 255 - (255 - g) = g by omega, if_pos h]
  | m + 1, hm => by
    have ih := lstAt_first hg h hno m (by omega)
    rw [show 256 - g + (m + 1) = (256 - g + m) + 1 by omega, lstAt, if_neg (hno _ (by omega)), ih]
theorem first_no {cells : List (BitVec 256)} {b : Nat} {f ps : List Nat} (h : AtOk cells b f ps) {i g : Nat} (hg : f[i]? = some g) : ∀ j, j < g → ps[j]? ≠ some i := by
  intro j hj hji
  have := (h.sig j i g hji hg).2
  omega

set_option maxHeartbeats 4000000 in
theorem parted_c (ca : Option Addr) (cc : Nat) (cells : List (BitVec 256)) (S : Nat → Prop) (H : Heap) (hS : ∀ k, S k → k < H.size) (hc : SlD tB S H ca cc cells) (hn : cells.length ≤ 4194304) :
    FnOk Try.prog 77 #[.slice ca cells.length cc] H fun v H' => Agr (Old H) H H' ∧ H.size ≤ H'.size ∧ ∃ ra rc, v = .agg (dfaL (asI (atRun cells 256).2) (.slice ra (atRun cells 256).1.length rc) (.slice none 0 0) (.slice none 0 0)).toArray ∧
      SlD tI (Fresh H H') H' ra rc (asI (atRun cells 256).1) := by
  have hok := atRun_ok cells 256
  have hfl := hok.flen
  refine FnOk.of_vc Try.func77 rfl (Try.call77 _) ?_
  (conv => whnf); refine valloc _ (dfaL (List.replicate 256 0) (.slice none 0 0) (.slice none 0 0) (.slice none 0 0)) rfl (by kernel_rfl) ?_
  intro p1 H1 hp1 hs1 hb1 ha1
  (conv => whnf); refine valloc _ (dfaL (List.replicate 256 0) (.slice none 0 0) (.slice none 0 0) (.slice none 0 0)) rfl (by kernel_rfl) ?_
  intro p2 H2 hp2 hs2 hb2 ha2
  have hA2 : Agr (Old H) H H2 := (ha1.mono fun j hj => by unfold Old at hj; omega).trans (ha2.mono fun j hj => by unfold Old at hj; omega)
  (conv => whnf); refine VCall.mk (atoms_c ca cc cells S H2 (fun k hk => old_lt hA2 (hS k hk)) (hc.frame (hA2.mono hS)) hn) ?_
  rintro v3 H3 ⟨ha3, hs3, aa, ac, rfl, hat⟩
  have hA3 := hA2.trans (ha3.mono fun k hk => old_lt hA2 hk)
  have hb13 := (hb1.agr ha2 (show p1 < p2 by omega)).agr ha3 (show p1 < H2.size by omega)
  have hb23 := hb2.agr ha3 (show p2 < H2.size by omega)
  generalize hfeq : (atRun cells 256).1 = f at *
  generalize hpeq : (atRun cells 256).2 = ps at *
  (conv => whnf)
  refine VLoop.mk [5] (fun i : Nat => [.int .i64 i]) (fun i H4 => i ≤ f.length ∧ Agr (fun j => j < H3.size ∧ j ≠ p2) H3 H4 ∧ H3.size ≤ H4.size ∧ ∃ vr, Blk H4 p2 38 (dfaL (cellIn ps i 0) vr (.slice none 0 0) (.slice none 0 0)) ∧ SlO tI (fun _ => False) H4 H3.size 3 vr (asI (f.take i))) (fun i _ => f.length - i) ?_ ?_
  · (conv => whnf)
    exact ⟨0, rfl, by omega, Agr.refl _ _, Nat.le_refl _, .slice none 0 0, by rw [cellIn_zero]; exact hb23, by rw [List.take_zero]; exact SlO.nil⟩
  · rintro i H4 junk ⟨hi, ha4, hs4, vr, hb4, hr4⟩
    (conv => whnf); refine VIte.mk (fun h => ?_) (fun h => ?_) <;> simp only [decide_eq_true_eq, decide_eq_false_iff_not] at h
    · have hil : i < f.length := by omega
      obtain ⟨g, hg⟩ := get_some hil
      have hati : ∀ {H' : Heap}, Agr (fun j => j < H3.size ∧ j ≠ p2) H3 H' → SlD tF (Fresh H2 H3) H' aa ac (atSets ps f.length) := fun h => hat.frame (h.mono fun k hk => by have := hk.1; exact ⟨hk.2, by omega⟩)
      (conv => whnf)
      refine VLoop.mk [6, 7] (fun n : Nat => [.int .i64 (lstAt ps i n), .int .i64 (255 - (n : Int))]) (fun n H5 => n ≤ 256 ∧ Agr (fun j => j ≠ p2) H4 H5 ∧ H4.size = H5.size ∧ Blk H5 p2 38 (dfaL (cellIn ps i n) vr (.slice none 0 0) (.slice none 0 0))) (fun n _ => 256 - n) ?_ ?_
      · (conv => whnf); exact ⟨0, rfl, by omega, Agr.refl _ _, rfl, hb4⟩
      · rintro n H5 junk5 ⟨hn5, ha5, hs5, hb5⟩
        (conv => whnf); refine VIte.mk (fun h => ?_) (fun h => ?_) <;> simp only [decide_eq_true_eq, decide_eq_false_iff_not] at h
        · have hn256 : n < 256 := by omega
          (conv => whnf); refine VSeq.run ?_
          (conv => whnf); refine ixrn slF_ (hati (ha4.trans (ha5.mono fun j hj => hj.2))) (atSets_len _ _).symm (atSets_get hil) rfl ?_
          rintro b6 o6 cs6 hSb6 hcells6 rfl
          (conv => whnf); refine ixa ar138 (by omega) (by omega) ?_
          (conv => whnf); refine ld1 (v := .bool (atSet ps i (255 - n))) ct4 (by rw [show o6 + (255 - (n : Int)).toNat * 1 = o6 + (255 - n) by omega]; exact hcells6 (255 - n) _ (funL_get _ (by omega))) trivial ?_
          (conv => whnf); refine VIte.mk (fun hbit => ?_) (fun hbit => ?_)
          · have hpi : ps[255 - n]? = some i := by simpa [atSet] using hbit
            (conv => whnf); refine VC.fa fl38_0 ?_
            (conv => whnf); refine ixa ar35 (by omega) (by omega) ?_
            (conv => whnf); refine st1 ct3 hb5 (by rw [dfaL_len (cellIn_len _ _ _)]; omega) rfl ?_
            intro H6 hb6 ha6 hs6
            rw [show 0 + 0 + (255 - (n : Int)).toNat * 1 = 255 - n by omega, dfaL_put (by rw [cellIn_len]; omega), cellIn_yes hn256 hpi] at hb6
            (conv => whnf); rw [w64 (x := 255 - (n : Int) - 1) (by omega) (by omega)]
            refine ⟨rfl, n + 1, ?_, ⟨by omega, ha5.trans (ha6.mono fun j hj => hj), by omega, hb6⟩, by omega⟩
            rw [lstAt, if_pos hpi, show ((255 - n : Nat) : Int) = 255 - (n : Int) by omega, show 255 - ((n + 1 : Nat) : Int) = 255 - (n : Int) - 1 by omega]
          · have hpi : ps[255 - n]? ≠ some i := by simpa [atSet] using hbit
            rw [cellIn_no hn256 hpi] at hb5
            (conv => whnf); rw [w64 (x := 255 - (n : Int) - 1) (by omega) (by omega)]
            refine ⟨rfl, n + 1, ?_, ⟨by omega, ha5, by omega, hb5⟩, by omega⟩
            rw [lstAt, if_neg hpi, show 255 - ((n + 1 : Nat) : Int) = 255 - (n : Int) - 1 by omega]
        · obtain rfl : n = 256 := by omega
          have hg256 := (hok.first i g hg).1
          have hlst : lstAt ps i 256 = (g : Int) := by
            have := lstAt_first hg256 (hok.first i g hg).2 (first_no hok hg) g (Nat.le_refl _)
            rwa [show 256 - g + g = 256 by omega] at this
          rw [hlst, cellIn_next] at *
          have hr5 := hr4.agr ha5 (fun j hj => by have := (hr4.lt hj).1; omega) (fun _ f => f.elim)
          (conv => whnf); refine VC.fa fl38_1 ?_
          (conv => whnf); refine ld1 ct36 (by rw [hb5.cell, Nat.zero_add]; exact dfaL_256 (cellIn_len _ _ _)) trivial ?_
          (conv => whnf); refine vbuild1 sl36 [.int .i64 (g : Int)] rfl rfl (by decide) (by decide) ?_
          intro q6 H6 hq6 hs6 hb6 ha6
          have hr6 := hr5.agr ha6 (fun j hj => by have := (hr5.lt hj).2; omega) (fun _ f => f.elim)
          have hb56 := hb5.agr ha6 (show p2 < q6 by have := hb5.lt; omega)
          have hp2 := hb56.lt
          (conv => whnf); refine vappendO (T := tI) (S := fun _ => False) (ys := [(g : Int)]) (ds := [.int .i64 (g : Int)]) (lo := H3.size) (xs := asI (f.take i)) sl36 hr6 (by omega) (fun j hj => hj.elim)
              (hb6.cells (fun j v hv => by simpa using hv)) (Ty.reps_one ⟨rfl, inI64 (by omega)⟩) rfl (by intro u hu; cases List.mem_singleton.1 hu; rfl) (by rw [asI_len]; simp only [maxLen, List.length_singleton, List.length_take]; omega) (by rw [asI_len]; simp only [List.length_singleton, List.length_take]; omega) ?_
          intro v7 H7 hr7 ha7 hs7 hfr7
          have hb7 := hb56.agr ha7 ⟨hp2, fun hb => by have := (hr6.lt hb).1; omega⟩
          (conv => whnf); refine VC.fa fl38_1 ?_
          (conv => whnf); refine st1 ct36 hb7 (by rw [dfaL_len (cellIn_len _ _ _)]; omega) hr7.one ?_
          intro H8 hb8 ha8 hs8
          rw [Nat.zero_add, dfaL_put256 (cellIn_len _ _ _)] at hb8
          have hr8 := hr7.agr ha8 (fun j hj => by have := (hr7.lt hj).1; omega) (fun _ f => f.elim)
          (conv => whnf); rw [w64 (x := (i : Int) + 1) (by omega) (by omega)]
          refine ⟨rfl, i + 1, by simp, ⟨by omega, ?_, by omega, v7, hb8, ?_⟩, by omega⟩
          · exact (((ha4.trans (ha5.mono fun j hj => hj.2)).trans (ha6.mono fun j hj => by omega)).trans (ha7.mono fun j hj => ⟨by omega, fun hb => by have := (hr6.lt hb).1; omega⟩)).trans (ha8.mono fun j hj => hj.2)
          · rw [take_succ_snoc hg]
            unfold asI at hr8 ⊢
            rw [List.map_append]; exact hr8
    · obtain rfl : i = f.length := by omega
      rw [cellIn_end hok.plen hok.lt] at hb4
      rw [List.take_length] at hr4
      have hA4 : Agr (Old H) H H4 := hA3.trans (ha4.mono fun j hj => by have := old_lt hA3 hj; unfold Old at hj; omega)
      obtain ⟨ra, rc, rfl, hrv, -⟩ := hr4.view (S' := fun j => H3.size ≤ j ∧ j < H4.size) (fun j hj => hr4.lt hj) (fun _ f => f.elim)
      rw [asI_len] at hb4
      have hpl : (asI ps).length = 256 := by rw [asI_len, hok.plen]
      have hl259 : (dfaL (asI ps) (.slice ra f.length rc) (.slice none 0 0) (.slice none 0 0)).length = 259 := dfaL_len hpl
      (conv => whnf); refine ldN (cs := dfaL (asI ps) (.slice ra f.length rc) (.slice none 0 0) (.slice none 0 0)) (by rw [hl259]; exact ag38) (hb4.cells fun j v hv => by rw [Nat.zero_add]; exact hv) trivial ?_
      (conv => whnf); refine VC.stN (cs := dfaL (asI ps) (.slice ra f.length rc) (.slice none 0 0) (.slice none 0 0)) (by rw [hl259]; rfl) (hb13.agr ha4 ⟨by omega, by omega⟩) (Nat.le_of_eq (by rw [hl259, dfaL_len (by simp)])) (dfaL_ones rfl rfl rfl) ?_
      intro H6 hb6 ha6 hs6
      rw [splice_all (by rw [hl259, dfaL_len (by simp)])] at hb6
      (conv => whnf); refine ldN (cs := dfaL (asI ps) (.slice ra f.length rc) (.slice none 0 0) (.slice none 0 0)) (by rw [hl259]; exact ag38) (hb6.cells fun j v hv => by rw [Nat.zero_add]; exact hv) trivial ?_
      exact ⟨hA4.trans (ha6.mono fun j hj => by unfold Old at hj; omega), by omega, ra, rc, rfl, (hrv.frame (ha6.mono fun j hj => by omega)).mono fun j hj => by unfold Fresh at *; omega⟩

end Go.Proofs.Ytkgmhkcncemmkaa
