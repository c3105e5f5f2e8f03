/- The document's Sets, Sound and Whole. -/
import Derived.Test.YtpnnedkpbmilkaaPRef1
set_option linter.unusedVariables false
set_option linter.unusedSimpArgs false
set_option maxRecDepth 100000
namespace Go.Proofs.Ytpnnedkpbmilkaa
open Go.VC
attribute [local irreducible] mRun

/-! ### the plain law -/
def cntTo (cells : List (BitVec 256)) (c b : Nat) : Nat := ((cells.take c).filter fun x => x.getLsbD b).length
def cnt (cells : List (BitVec 256)) (b : Nat) : Nat := (cells.filter fun x => x.getLsbD b).length
def ind (x : BitVec 256) (b : Nat) : Nat := if x.getLsbD b then 1 else 0
theorem cnt_cons (c : BitVec 256) (cs : List (BitVec 256)) (b : Nat) : cnt (c :: cs) b = ind c b + cnt cs b := by
  unfold cnt ind
  rw [List.filter_cons]
  split <;> simp <;> omega
theorem and_zero {a c : BitVec 256} : a &&& c = 0#256 ↔ ∀ b, b < 256 → ind a b + ind c b ≤ 1 := by
  constructor
  · intro h b hb
    have h1 : (a &&& c).getLsbD b = false := by rw [h]; simp
    rw [BitVec.getLsbD_and] at h1
    unfold ind
    cases ha : a.getLsbD b <;> cases hc : c.getLsbD b <;> simp_all
  · intro h
    apply BitVec.eq_of_getLsbD_eq
    intro b hb
    have h1 := h b hb
    rw [BitVec.getLsbD_and]
    unfold ind at h1
    cases ha : a.getLsbD b <;> cases hc : c.getLsbD b <;> simp_all
theorem ind_or {a c : BitVec 256} (h : a &&& c = 0#256) {b : Nat} (hb : b < 256) : ind (a ||| c) b = ind a b + ind c b := by
  have h1 := and_zero.1 h b hb
  unfold ind at h1 ⊢
  rw [BitVec.getLsbD_or]
  cases ha : a.getLsbD b <;> cases hc : c.getLsbD b <;> simp_all
theorem disjGo_some : ∀ (cs : List (BitVec 256)) (all : BitVec 256), (∃ x, disjGo all cs = some x) ↔ ∀ b, b < 256 → ind all b + cnt cs b ≤ 1
  | [], all => by
    simp only [disjGo, cnt, List.filter_nil, List.length_nil]
    refine ⟨fun _ b _ => ?_, fun _ => ⟨_, rfl⟩⟩
    unfold ind
    split <;> omega
  | c :: cs, all => by
    simp only [disjGo]
    split
    · rename_i h
      rw [disjGo_some cs (all ||| c)]
      constructor
      · intro h1 b hb
        have := h1 b hb
        rw [ind_or h hb] at this
        rw [cnt_cons]; omega
      · intro h1 b hb
        have := h1 b hb
        rw [cnt_cons] at this
        rw [ind_or h hb]; omega
    · rename_i h
      refine ⟨fun ⟨x, hx⟩ => (by cases hx), fun h1 => absurd (and_zero.2 fun b hb => ?_) h⟩
      have := h1 b hb
      rw [cnt_cons] at this
      omega
theorem cnt_pos {cs : List (BitVec 256)} {b : Nat} : (cs.any fun c => c.getLsbD b) = true ↔ 1 ≤ cnt cs b := by
  unfold cnt
  rw [List.any_eq_true]
  constructor
  · rintro ⟨x, hx, hb⟩
    exact List.length_pos_of_mem (List.mem_filter.2 ⟨hx, hb⟩)
  · intro h
    obtain ⟨x, hx⟩ := List.exists_mem_of_length_pos h
    exact ⟨x, (List.mem_filter.1 hx).1, (List.mem_filter.1 hx).2⟩
theorem soundB_iff {cells : List (BitVec 256)} {next : List (List Int)} {fl : Nat} : soundB cells next fl = true ↔ (1 ≤ next.length ∧ next.length ≤ 65536 ∧ next.length = fl) ∧ (∀ b, b < 256 → cnt cells b = 1) ∧ ∀ row ∈ next, rowOk next.length cells.length row = true := by
  have hz : ∀ b, ind 0#256 b = 0 := fun b => by simp [ind]
  constructor
  · intro h
    have hr := soundB_rows h
    unfold soundB at h
    split at h
    · cases h
    · rename_i all hall
      simp only [Bool.and_eq_true, beq_iff_eq, decide_eq_true_eq, List.all_eq_true] at h
      refine ⟨⟨hr.1, hr.2.1, hr.2.2.1⟩, fun b hb => ?_, h.2⟩
      have h1 := (disjGo_some cells 0#256).1 ⟨all, hall⟩ b hb
      rw [hz] at h1
      have h2 := disjGo_bits hall b
      rw [h.1.1.1.1, BitVec.getLsbD_allOnes] at h2
      simp only [hb, decide_true, BitVec.getLsbD_zero, Bool.false_or] at h2
      have h3 := cnt_pos.1 h2.symm
      omega
  · rintro ⟨⟨h1, h2, h3⟩, h4, h5⟩
    obtain ⟨all, hall⟩ := (disjGo_some cells 0#256).2 fun b hb => by rw [hz, h4 b hb]; omega
    unfold soundB
    rw [hall]
    simp only [Bool.and_eq_true, beq_iff_eq, decide_eq_true_eq, List.all_eq_true]
    refine ⟨⟨⟨⟨BitVec.eq_of_getLsbD_eq fun b hb => ?_, h1⟩, h2⟩, h3⟩, h5⟩
    rw [disjGo_bits hall b, BitVec.getLsbD_allOnes, cnt_pos.2 (by rw [h4 b hb]; omega)]
    simp [hb]
theorem cntTo_succ {cells : List (BitVec 256)} {c b : Nat} {x : BitVec 256} (h : cells[c]? = some x) : cntTo cells (c + 1) b = cntTo cells c b + ind x b := by
  unfold cntTo ind
  rw [take_succ_snoc h, List.filter_append]
  cases hx : x.getLsbD b <;> simp [hx]
theorem cntTo_all (cells : List (BitVec 256)) (b : Nat) : cntTo cells cells.length b = cnt cells b := by unfold cntTo cnt; rw [List.take_length]
theorem cntTo_le (cells : List (BitVec 256)) (c b : Nat) : cntTo cells c b ≤ c := Nat.le_trans (List.length_filter_le _ _) (by simp; omega)

/-! ### the walks -/
theorem slB_ : SlT Try.prog 48 98 tB.size 256 (Try.t98.zero.getD undef) := sl48
theorem zero_B (S : Nat → Prop) (H : Heap) : tB.rep S H ((Try.t98.zero.getD undef).cells.toList) 0#256 := by
  show _ = bitsL 0#256
  kernel_rfl
theorem sets_l (v1 v2 : Value) (ca : Option Addr) (cc : Nat) (cells : List (BitVec 256)) (S : Nat → Prop) (H : Heap) (hS : ∀ k, S k → k < H.size) (hc : SlD tSet S H ca cc cells) (hn : cells.length ≤ 4194304) :
    FnOk Try.prog 58 #[.agg #[.slice ca cells.length cc, v1, v2]] H fun v H' => Agr (Old H) H H' ∧ H.size ≤ H'.size ∧ ∃ b, v = .slice (some ⟨b, 0, none⟩) cells.length cells.length ∧ H.size ≤ b ∧
      SlO tB (fun _ => False) H' H.size 98 v cells := by
  refine FnOk.of_vc Try.func58 rfl (Try.call58 _) ?_
  (conv => whnf); refine vbox [.slice ca cells.length cc, v1, v2] rfl ?_
  intro pb H1 hpb hs1 hb1 ha1
  (conv => whnf); refine VC.fa fl26_0 ?_
  (conv => whnf); refine ld1 ct22 (by rw [hb1.cell]; rfl) trivial ?_
  (conv => whnf); refine vmakeT (T := tB) (v := 0#256) (S := fun _ => False) slB_ (zero_B _ _) (by omega) rfl (by omega) (by omega) ?_
  intro nb H2 hnb hs2 hb2 ha2
  rw [Int.toNat_natCast] at hb2
  (conv => whnf)
  refine VLoop.mk [4] (fun k : Nat => [.int .i64 k]) (fun k H3 => k ≤ cells.length ∧ Agr (fun j => j < H2.size ∧ j ≠ nb) H2 H3 ∧ H2.size ≤ H3.size ∧
    SlO tB (fun _ => False) H3 H.size 98 (.slice (some ⟨nb, 0, none⟩) cells.length cells.length) (cells.take k ++ List.replicate (cells.length - k) 0#256)) (fun k _ => cells.length - k) ?_ ?_
  · (conv => whnf)
    refine ⟨0, rfl, by omega, Agr.refl _ _, Nat.le_refl _, ?_⟩
    rw [fill_beg]
    exact SlO.made (by omega) hb2 (zero_B _ _) (by unfold maxLen; omega)
  · rintro k H3 junk ⟨hk, ha3, hs3, hown⟩
    have hb13 := (hb1.agr ha2 (show pb < nb by omega)).agr ha3 ⟨by omega, by omega⟩
    (conv => whnf); refine VC.fa fl26_0 ?_
    (conv => whnf); refine ld1 ct22 (by rw [hb13.cell]; rfl) trivial ?_
    (conv => whnf); refine VIte.mk (fun h => ?_) (fun h => ?_) <;> simp only [decide_eq_true_eq, decide_eq_false_iff_not] at h
    · obtain ⟨x, hx⟩ := get_some (l := cells) (k := k) (by omega)
      have hA : Agr (Old H) H H3 := ((ha1.mono fun j hj => by unfold Old at hj; omega).trans (ha2.mono fun j hj => by unfold Old at hj; omega)).trans (ha3.mono fun j hj => by unfold Old at hj; omega)
      (conv => whnf); refine VC.fa fl26_0 ?_
      (conv => whnf); refine ld1 ct22 (by rw [hb13.cell]; rfl) trivial ?_
      (conv => whnf); refine ixr sl22 (hc.frame (hA.mono hS)) hx rfl ?_
      rintro b4 o4 cs4 hSb4 hcells4 rfl
      (conv => whnf); refine ldN (cs := setL x) ag40 hcells4 trivial ?_
      (conv => whnf); refine pures (from_p x H3) fun H4 ha4 => ?_
      have hs4 := old_size ha4
      have hown4 := hown.agr ha4 (fun b hb => (hown.lt hb).2) (fun _ f => f.elim)
      obtain ⟨-, -, hlo5, l5, hblk5, hlen5, hget5, hput5⟩ := hown4.placeS (i := k) (by rw [fill_len hk]; omega)
      have hszB : tB.size = 256 := rfl
      (conv => whnf); refine ix slB_ (by omega) (by omega) ?_
      (conv => whnf); refine VC.stN (cs := bitsL x) (by rw [show (bitsL x).length = 256 from bitsTo_len _ _]; rfl) hblk5 (by rw [Nat.zero_add, Int.toNat_natCast, show (bitsL x).length = 256 from bitsTo_len _ _]; exact hlen5) (bits_ones x 256) ?_
      intro H6 hb6 ha6 hs6
      rw [Nat.zero_add, Int.toNat_natCast] at hb6
      have hown6 := hput5 H6 (bitsL x) x hb6 (fun j hj => hj.elim) rfl
      rw [fill_set hx] at hown6
      (conv => whnf); rw [w64 (x := (k : Int) + 1) (by omega) (by omega)]
      exact ⟨rfl, k + 1, by simp, ⟨by omega, (ha3.trans (ha4.mono fun j hj => by unfold Old; omega)).trans (ha6.mono fun j hj => hj.2), by omega, hown6⟩, by omega⟩
    · obtain rfl : k = cells.length := by omega
      rw [fill_end] at hown
      (conv => whnf)
      exact ⟨((ha1.mono fun j hj => by unfold Old at hj; omega).trans (ha2.mono fun j hj => by unfold Old at hj; omega)).trans (ha3.mono fun j hj => by unfold Old at hj; omega), by omega, nb, rfl, by omega, hown⟩

theorem rowOk_bad {n m : Nat} {row : List Int} {c : Nat} {t : Int} (h : row[c]? = some t) (ht : t < 0 ∨ (n : Int) ≤ t) : rowOk n m row = false := by
  cases hr : rowOk n m row with
  | false => rfl
  | true =>
    unfold rowOk at hr
    simp only [Bool.and_eq_true, List.all_eq_true, decide_eq_true_eq] at hr
    have := hr.2 t (List.mem_of_getElem? h)
    omega
set_option maxHeartbeats 4000000 in
theorem refsound_p (ca na fa : Option Addr) (cc nc fl fc : Nat) (cells : List (BitVec 256)) (next : List (List Int)) (S : Nat → Prop) (H : Heap) (hS : ∀ k, S k → k < H.size) (hc : SlD tB S H ca cc cells) (hn : SlD tRows S H na nc next) (hcn : cells.length ≤ 4194304) (hnn : next.length ≤ 4194304) (hfn : fl ≤ 4194304) :
    Pure Try.prog 57 #[.slice ca cells.length cc, .slice na next.length nc, .slice fa fl fc] H (.bool (soundB cells next fl)) := by
  have no : ∀ {p : Prop}, (soundB cells next fl = true → False) → soundB cells next fl = false := fun h => by
    cases hs : soundB cells next fl with
    | false => rfl
    | true => exact (h hs).elim
  refine FnOk.of_vc Try.func57 rfl (Try.call57 _) ?_
  by_cases e1 : next.length < 1
  · have d1 : decide ((next.length : Int) < 1) = true := decide_eq_true (by omega)
    (conv => whnf); rw [d1]
    (conv => whnf)
    exact ⟨by rw [no (p := True) fun h => by have := (soundB_iff.1 h).1; omega], Agr.refl _ _⟩
  have d1 : decide ((next.length : Int) < 1) = false := decide_eq_false (by omega)
  by_cases e2 : 65536 < next.length
  · have d2 : decide ((65536 : Int) < (next.length : Int)) = true := decide_eq_true (by omega)
    (conv => whnf); rw [d1]
    (conv => whnf); rw [d2]
    (conv => whnf)
    exact ⟨by rw [no (p := True) fun h => by have := (soundB_iff.1 h).1; omega], Agr.refl _ _⟩
  have d2 : decide ((65536 : Int) < (next.length : Int)) = false := decide_eq_false (by omega)
  by_cases e3 : next.length = fl
  · subst e3
    have d3 : ((next.length : Int) != (next.length : Int)) = false := by simp
    (conv => whnf); rw [d1]
    (conv => whnf); rw [d2]
    (conv => whnf); rw [d3]
    (conv => whnf)
    refine VLoop.mk [7] (fun b : Nat => [.int .i64 b]) (fun b H2 => b ≤ 256 ∧ H2 = H ∧ ∀ i, i < b → cnt cells i = 1) (fun b _ => 256 - b) ?_ ?_
    · (conv => whnf); exact ⟨0, rfl, by omega, rfl, fun i hi => by omega⟩
    · rintro b H2 junk ⟨hb, rfl, hcnt⟩
      (conv => whnf); refine VIte.mk (fun h => ?_) (fun h => ?_) <;> simp only [decide_eq_true_eq, decide_eq_false_iff_not] at h
      · (conv => whnf)
        refine VLoop.mk [8, 9] (fun c : Nat => [.int .i64 (cntTo cells c b : Nat), .int .i64 c]) (fun c H3 => c ≤ cells.length ∧ H3 = H2) (fun c _ => cells.length - c) ?_ ?_
        · (conv => whnf); exact ⟨0, by simp [cntTo], by omega, rfl⟩
        · rintro c H3 junk3 ⟨hcl, rfl⟩
          have hle := cntTo_le cells c b
          (conv => whnf); refine VIte.mk (fun h => ?_) (fun h => ?_) <;> simp only [decide_eq_true_eq, decide_eq_false_iff_not] at h
          · obtain ⟨x, hx⟩ := get_some (l := cells) (k := c) (by omega)
            (conv => whnf); refine VSeq.run ?_
            (conv => whnf); refine ixr slB_ hc hx rfl ?_
            rintro b4 o4 cs4 hSb4 hcells4 rfl
            (conv => whnf); refine ixa ar98 (by omega) (by omega) ?_
            (conv => whnf); refine ld1 (v := .bool (x.getLsbD b)) ct4 (by rw [show o4 + ((b : Nat) : Int).toNat * 1 = o4 + b by omega]; exact hcells4 b _ (bitsL_get x (by omega))) trivial ?_
            have hsucc := cntTo_succ (b := b) hx
            unfold ind at hsucc
            (conv => whnf); refine VIte.mk (fun hbit => ?_) (fun hbit => ?_)
            · rw [hbit, if_pos rfl] at hsucc
              (conv => whnf); rw [w64 (x := (cntTo cells c b : Int) + 1) (by omega) (by omega), w64 (x := (c : Int) + 1) (by omega) (by omega)]
              exact ⟨rfl, c + 1, by rw [hsucc]; simp, ⟨by omega, rfl⟩, by omega⟩
            · rw [hbit] at hsucc
              simp only [Bool.false_eq_true, if_false, Nat.add_zero] at hsucc
              (conv => whnf); rw [w64 (x := (c : Int) + 1) (by omega) (by omega)]
              exact ⟨rfl, c + 1, by rw [hsucc]; simp, ⟨by omega, rfl⟩, by omega⟩
          · obtain rfl : c = cells.length := by omega
            rw [cntTo_all] at *
            (conv => whnf); refine VIte.mk (fun h1 => ?_) (fun h1 => ?_)
            · (conv => whnf)
              have h1' : cnt cells b ≠ 1 := fun h => by rw [h] at h1; simp at h1
              exact ⟨by rw [no (p := True) fun h => h1' ((soundB_iff.1 h).2.1 b (by omega))], Agr.refl _ _⟩
            · have h1' : cnt cells b = 1 := by
                have : ((cnt cells b : Nat) : Int) = 1 := by simpa using h1
                omega
              (conv => whnf); rw [w64 (x := (b : Int) + 1) (by omega) (by omega)]
              refine ⟨rfl, b + 1, by simp, ⟨by omega, rfl, fun i hi => ?_⟩, by omega⟩
              by_cases hib : i = b
              · subst hib; exact h1'
              · exact hcnt i (by omega)
      · obtain rfl : b = 256 := by omega
        (conv => whnf)
        refine VLoop.mk [10] (fun q : Nat => [.int .i64 q]) (fun q H3 => q ≤ next.length ∧ H3 = H2 ∧ ∀ (i : Nat) row, i < q → next[i]? = some row → rowOk next.length cells.length row = true) (fun q _ => next.length - q) ?_ ?_
        · (conv => whnf); exact ⟨0, rfl, by omega, rfl, fun i row hi => by omega⟩
        · rintro q H3 junk3 ⟨hq, rfl, hrows⟩
          (conv => whnf); refine VIte.mk (fun h => ?_) (fun h => ?_) <;> simp only [decide_eq_true_eq, decide_eq_false_iff_not] at h
          · obtain ⟨row, hrow⟩ := get_some (l := next) (k := q) (by omega)
            (conv => whnf); refine ixr sl23 hn hrow rfl ?_
            rintro b4 o4 cs4 hSb4 hcells4 ⟨ra, rc, rfl, hr⟩
            (conv => whnf); refine ld1 ct35 hcells4.one trivial ?_
            (conv => whnf); refine VIte.mk (fun h1 => ?_) (fun h1 => ?_)
            · (conv => whnf)
              have h1' : row.length ≠ cells.length := fun h => by rw [h] at h1; simp at h1
              exact ⟨by rw [no (p := True) fun h => h1' (by have := (soundB_iff.1 h).2.2 row (List.mem_of_getElem? hrow); simp only [rowOk, Bool.and_eq_true, beq_iff_eq] at this; exact this.1)], Agr.refl _ _⟩
            · have h1' : row.length = cells.length := by
                have : (row.length : Int) = (cells.length : Int) := by simpa using h1
                omega
              (conv => whnf)
              refine VLoop.mk [11] (fun c : Nat => [.int .i64 c]) (fun c H4 => c ≤ cells.length ∧ H4 = H3 ∧ ∀ (i : Nat) t, i < c → row[i]? = some t → 0 ≤ t ∧ t < (next.length : Int)) (fun c _ => cells.length - c) ?_ ?_
              · (conv => whnf); exact ⟨0, rfl, by omega, rfl, fun i t hi => by omega⟩
              · rintro c H4 junk4 ⟨hcl, rfl, hts⟩
                (conv => whnf); refine VIte.mk (fun h => ?_) (fun h => ?_) <;> simp only [decide_eq_true_eq, decide_eq_false_iff_not] at h
                · obtain ⟨t, ht⟩ := get_some (l := row) (k := c) (by omega)
                  (conv => whnf); refine ixr sl23 hn hrow rfl ?_
                  rintro b5 o5 cs5 hSb5 hcells5 ⟨ra5, rc5, rfl, hr5⟩
                  (conv => whnf); refine ld1 ct35 hcells5.one trivial ?_
                  (conv => whnf); refine ixr sl35 hr5 ht rfl ?_
                  rintro b6 o6 cs6 hSb6 hcells6 ⟨rfl, -⟩
                  (conv => whnf); refine ld1 ct3 hcells6.one trivial ?_
                  by_cases hneg : t < 0
                  · have d4 : decide (t < 0) = true := decide_eq_true hneg
                    (conv => whnf); rw [d4]
                    (conv => whnf)
                    exact ⟨by rw [no (p := True) fun h => by have := (soundB_iff.1 h).2.2 row (List.mem_of_getElem? hrow); rw [rowOk_bad ht (.inl hneg)] at this; cases this], Agr.refl _ _⟩
                  · have d4 : decide (t < 0) = false := decide_eq_false hneg
                    (conv => whnf); rw [d4]
                    (conv => whnf); refine ixr sl23 hn hrow rfl ?_
                    rintro b7 o7 cs7 hSb7 hcells7 ⟨ra7, rc7, rfl, hr7⟩
                    (conv => whnf); refine ld1 ct35 hcells7.one trivial ?_
                    (conv => whnf); refine ixr sl35 hr7 ht rfl ?_
                    rintro b8 o8 cs8 hSb8 hcells8 ⟨rfl, -⟩
                    (conv => whnf); refine ld1 ct3 hcells8.one trivial ?_
                    (conv => whnf); refine VIte.mk (fun h2 => ?_) (fun h2 => ?_) <;> simp only [decide_eq_true_eq, decide_eq_false_iff_not] at h2
                    · (conv => whnf)
                      exact ⟨by rw [no (p := True) fun h => by have := (soundB_iff.1 h).2.2 row (List.mem_of_getElem? hrow); rw [rowOk_bad ht (.inr h2)] at this; cases this], Agr.refl _ _⟩
                    · (conv => whnf); rw [w64 (x := (c : Int) + 1) (by omega) (by omega)]
                      refine ⟨rfl, c + 1, by simp, ⟨by omega, rfl, fun i t' hi ht' => ?_⟩, by omega⟩
                      by_cases hic : i = c
                      · subst hic; rw [ht] at ht'; cases ht'; omega
                      · exact hts i t' (by omega) ht'
                · obtain rfl : c = cells.length := by omega
                  (conv => whnf); rw [w64 (x := (q : Int) + 1) (by omega) (by omega)]
                  refine ⟨rfl, q + 1, by simp, ⟨by omega, rfl, fun i row' hi hrow' => ?_⟩, by omega⟩
                  by_cases hiq : i = q
                  · subst hiq
                    rw [hrow] at hrow'; cases hrow'
                    simp only [rowOk, Bool.and_eq_true, beq_iff_eq, List.all_eq_true, decide_eq_true_eq]
                    refine ⟨h1', fun t ht => ?_⟩
                    obtain ⟨j, hj⟩ := List.getElem?_of_mem ht
                    exact hts j t (by have := (List.getElem?_eq_some_iff.1 hj).1; omega) hj
                  · exact hrows i row' (by omega) hrow'
          · obtain rfl : q = next.length := by omega
            (conv => whnf)
            refine ⟨?_, Agr.refl _ _⟩
            rw [soundB_iff.2 ⟨⟨by omega, by omega, rfl⟩, fun b hb => hcnt b hb, fun row hrow => ?_⟩]
            obtain ⟨j, hj⟩ := List.getElem?_of_mem hrow
            exact hrows j row (List.getElem?_eq_some_iff.1 hj).1 hj
  · have d3 : ((next.length : Int) != (fl : Int)) = true := by simp; omega
    (conv => whnf); rw [d1]
    (conv => whnf); rw [d2]
    (conv => whnf); rw [d3]
    (conv => whnf)
    exact ⟨by rw [no (p := True) fun h => by have := (soundB_iff.1 h).1; omega], Agr.refl _ _⟩

end Go.Proofs.Ytpnnedkpbmilkaa
