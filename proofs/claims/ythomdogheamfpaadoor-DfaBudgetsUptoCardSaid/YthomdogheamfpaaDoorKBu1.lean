/- The law DfaBudgets returns true for every net and every integer, where what it reads is of bulk at most 1048576, and changes nothing: no other condition. -/
import Derived.Test.YthomdogheamfpaaDoorKS8
import Derived.Test.YthomdogheamfpaaDoorCards
import Derived.Test.YthomdogheamfpaaDoorTie
import Derived.Deep.DeepHandedRow
/- The law DfaBudgets: its walk. -/
set_option linter.unusedVariables false
set_option linter.unusedSimpArgs false
set_option maxRecDepth 100000
namespace Go.Proofs.YthomdogheamfpaaDoor
open Go.VC
attribute [local irreducible] mRun gRun atRun
theorem detB_more {a : NfM} {F : List (List Int)} {m : Nat} (h : detB a 4096 = .ok F) (h1 : F.length ≤ m) (h2 : m ≤ 4096) : detB a (m : Int) = .ok F := by
  obtain ⟨k, hk0, hk1, hk2, hdet⟩ := detB_ok h
  obtain ⟨hF1, -⟩ := detN_len hk1 hdet
  rw [detB_in (by omega) h2]
  have : detN a m = some F := detW_most hk1 hdet h1
  rw [this]
theorem detB_less {a : NfM} {F : List (List Int)} {m : Nat} (h : detB a 4096 = .ok F) (h1 : m < F.length) (h2 : 1 ≤ m) : detB a (m : Int) = .error 40 := by
  obtain ⟨k, hk0, hk1, hk2, hdet⟩ := detB_ok h
  obtain ⟨hF1, hF2, -⟩ := detN_len hk1 hdet
  rw [detB_in h2 (by omega)]
  have : detN a m = none := detW_few hk1 h2 hdet h1
  rw [this]
set_option maxHeartbeats 32000000 in
theorem dfaBudgets_p (v : Value) (a : NfM) (more : Int) (S : Nat → Prop) (H : Heap) (hS : ∀ k, S k → k < H.size) (h : NfV S H v a) (hpow : PowH Tryd.prog H) :
    Pure Tryd.prog 10 #[v, .int .i64 more] H (.bool true) := by
  have hr := h.1
  have hl := h.2.1
  refine FnOk.of_vc Tryd.func10 rfl (Tryd.call10 _) ?_
  (conv => whnf); refine nf_box h fun ea ec he h1 => ?_
  subst he
  intro p H1 hp hs1 hb1 ha1
  have st1 := (St.nil H).box hp hs1 hb1 ha1
  (conv => whnf); refine pures (speaks_p H1) fun H2 ha2 => ?_
  have st2 := st1.call ha2
  (conv => whnf); refine nf_load hr hl (st2.blk 0 rfl) ag55 trivial (h1.frame (st2.old.mono hS)) fun v2 hv2 => ?_
  (conv => whnf); refine VCall.mk (machine05_c (fun k hk => st2.up (hS k hk)) hv2) ?_
  rintro _ H3 ⟨ha3, a3, c3, rfl, hw3⟩
  obtain ⟨a3', c3', e3, st3⟩ := st2.got ha3 hw3
  injection e3 with e31 e32 e33
  subst e31; subst e33
  (conv => whnf); refine valloc _ [.int .i64 0, .int .i64 0, .int .i64 0, .slice none 0 0] nfa_z rfl ?_
  intro q H4 hq hs4 hb4 ha4
  have st4 := st3.box hq hs4 hb4 ha4
  (conv => whnf); refine stNB (cs := nfL a (.slice a3 a.edges.length c3)) st4 2 rfl rfl (Nat.le_refl _) rfl fun H5 st5 => ?_
  rw [splice_all (show (nfL a (.slice a3 a.edges.length c3)).length = 4 from rfl)] at st5
  (conv => whnf); refine nf_load hr hl (st5.blk 2 rfl) ag58 trivial (st5.view 1 rfl) fun v6 hv6 => ?_
  (conv => whnf); refine VCall.mk (detP_c (b := 4096) (S := Old H5) (fun k hk => hk) hv6 (hpow.agr st5.old)) ?_
  rintro r6 H6 ⟨ha6, hr6⟩
  have st6 := st5.call ha6
  cases hd : detB a 4096 with
  | error e =>
    rw [hd] at hr6
    simp only at hr6
    subst hr6
    have hee := detB_err hd
    have d1 : (e != 0) = true := by simpa using hee.1
    (conv => whnf); rw [d1]
    (conv => whnf); refine nf_load hr hl (st6.blk 0 rfl) ag55 trivial (h1.frame (st6.old.mono hS)) fun v7 hv7 => ?_
    (conv => whnf); refine VCall.mk (doc05_c (fun k hk => st6.up (hS k hk)) hv7) ?_
    rintro _ H7 ⟨ha7, a7, c7, rfl, hw7⟩
    obtain ⟨a7', c7', e7, st7⟩ := st6.got ha7 hw7
    injection e7 with e71 e72 e73
    subst e71; subst e73
    (conv => whnf); refine VCall.mk (detQ_c (b := 4096) (S := Old H7) (fun k hk => hk) ⟨hr, hl, a7, c7, rfl, st7.view 3 rfl⟩) ?_
    rintro r8 H8 ⟨ha8, l, hl8, ho8, hr8⟩
    rw [hd] at hr8
    simp only at hr8
    subst hr8
    have st8 := st7.call ha8
    (conv => whnf); refine valloc _ zD rfl (by kernel_rfl) ?_
    intro p9 H9 hp9 hs9 hb9 ha9
    have st9 := st8.box hp9 hs9 hb9 ha9
    (conv => whnf); refine stNB (cs := l) st9 4 (by rw [hl8]; rfl) rfl (by rw [hl8]; decide) ho8 fun H10 st10 => ?_
    (conv => whnf); refine peqN ptrA ?_
    have d2 : (e == e) = true := by simp
    (conv => whnf); rw [d2]
    (conv => whnf)
    exact ⟨rfl, st10.old⟩
  | ok F =>
    rw [hd] at hr6
    obtain ⟨vA, rfl, oA, hvA, hLA, hnA⟩ := hr6
    obtain ⟨m, hm0, hm1, hm2, hdet⟩ := detB_ok hd
    obtain rfl : m = 4096 := by omega
    obtain ⟨hF1, hF2, hFn, hF0⟩ := detN_len hm1 hdet
    have sA : ∀ {H' : Heap}, Agr (Old H6) H6 H' → AutoV (Old H') H' vA (some oA) := fun h => (hvA.frame (h.mono fun k hk => hk.2)).mono fun k hk => old_lt h hk.2
    (conv => whnf); refine pures (states_p (sA (Agr.refl _ _))) fun H7 ha7 => ?_
    have st7 := st6.call ha7
    rw [hnA]
    have d3 : decide ((F.length : Int) < 1) = false := decide_eq_false (by omega)
    have d4 : decide ((4096 : Int) < (F.length : Int)) = false := decide_eq_false (by omega)
    (conv => whnf); rw [d3]
    (conv => whnf); rw [d4]
    (conv => whnf); refine nf_load hr hl (st7.blk 2 rfl) ag58 trivial (st7.view 1 rfl) fun v8 hv8 => ?_
    (conv => whnf); refine VCall.mk (detP_c (b := (F.length : Int)) (S := Old H7) (fun k hk => hk) hv8 (hpow.agr st7.old)) ?_
    rintro r8 H8 ⟨ha8, hr8⟩
    rw [detB_more hd (Nat.le_refl _) hF2] at hr8
    obtain ⟨vL, rfl, oL, hvL, hLL, hnL⟩ := hr8
    have st8 := st7.call ha8
    have sL : ∀ {H' : Heap}, Agr (Old H8) H8 H' → AutoV (Old H') H' vL (some oL) := fun h => (hvL.frame (h.mono fun k hk => hk.2)).mono fun k hk => old_lt h hk.2
    (conv => whnf); refine nf_load hr hl (st8.blk 2 rfl) ag58 trivial (st8.view 1 rfl) fun v9 hv9 => ?_
    (conv => whnf); rw [w64 (x := (F.length : Int) - 1) (by omega) (by omega)]
    (conv => whnf); refine VCall.mk (detP_c (b := (F.length : Int) - 1) (S := Old H8) (fun k hk => hk) hv9 (hpow.agr st8.old)) ?_
    rintro r9 H9 ⟨ha9, hr9⟩
    have st9 := st8.call ha9
    obtain ⟨e9, he9, hr9⟩ : ∃ e9 : Int, ((F.length = 1 ∧ e9 = 2) ∨ (1 < F.length ∧ e9 = 40)) ∧ r9 = .tuple #[.pointer none, .int .i64 e9] := by
      by_cases h1 : F.length = 1
      · rw [detB_bad (by omega)] at hr9
        exact ⟨2, .inl ⟨h1, rfl⟩, hr9⟩
      · have e0 : (F.length : Int) - 1 = ((F.length - 1 : Nat) : Int) := by omega
        rw [e0, detB_less hd (by omega) (by omega)] at hr9
        exact ⟨40, .inr ⟨by omega, rfl⟩, hr9⟩
    subst hr9
    rcases he9 with ⟨h1, rfl⟩ | ⟨h1, rfl⟩
    · have d5 : decide ((1 : Int) < (F.length : Int)) = false := decide_eq_false (by omega)
      have d6 : ((F.length : Int) == 1) = true := by rw [h1]; rfl
      (conv => whnf); refine pneqN ptrA ?_
      (conv => whnf); rw [d5]
      (conv => whnf); rw [d6]
      (conv => whnf)
      refine VSeq.cut (α := Nat) [1] (fun m => [.int .i64 (m : Int)]) (fun m H' => F.length ≤ m ∧ m ≤ 4096 ∧ Agr (Old H9) H9 H') ?_ ?_
      · by_cases c1 : more < (F.length : Int)
        · have d7 : decide (more < (F.length : Int)) = true := decide_eq_true c1
          (conv => whnf); rw [d7]
          (conv => whnf)
          exact ⟨rfl, F.length, rfl, Nat.le_refl _, hF2, Agr.refl _ _⟩
        · have d7 : decide (more < (F.length : Int)) = false := decide_eq_false c1
          (conv => whnf); rw [d7]
          by_cases c2 : (4096 : Int) < more
          · have d8 : decide ((4096 : Int) < more) = true := decide_eq_true c2
            (conv => whnf); rw [d8]
            (conv => whnf)
            exact ⟨rfl, F.length, rfl, Nat.le_refl _, hF2, Agr.refl _ _⟩
          · have d8 : decide ((4096 : Int) < more) = false := decide_eq_false c2
            (conv => whnf); rw [d8]
            (conv => whnf)
            obtain ⟨m, rfl⟩ := Int.eq_ofNat_of_zero_le (show 0 ≤ more by omega)
            exact ⟨rfl, m, rfl, by omega, by omega, Agr.refl _ _⟩
      · rintro m H10 junk10 ⟨hmF, hm4, ha10⟩
        have st10 := st9.call ha10
        (conv => whnf); refine nf_load hr hl (st10.blk 2 rfl) ag58 trivial (st10.view 1 rfl) fun v11 hv11 => ?_
        (conv => whnf); refine VCall.mk (detP_c (b := (m : Int)) (S := Old H10) (fun k hk => hk) hv11 (hpow.agr st10.old)) ?_
        rintro r11 H11 ⟨ha11, hr11⟩
        rw [detB_more hd hmF hm4] at hr11
        obtain ⟨vO, rfl, oO, hvO, hLO, hnO⟩ := hr11
        have st11 := st10.call ha11
        have sO : ∀ {H' : Heap}, Agr (Old H11) H11 H' → AutoV (Old H') H' vO (some oO) := fun h => (hvO.frame (h.mono fun k hk => hk.2)).mono fun k hk => old_lt h hk.2
        have g811 : Agr (Old H8) H8 H11 := (ha9.trans (ha10.mono fun k hk => old_lt ha9 hk)).trans (ha11.mono fun k hk => old_lt ha10 (old_lt ha9 hk))
        have g611 : Agr (Old H6) H6 H11 := (ha7.trans (ha8.mono fun k hk => old_lt ha7 hk)).trans (g811.mono fun k hk => old_lt ha8 (old_lt ha7 hk))
        have tL : ∀ {H' : Heap}, Agr (Old H11) H11 H' → AutoV (Old H') H' vL (some oL) := fun h => sL (g811.trans (h.mono fun k hk => old_lt g811 hk))
        have tA : ∀ {H' : Heap}, Agr (Old H11) H11 H' → AutoV (Old H') H' vA (some oA) := fun h => sA (g611.trans (h.mono fun k hk => old_lt g611 hk))
        have tr : ∀ {G H' : Heap}, Agr (Old H11) H11 G → Agr (Old G) G H' → Agr (Old H11) H11 H' := fun h k => h.trans (k.mono fun j hj => old_lt h hj)
        have d9 : ((F.length : Int) != (F.length : Int)) = false := by simp
        (conv => whnf); refine pures (states_p (sO (Agr.refl _ _))) fun H12 ha12 => ?_
        rw [hnO]
        (conv => whnf); rw [d9]
        (conv => whnf); refine pures (states_p (tL ha12)) fun H13 ha13 => ?_
        have ha013 := tr ha12 ha13
        rw [hnL]
        (conv => whnf); rw [d9]
        (conv => whnf)
        refine VLoop.mk [17] (fun q : Nat => [.int .i64 (q : Int)]) (fun q H' => q ≤ F.length ∧ Agr (Old H11) H11 H') (fun q _ => F.length - q) ?_ ?_
        · (conv => whnf)
          exact ⟨0, rfl, Nat.zero_le _, ha013⟩
        · rintro q2 H14 junk14 ⟨hq2, ha14⟩
          (conv => whnf); refine VIte.mk (fun hz => ?_) (fun hz => ?_) <;> simp only [decide_eq_true_eq, decide_eq_false_iff_not] at hz
          · have hqF : q2 < F.length := by omega
            (conv => whnf)
            refine VLoop.mk [18] (fun b : Nat => [.int .i64 (b : Int)]) (fun b H' => b ≤ 256 ∧ Agr (Old H11) H11 H') (fun b _ => 256 - b) ?_ ?_
            · (conv => whnf)
              exact ⟨0, rfl, by decide, ha14⟩
            · rintro b H15 junk15 ⟨hb, ha15⟩
              (conv => whnf); refine VIte.mk (fun hz2 => ?_) (fun hz2 => ?_) <;> simp only [decide_eq_true_eq, decide_eq_false_iff_not] at hz2
              · have hb8 : b < 256 := by omega
                have e1 := leads_uniq hFn hLO hLA q2 b hqF hb8
                have e2 := leads_uniq hFn hLL hLA q2 b hqF hb8
                have d10 : (stepM (some oA) (q2 : Int) b != stepM (some oA) (q2 : Int) b) = false := by simp
                (conv => whnf); rw [w8 (x := (b : Int)) (by omega) (by omega)]
                (conv => whnf); refine pures (step_p (fun k hk => hk) (sO ha15) hb8) fun H16 ha16 => ?_
                have ha016 := tr ha15 ha16
                (conv => whnf); rw [w8 (x := (b : Int)) (by omega) (by omega)]
                (conv => whnf); refine pures (step_p (fun k hk => hk) (tA ha016) hb8) fun H17 ha17 => ?_
                have ha017 := tr ha016 ha17
                rw [e1]
                (conv => whnf); rw [d10]
                (conv => whnf); rw [w8 (x := (b : Int)) (by omega) (by omega)]
                (conv => whnf); refine pures (step_p (fun k hk => hk) (tL ha017) hb8) fun H18 ha18 => ?_
                have ha018 := tr ha017 ha18
                (conv => whnf); rw [w8 (x := (b : Int)) (by omega) (by omega)]
                (conv => whnf); refine pures (step_p (fun k hk => hk) (tA ha018) hb8) fun H19 ha19 => ?_
                have ha019 := tr ha018 ha19
                rw [e2]
                (conv => whnf); rw [d10]
                (conv => whnf); rw [w64 (x := (b : Int) + 1) (by omega) (by omega)]
                exact ⟨rfl, b + 1, by simp, ⟨by omega, ha019⟩, by omega⟩
              · have e1 := leads_fin hLO hLA q2 hqF
                have e2 := leads_fin hLL hLA q2 hqF
                have d11 : (!(finM (some oA) (q2 : Int) == finM (some oA) (q2 : Int))) = false := by simp
                (conv => whnf); refine pures (final_p (sO ha15)) fun H16 ha16 => ?_
                have ha016 := tr ha15 ha16
                (conv => whnf); refine pures (final_p (tA ha016)) fun H17 ha17 => ?_
                have ha017 := tr ha016 ha17
                rw [e1]
                (conv => whnf); refine bneq_b Tryd.underlying4 ?_
                (conv => whnf); rw [d11]
                (conv => whnf); refine pures (final_p (tL ha017)) fun H18 ha18 => ?_
                have ha018 := tr ha017 ha18
                (conv => whnf); refine pures (final_p (tA ha018)) fun H19 ha19 => ?_
                have ha019 := tr ha018 ha19
                rw [e2]
                (conv => whnf); refine bneq_b Tryd.underlying4 ?_
                (conv => whnf); rw [d11]
                (conv => whnf); rw [w64 (x := (q2 : Int) + 1) (by omega) (by omega)]
                exact ⟨rfl, q2 + 1, by simp, ⟨by omega, ha019⟩, by omega⟩
          · (conv => whnf)
            exact ⟨rfl, st11.old.trans (ha14.mono fun k hk => st11.up hk)⟩
    · have d5 : decide ((1 : Int) < (F.length : Int)) = true := decide_eq_true (by omega)
      have d6 : ((F.length : Int) == 1) = false := beq_eq_false_iff_ne.2 (by omega)
      (conv => whnf); refine pneqN ptrA ?_
      (conv => whnf); rw [d5]
      (conv => whnf); rw [d6]
      (conv => whnf)
      refine VSeq.cut (α := Nat) [1] (fun m => [.int .i64 (m : Int)]) (fun m H' => F.length ≤ m ∧ m ≤ 4096 ∧ Agr (Old H9) H9 H') ?_ ?_
      · by_cases c1 : more < (F.length : Int)
        · have d7 : decide (more < (F.length : Int)) = true := decide_eq_true c1
          (conv => whnf); rw [d7]
          (conv => whnf)
          exact ⟨rfl, F.length, rfl, Nat.le_refl _, hF2, Agr.refl _ _⟩
        · have d7 : decide (more < (F.length : Int)) = false := decide_eq_false c1
          (conv => whnf); rw [d7]
          by_cases c2 : (4096 : Int) < more
          · have d8 : decide ((4096 : Int) < more) = true := decide_eq_true c2
            (conv => whnf); rw [d8]
            (conv => whnf)
            exact ⟨rfl, F.length, rfl, Nat.le_refl _, hF2, Agr.refl _ _⟩
          · have d8 : decide ((4096 : Int) < more) = false := decide_eq_false c2
            (conv => whnf); rw [d8]
            (conv => whnf)
            obtain ⟨m, rfl⟩ := Int.eq_ofNat_of_zero_le (show 0 ≤ more by omega)
            exact ⟨rfl, m, rfl, by omega, by omega, Agr.refl _ _⟩
      · rintro m H10 junk10 ⟨hmF, hm4, ha10⟩
        have st10 := st9.call ha10
        (conv => whnf); refine nf_load hr hl (st10.blk 2 rfl) ag58 trivial (st10.view 1 rfl) fun v11 hv11 => ?_
        (conv => whnf); refine VCall.mk (detP_c (b := (m : Int)) (S := Old H10) (fun k hk => hk) hv11 (hpow.agr st10.old)) ?_
        rintro r11 H11 ⟨ha11, hr11⟩
        rw [detB_more hd hmF hm4] at hr11
        obtain ⟨vO, rfl, oO, hvO, hLO, hnO⟩ := hr11
        have st11 := st10.call ha11
        have sO : ∀ {H' : Heap}, Agr (Old H11) H11 H' → AutoV (Old H') H' vO (some oO) := fun h => (hvO.frame (h.mono fun k hk => hk.2)).mono fun k hk => old_lt h hk.2
        have g811 : Agr (Old H8) H8 H11 := (ha9.trans (ha10.mono fun k hk => old_lt ha9 hk)).trans (ha11.mono fun k hk => old_lt ha10 (old_lt ha9 hk))
        have g611 : Agr (Old H6) H6 H11 := (ha7.trans (ha8.mono fun k hk => old_lt ha7 hk)).trans (g811.mono fun k hk => old_lt ha8 (old_lt ha7 hk))
        have tL : ∀ {H' : Heap}, Agr (Old H11) H11 H' → AutoV (Old H') H' vL (some oL) := fun h => sL (g811.trans (h.mono fun k hk => old_lt g811 hk))
        have tA : ∀ {H' : Heap}, Agr (Old H11) H11 H' → AutoV (Old H') H' vA (some oA) := fun h => sA (g611.trans (h.mono fun k hk => old_lt g611 hk))
        have tr : ∀ {G H' : Heap}, Agr (Old H11) H11 G → Agr (Old G) G H' → Agr (Old H11) H11 H' := fun h k => h.trans (k.mono fun j hj => old_lt h hj)
        have d9 : ((F.length : Int) != (F.length : Int)) = false := by simp
        (conv => whnf); refine pures (states_p (sO (Agr.refl _ _))) fun H12 ha12 => ?_
        rw [hnO]
        (conv => whnf); rw [d9]
        (conv => whnf); refine pures (states_p (tL ha12)) fun H13 ha13 => ?_
        have ha013 := tr ha12 ha13
        rw [hnL]
        (conv => whnf); rw [d9]
        (conv => whnf)
        refine VLoop.mk [17] (fun q : Nat => [.int .i64 (q : Int)]) (fun q H' => q ≤ F.length ∧ Agr (Old H11) H11 H') (fun q _ => F.length - q) ?_ ?_
        · (conv => whnf)
          exact ⟨0, rfl, Nat.zero_le _, ha013⟩
        · rintro q2 H14 junk14 ⟨hq2, ha14⟩
          (conv => whnf); refine VIte.mk (fun hz => ?_) (fun hz => ?_) <;> simp only [decide_eq_true_eq, decide_eq_false_iff_not] at hz
          · have hqF : q2 < F.length := by omega
            (conv => whnf)
            refine VLoop.mk [18] (fun b : Nat => [.int .i64 (b : Int)]) (fun b H' => b ≤ 256 ∧ Agr (Old H11) H11 H') (fun b _ => 256 - b) ?_ ?_
            · (conv => whnf)
              exact ⟨0, rfl, by decide, ha14⟩
            · rintro b H15 junk15 ⟨hb, ha15⟩
              (conv => whnf); refine VIte.mk (fun hz2 => ?_) (fun hz2 => ?_) <;> simp only [decide_eq_true_eq, decide_eq_false_iff_not] at hz2
              · have hb8 : b < 256 := by omega
                have e1 := leads_uniq hFn hLO hLA q2 b hqF hb8
                have e2 := leads_uniq hFn hLL hLA q2 b hqF hb8
                have d10 : (stepM (some oA) (q2 : Int) b != stepM (some oA) (q2 : Int) b) = false := by simp
                (conv => whnf); rw [w8 (x := (b : Int)) (by omega) (by omega)]
                (conv => whnf); refine pures (step_p (fun k hk => hk) (sO ha15) hb8) fun H16 ha16 => ?_
                have ha016 := tr ha15 ha16
                (conv => whnf); rw [w8 (x := (b : Int)) (by omega) (by omega)]
                (conv => whnf); refine pures (step_p (fun k hk => hk) (tA ha016) hb8) fun H17 ha17 => ?_
                have ha017 := tr ha016 ha17
                rw [e1]
                (conv => whnf); rw [d10]
                (conv => whnf); rw [w8 (x := (b : Int)) (by omega) (by omega)]
                (conv => whnf); refine pures (step_p (fun k hk => hk) (tL ha017) hb8) fun H18 ha18 => ?_
                have ha018 := tr ha017 ha18
                (conv => whnf); rw [w8 (x := (b : Int)) (by omega) (by omega)]
                (conv => whnf); refine pures (step_p (fun k hk => hk) (tA ha018) hb8) fun H19 ha19 => ?_
                have ha019 := tr ha018 ha19
                rw [e2]
                (conv => whnf); rw [d10]
                (conv => whnf); rw [w64 (x := (b : Int) + 1) (by omega) (by omega)]
                exact ⟨rfl, b + 1, by simp, ⟨by omega, ha019⟩, by omega⟩
              · have e1 := leads_fin hLO hLA q2 hqF
                have e2 := leads_fin hLL hLA q2 hqF
                have d11 : (!(finM (some oA) (q2 : Int) == finM (some oA) (q2 : Int))) = false := by simp
                (conv => whnf); refine pures (final_p (sO ha15)) fun H16 ha16 => ?_
                have ha016 := tr ha15 ha16
                (conv => whnf); refine pures (final_p (tA ha016)) fun H17 ha17 => ?_
                have ha017 := tr ha016 ha17
                rw [e1]
                (conv => whnf); refine bneq_b Tryd.underlying4 ?_
                (conv => whnf); rw [d11]
                (conv => whnf); refine pures (final_p (tL ha017)) fun H18 ha18 => ?_
                have ha018 := tr ha017 ha18
                (conv => whnf); refine pures (final_p (tA ha018)) fun H19 ha19 => ?_
                have ha019 := tr ha018 ha19
                rw [e2]
                (conv => whnf); refine bneq_b Tryd.underlying4 ?_
                (conv => whnf); rw [d11]
                (conv => whnf); rw [w64 (x := (q2 : Int) + 1) (by omega) (by omega)]
                exact ⟨rfl, q2 + 1, by simp, ⟨by omega, ha019⟩, by omega⟩
          · (conv => whnf)
            exact ⟨rfl, st11.old.trans (ha14.mono fun k hk => st11.up hk)⟩
end Go.Proofs.YthomdogheamfpaaDoor
set_option linter.unusedVariables false
set_option linter.unusedSimpArgs false
namespace Go.Proofs.YthomdogheamfpaaDoor
open Go.ChangeShapes Go.WideShapes Go.ChangeAt Go.RowKit
open Go.ChangeMaps (open_string)
open Go.VC

theorem dfaBudgets_met (os : Os) : laidMet Tryd.prog Rows.dfaBudgetsUptoRow.laid ((laidW os).forCall (fun _ _ => 0) ⟨#[], #[.agg #[.int .i64 0, .int .i64 0, .int .i64 0, .slice none 0 0], .int .i64 0], []⟩).memory :=
  laidMet_of_run' 100 (by kernel_rfl) (by kernel_rfl)
theorem dfaBudgets_reads (os : Os) {H : Type} (enc : TypeId × Value → H) : ∃ places, DataW.whole enc Tryd.prog ((laidW os).forCall (fun _ _ => 0) ⟨#[], #[.agg #[.int .i64 0, .int .i64 0, .int .i64 0, .slice none 0 0], .int .i64 0], []⟩).memory Tryd.f10.params.toList (Rows.OpenSpec.upto Rows.dfaBudgetsSpec).bare.plain.vars false (#[.agg #[.int .i64 0, .int .i64 0, .int .i64 0, .slice none 0 0], .int .i64 0] : Array Value).toList 8 = some ([.agg [.lit (.int .i64 0), .lit (.int .i64 0), .lit (.int .i64 0), .nil], .lit (.int .i64 0)], [], places) :=
  ⟨[], by kernel_rfl⟩
set_option maxRecDepth 100000 in
theorem dfaBudgets_lifted (os : Os) (started : os.Started) (H : Type) (enc : TypeId × Value → H) (F : Stop.Interp) :
    ReturnsInHanded {} Tryd.checked os 10 .any ((Rows.OpenSpec.upto Rows.dfaBudgetsSpec).preRow enc Tryd.prog Tryd.f10 Rows.dfaBudgetsUptoRow.domain false Rows.dfaBudgetsUptoRow.laid) (((Rows.OpenSpec.upto Rows.dfaBudgetsSpec).at F).post enc Tryd.prog Tryd.f10 false true false false) := by
  obtain ⟨places, hx⟩ := dfaBudgets_reads os enc
  refine returnsInHanded_of_row (C := Tryd.checked) (s := Rows.OpenSpec.upto Rows.dfaBudgetsSpec) own_ started (by kernel_rfl) Tryd.func10
    (witness_row_at (enc := enc) (C := Tryd.checked) false (laidW os) #[.agg #[.int .i64 0, .int .i64 0, .int .i64 0, .slice none 0 0], .int .i64 0] rfl (by kernel_rfl) (by kernel_rfl) (by kernel_rfl)
      (OpenSpec.preRow_of_cond 8 hx (by kernel_rfl) (fun k hk => by cases hk; kernel_rfl) (by kernel_rfl) (dfaBudgets_met os))) ?_
  intro W base args ds gs before hval0 hW _ hcond _ hL _ _
  have hk := hcond _ rfl
  have hval : ∀ (j : Nat) t v, Tryd.f10.params[j]? = some t → args[j]? = some v → Value.okWide Tryd.prog W .any base t v := hval0
  have hW' := hW
  obtain ⟨p, q, hA0, hV, rfl, hfz, hnd⟩ := hW
  have hA : DataW.TrodAll enc Tryd.prog W 0 (fun _ => true) true [55, 3] args.toList ds p := hA0
  obtain ⟨v0, vs0, d0, ds0, p0, q0, e0, rfl, rfl, h0, r0⟩ := trodAll_cons hA
  obtain ⟨v1, vs1, d1, ds1, p1, q1, rfl, rfl, rfl, h1, r1⟩ := trodAll_cons r0
  obtain ⟨rfl, rfl, rfl⟩ := trodAll_nil r1
  obtain rfl : args = #[v0, v1] := by cases args; simp_all
  obtain ⟨rfl, rfl⟩ := trodVars_none hV
  have hb := small_of hk
  obtain ⟨n1, rfl, rfl, rfl, wn1⟩ := open_int Tryd.underlying3 (hval 1 3 v1 rfl rfl) h1
  simp only [List.append_nil, Rows.uptoBulkAll, Rows.uptoBulk, Array.length_toList] at hb
  obtain ⟨a0, hnet0, hz0⟩ := open_net5 (hval 0 _ v0 rfl rfl) h0 (by omega)
  refine ((dfaBudgets_p v0 a0 n1 (InW W) W.heap (fun k hk => hk) hnet0 (pow_of_laid hL)) W rfl).2.mono fun e W' ⟨v, he, henv, hv, hag⟩ => ?_
  subst he; subst hv
  exact ⟨_, rfl, post_true hW' rfl ⟨rfl, rfl, rfl⟩ laid_ (by kernel_rfl) rfl Tryd.underlying4 henv hag⟩

theorem dfaBudgets_said : Rows.DfaBudgetsUptoSaid :=
  OpenClaim.holds_of_cond 10 Tryd.f10 rfl rfl rfl rfl rfl rfl rfl ⟨rfl, rfl, rfl, rfl, rfl⟩ rfl rfl rfl rfl rfl (by kernel_rfl) Tryd.func10 (by kernel_rfl)
    (of_decide_eq_true (by kernel_rfl)) (by unfold Func.isWrapper; first | (rw [if_pos (by decide +kernel)]; kernel_rfl) | (rw [if_neg (by decide +kernel)]; exact ⟨rfl, rfl⟩))
    (fun os started H enc _ F => by rw [OpenClaim.pre_eq_preRow]; exact dfaBudgets_lifted os started H enc F)

theorem dfaBudgets_plain (f : FuncId) (fn : Func) (hf : Tryd.pinned.checked.prog.funcNamed "loupe/loupelaw05.DfaBudgets" = some f) (hfn : Tryd.pinned.checked.prog.funcs[f]? = some fn) :
    false = Tryd.pinned.checked.prog.looks [] ∧ ∀ (j : Nat) t, fn.params[j]? = some t → Tryd.pinned.checked.prog.wantsStandIn t = false := by
  obtain rfl : f = 10 := Option.some.inj ((show Tryd.prog.funcNamed "loupe/loupelaw05.DfaBudgets" = some 10 by kernel_rfl).symm.trans hf) |>.symm
  obtain rfl : fn = Tryd.f10 := (Option.some.inj (Tryd.func10.symm.trans hfn)).symm
  refine ⟨by kernel_rfl, fun j t ht => ?_⟩
  have ht : (#[55, 3] : Array TypeId)[j]? = some t := ht
  have hm := Array.mem_of_getElem? ht
  simp only [List.mem_toArray, List.mem_cons, List.not_mem_nil, or_false] at hm
  rcases hm with rfl | rfl
  · exact (show Tryd.prog.wantsStandIn 55 = false by kernel_rfl)
  · exact (show Tryd.prog.wantsStandIn 3 = false by kernel_rfl)
theorem dfaBudgets_holds : Rows.DfaBudgetsUptoCardSaid :=
  Claim7.holds_tied_plain_at .later [] _ _ _ _ dfaBudgets_said (fun _ h => by cases h) (by kernel_rfl) (fun _ h => by cases h) dfaBudgetsUpto_row_tie rfl ⟨rfl, rfl⟩ (by kernel_rfl) rfl dfaBudgets_plain (by kernel_rfl)

#print axioms dfaBudgets_holds
end Go.Proofs.YthomdogheamfpaaDoor
