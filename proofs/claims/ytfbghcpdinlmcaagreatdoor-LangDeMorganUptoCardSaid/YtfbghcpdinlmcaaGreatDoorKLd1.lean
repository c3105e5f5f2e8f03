/- The law LangDeMorgan returns true for every two tables and every number, where what it reads is of bulk at most 1048576, and changes nothing: no other condition. -/
import Derived.Test.YtfbghcpdinlmcaaGreatDoorKL5
import Derived.Test.YtfbghcpdinlmcaaGreatDoorCards
import Derived.Test.YtfbghcpdinlmcaaGreatDoorTie
import Derived.Deep.DeepHandedRow
/- alike of the laws of layer 6; the law LangDeMorgan: the walks. -/
set_option linter.unusedVariables false
set_option linter.unusedSimpArgs false
set_option maxRecDepth 100000
namespace Go.Proofs.YtfbghcpdinlmcaaGreatDoor
open Go.VC Go.Lib
attribute [local irreducible] mRun gRun atRun
set_option maxHeartbeats 8000000 in
theorem alike06_p {S : Nat → Prop} {H : Heap} {v w : Value} {A B : AM} (hS : ∀ k, S k → k < H.size) (hv : AutoV S H v (some A)) (hw : AutoV S H w (some B)) (hn : stN (some A) = stN (some B)) (hst : ∀ q b : Nat, q < stN (some A) → b < 256 → stepM (some A) (q : Int) b = stepM (some B) (q : Int) b) (hfi : ∀ q : Nat, q < stN (some A) → finM (some A) (q : Int) = finM (some B) (q : Int)) :
    Pure Tryz.prog 28 #[v, w] H (.bool true) := by
  have hs := hv.steps
  have hn2 := hs.n2
  obtain ⟨pv, rfl⟩ : ∃ pv, v = .pointer (some pv) := by
    obtain ⟨p, rfl, -⟩ := hv
    exact ⟨_, rfl⟩
  obtain ⟨pw, rfl⟩ : ∃ pw, w = .pointer (some pw) := by
    obtain ⟨p, rfl, -⟩ := hw
    exact ⟨_, rfl⟩
  have hV : ∀ {G : Heap}, Agr (Old H) H G → AutoV S G (.pointer (some pv)) (some A) := fun h => hv.frame (h.mono hS)
  have hW : ∀ {G : Heap}, Agr (Old H) H G → AutoV S G (.pointer (some pw)) (some B) := fun h => hw.frame (h.mono hS)
  have up : ∀ {G : Heap}, Agr (Old H) H G → ∀ k, S k → k < G.size := fun h k hk => old_lt h (hS k hk)
  have tr : ∀ {G G' : Heap}, Agr (Old H) H G → Agr (Old G) G G' → Agr (Old H) H G' := fun h k => h.trans (k.mono fun j hj => old_lt h hj)
  have ag0 : Agr (Old H) H H := Agr.refl _ _
  obtain ⟨n, hnn⟩ : ∃ n, n = stN (some A) := ⟨_, rfl⟩
  refine FnOk.of_vc Tryz.func28 rfl (Tryz.call28 _) ?_
  (conv => whnf); refine peqS Tryz.underlying23 ?_
  (conv => whnf); refine peqS Tryz.underlying23 ?_
  (conv => whnf); refine pures (states_p (hV ag0)) fun H1 ha1 => ?_
  have h1 := tr ag0 ha1
  (conv => whnf); refine pures (states_p (hW h1)) fun H2 ha2 => ?_
  have h2 := tr h1 ha2
  have e0 : ((stN (some A) : Int) != (stN (some B) : Int)) = false := by rw [hn]; simp
  (conv => whnf); rw [e0]
  rw [← hnn] at hst hfi hn2
  (conv => whnf)
  refine VLoop.mk [5] (fun q : Nat => [.int .i64 (q : Int)]) (fun q G => q ≤ n ∧ Agr (Old H) H G) (fun q _ => n - q) ?_ ?_
  · (conv => whnf)
    exact ⟨0, rfl, Nat.zero_le _, h2⟩
  · rintro q G3 junk3 ⟨hq, g3⟩
    (conv => whnf); refine pures (states_p (hV g3)) fun G4 ga4 => ?_
    have g4 := tr g3 ga4
    rw [← hnn]
    (conv => whnf); refine VIte.mk (fun hz => ?_) (fun hz => ?_) <;> simp only [decide_eq_true_eq, decide_eq_false_iff_not] at hz
    · have hq8 : q < n := by omega
      (conv => whnf); refine pures (final_p (q := (q : Int)) (hV g4)) fun G5 ga5 => ?_
      have g5 := tr g4 ga5
      (conv => whnf); refine pures (final_p (q := (q : Int)) (hW g5)) fun G6 ga6 => ?_
      have g6 := tr g5 ga6
      (conv => whnf); refine neqZ Tryz.underlying4 (z := false) (by rw [hfi q hq8]; simp) ?_
      (conv => whnf)
      refine VLoop.mk [6] (fun b : Nat => [.int .i64 (b : Int)]) (fun b G => b ≤ 256 ∧ Agr (Old H) H G) (fun b _ => 256 - b) ?_ ?_
      · (conv => whnf)
        exact ⟨0, rfl, by decide, g6⟩
      · rintro b G7 junk7 ⟨hb, g7⟩
        (conv => whnf); refine VIte.mk (fun hz2 => ?_) (fun hz2 => ?_) <;> simp only [decide_eq_true_eq, decide_eq_false_iff_not] at hz2
        · have hb8 : b < 256 := by omega
          (conv => whnf); rw [w8 (x := (b : Int)) (by omega) (by omega)]
          (conv => whnf); refine pures (step_p (q := (q : Int)) (up g7) (hV g7) hb8) fun G8 ga8 => ?_
          have g8 := tr g7 ga8
          (conv => whnf); rw [w8 (x := (b : Int)) (by omega) (by omega)]
          (conv => whnf); refine pures (step_p (q := (q : Int)) (up g8) (hW g8) hb8) fun G9 ga9 => ?_
          have g9 := tr g8 ga9
          have e1 : (stepM (some A) (q : Int) b != stepM (some B) (q : Int) b) = false := by rw [hst q b hq8 hb8]; simp
          (conv => whnf); rw [e1]
          (conv => whnf); rw [w64 (x := (b : Int) + 1) (by omega) (by omega)]
          exact ⟨rfl, b + 1, by simp, ⟨by omega, g9⟩, by omega⟩
        · (conv => whnf); rw [w64 (x := (q : Int) + 1) (by omega) (by omega)]
          exact ⟨rfl, q + 1, by simp, ⟨by omega, g7⟩, by omega⟩
    · (conv => whnf)
      exact ⟨rfl, g4⟩
theorem prW_in {a b : Option AM} (ha : IsMade a) (hb : IsMade b) {most : Nat} (hm : 1 ≤ most) {F : List (Int × Int)} (h : prW a b most = some F) : F.Nodup ∧ ∀ x ∈ F, inPr a b x := by
  refine ⟨(detW_len hm h).2.2.1, ?_⟩
  unfold prW detW at h
  cases hd : detF most (stepPr a b) (List.range 256) (0, 0) with
  | none => rw [hd] at h; cases h
  | some z =>
    obtain ⟨G, rows⟩ := z
    rw [hd] at h
    simp only [Option.map_some, Option.some.injEq] at h
    subst h
    exact (genRows (genPr ha hb) hm hd).2
theorem prW_like {a b a' b' : Option AM} (ha : IsMade a) (hb : IsMade b) (hst : ∀ (x : Int × Int) (c : Nat), inPr a b x → c < 256 → stepPr a b x c = stepPr a' b' x c) (most : Nat) : prW a' b' most = prW a b most := by
  have hg := genPr ha hb
  have h := detW_map (most := most) (step := stepPr a b) (step' := stepPr a' b') (start := (0, 0)) (f := id) (I := inPr a b) (fun y z _ _ e => e) hg.beg fun x c hx hc => ⟨hg.st x c hx, hst x c hx hc⟩
  unfold prW
  rw [show (id ((0, 0) : Int × Int)) = (0, 0) from rfl] at h
  rw [← h]
  cases detW most (stepPr a b) (0, 0) <;> simp
theorem stepPr_not {a b : Option AM} (ha : IsMade a) (hb : IsMade b) {x : Int × Int} {c : Nat} (hx : inPr a b x) (hc : c < 256) : stepM (some (notA a)) x.1 c = stepM a x.1 c ∧ stepM (some (notA b)) x.2 c = stepM b x.2 c := by
  obtain ⟨-, -, -, h1, -⟩ := not_made ha
  obtain ⟨-, -, -, h2, -⟩ := not_made hb
  obtain ⟨⟨x1, x2⟩, x3, x4⟩ := hx
  obtain ⟨m, hm⟩ := Int.eq_ofNat_of_zero_le x1
  obtain ⟨k, hk⟩ := Int.eq_ofNat_of_zero_le x3
  rw [hm, hk]
  exact ⟨h1 m c (by omega) hc, h2 k c (by omega) hc⟩
theorem fin_not {a b : Option AM} (ha : IsMade a) (hb : IsMade b) {x : Int × Int} (hx : inPr a b x) : finM (some (notA a)) x.1 = (!finM a x.1) ∧ finM (some (notA b)) x.2 = (!finM b x.2) := by
  obtain ⟨-, -, -, -, h1⟩ := not_made ha
  obtain ⟨-, -, -, -, h2⟩ := not_made hb
  obtain ⟨⟨x1, x2⟩, x3, x4⟩ := hx
  obtain ⟨m, hm⟩ := Int.eq_ofNat_of_zero_le x1
  obtain ⟨k, hk⟩ := Int.eq_ofNat_of_zero_le x3
  rw [hm, hk]
  exact ⟨h1 m (by omega), h2 k (by omega)⟩
/-- Two automata of one walk are alike. -/
theorem leadsG_like {K : Type} {step step' : K → Nat → K} {fin fin' : K → Bool} {F : List K} {st st' : Int → Nat → Int} {fi fi' : Int → Bool} (hn : F.Nodup) (h1 : LeadsG step fin F st fi) (h2 : LeadsG step' fin' F st' fi') (hs : ∀ x ∈ F, ∀ b, b < 256 → step x b = step' x b) : ∀ q b : Nat, q < F.length → b < 256 → st (q : Int) b = st' (q : Int) b := fun q b hq hb => by
  obtain ⟨x, hx⟩ := get_some hq
  obtain ⟨t, e1, k1⟩ := h1.st q b x hx hb
  obtain ⟨u, e2, k2⟩ := h2.st q b x hx hb
  rw [← hs x (List.mem_of_getElem? hx) b hb] at k2
  have : t = u := by
    obtain ⟨a1, a2⟩ := List.getElem?_eq_some_iff.1 k1
    obtain ⟨b1, b2⟩ := List.getElem?_eq_some_iff.1 k2
    exact (List.getElem_inj hn).1 (a2.trans b2.symm)
  rw [e1, e2, this]
set_option maxHeartbeats 16000000 in
theorem langDeMorgan_p (v : Value) (cells : List (BitVec 256)) (next : List (List Int)) (final : List Bool) (v' : Value) (cells' : List (BitVec 256)) (next' : List (List Int)) (final' : List Bool) (m : Int) (S : Nat → Prop) (H : Heap) (ht : TabIn S H v cells next final) (hu : TabIn S H v' cells' next' final') (hpow : PowH Tryz.prog H) :
    Pure Tryz.prog 6 #[v, v', .int .i64 m] H (.bool true) := by
  refine FnOk.of_vc Tryz.func6 rfl (Tryz.call6 _) ?_
  (conv => whnf); refine tab_box ht fun l hl hv => ?_
  intro p H1 hp hs1 hb1 ha1
  have st1 := (St.nil H).box hp hs1 hb1 ha1
  (conv => whnf); refine tab_box (hu.frame st1.old) fun l' hl' hv' => ?_
  intro p' H2 hp' hs2 hb2 ha2
  have st2 := st1.box hp' hs2 hb2 ha2
  (conv => whnf); refine pures (speaks06_p (hpow.agr st2.old)) fun H3 ha3 => ?_
  have st3 := st2.call ha3
  (conv => whnf); refine VDraw.held (Old H3) 5 (sq [0,2] (.f 1 (.f 3 (sq [4] (.f 5 .e))))) rfl (by kernel_rfl) ?_
  (conv => whnf); refine tab_load hl hv (st3.blk 0 rfl) (st3.blk 0 rfl).lt ?_
  (conv => whnf); refine tab_load hl' hv' (st3.blk 1 rfl) (st3.blk 1 rfl).lt ?_
  (conv => whnf); refine VCall.mk (auto06_c v cells next final S H3 (ht.frame st3.old)) ?_
  rintro va H4 ⟨ha4, hs4, hva⟩
  have st4 := st3.call ha4
  refine ⟨ha4, ?_⟩
  (conv => whnf); refine VCall.mk (auto06_c v' cells' next' final' S H4 (hu.frame st4.old)) ?_
  rintro vb H5 ⟨ha5, hs5, hvb⟩
  have st5 := st4.call ha5
  have h35 := ha4.trans (ha5.mono fun k hk => old_lt ha4 hk)
  refine ⟨h35, ?_⟩
  have hma : IsMade (autoOf cells next final) := ⟨_, _, _, rfl⟩
  have hmb : IsMade (autoOf cells' next' final') := ⟨_, _, _, rfl⟩
  have hva5 : AutoV (Old H5) H5 va (autoOf cells next final) := (hva.frame (ha5.mono fun k hk => hk.2)).mono fun k hk => old_lt ha5 hk.2
  have hvb5 : AutoV (Old H5) H5 vb (autoOf cells' next' final') := hvb.mono fun k hk => hk.2
  generalize autoOf cells next final = a at *
  generalize autoOf cells' next' final' = b at *
  have sa := hma.steps
  have sb := hmb.steps
  have sa2 := sa.n2
  have sb2 := sb.n2
  have up : ∀ {G : Heap}, Agr (Old H5) H5 G → ∀ k, Old H5 k → k < G.size := fun h k hk => old_lt h hk
  have tr : ∀ {G G' : Heap}, Agr (Old H5) H5 G → Agr (Old G) G G' → Agr (Old H5) H5 G' := fun h k => h.trans (k.mono fun j hj => old_lt h hj)
  have fin : ∀ {G : Heap}, Agr (Old H5) H5 G → Agr (Old H) H G := fun h => st5.old.trans (h.mono fun k hk => old_lt st5.old hk)
  have ag0 : Agr (Old H5) H5 H5 := Agr.refl _ _
  have nma := (not_made hma).2.1
  have nmb := (not_made hmb).2.1
  have p2 : ∀ n, prW (some (notA a)) (some (notA b)) n = prW a b n := fun n => prW_like hma hmb (fun x c hx hc => by
    obtain ⟨e1, e2⟩ := stepPr_not hma hmb hx hc
    unfold stepPr
    rw [if_pos hc, if_pos hc, e1, e2]) n
  have p3 : ∀ n, prW a (some (notA b)) n = prW a b n := fun n => prW_like hma hmb (fun x c hx hc => by
    obtain ⟨e1, e2⟩ := stepPr_not hma hmb hx hc
    unfold stepPr
    rw [if_pos hc, if_pos hc, e2]) n
  (conv => whnf); refine VCall.mk (joinL_c (m := m) (S := Old H5) (up ag0) hva5 hvb5 hma hmb) ?_
  rintro _ H6 ⟨ha6, hr6⟩
  obtain ⟨v6, e6, rfl, hp6⟩ := prodR_parts hr6
  (conv => whnf); refine VCall.mk (notL_c (S := Old H5) (up ha6) (hva5.frame ha6) hma) ?_
  rintro vna H7 ⟨ha7, hvna⟩
  have h7 := tr ha6 ha7
  (conv => whnf); refine VCall.mk (notL_c (S := Old H5) (up h7) (hvb5.frame h7) hmb) ?_
  rintro vnb H8 ⟨ha8, hvnb⟩
  have h8 := tr h7 ha8
  have hna8 : AutoV (Old H8) H8 vna (some (notA a)) := (hvna.frame (ha8.mono fun k hk => hk.2)).mono fun k hk => old_lt ha8 hk.2
  have hnb8 : AutoV (Old H8) H8 vnb (some (notA b)) := hvnb.mono fun k hk => hk.2
  (conv => whnf); refine VCall.mk (meetL_c (m := m) (S := Old H8) (fun k hk => hk) hna8 hnb8 nma nmb) ?_
  rintro _ H9 ⟨ha9, hr9⟩
  obtain ⟨v9, e9, rfl, hp9⟩ := prodR_parts hr9
  have h9 := tr h8 ha9
  (conv => whnf); refine VCall.mk (lessL_c (m := m) (S := Old H5) (up h9) (hva5.frame h9) (hvb5.frame h9) hma hmb) ?_
  rintro _ H10 ⟨ha10, hr10⟩
  obtain ⟨v10, e10, rfl, hp10⟩ := prodR_parts hr10
  have h10 := tr h9 ha10
  (conv => whnf); refine VCall.mk (notL_c (S := Old H5) (up h10) (hvb5.frame h10) hmb) ?_
  rintro vnb2 H11 ⟨ha11, hvnb2⟩
  have h11 := tr h10 ha11
  have hab11 : ∀ k, Old H5 k → Old H11 k := fun k hk => old_lt h11 hk
  (conv => whnf); refine VCall.mk (meetL_c (m := m) (S := Old H11) (fun k hk => hk) ((hva5.frame h11).mono hab11) (hvnb2.mono fun k hk => hk.2) hma nmb) ?_
  rintro _ H12 ⟨ha12, hr12⟩
  obtain ⟨v12, e12, rfl, hp12⟩ := prodR_parts hr12
  have h12 := tr h11 ha12
  clear hr6 hr9 hr10 hr12
  rw [p2] at hp9
  rw [p3] at hp12
  by_cases hbad : m < 1 ∨ 4096 < m
  · rw [if_pos hbad] at hp6 hp9 hp10 hp12
    obtain ⟨rfl, rfl⟩ := hp6
    obtain ⟨rfl, rfl⟩ := hp9
    obtain ⟨rfl, rfl⟩ := hp10
    obtain ⟨rfl, rfl⟩ := hp12
    by_cases hm1 : m < 1
    · have d1 : decide (m < 1) = true := decide_eq_true hm1
      (conv => whnf); rw [d1]
      (conv => whnf)
      exact ⟨rfl, fin h12⟩
    · have d1 : decide (m < 1) = false := decide_eq_false hm1
      have d2 : decide (m > 4096) = true := decide_eq_true (by omega)
      (conv => whnf); rw [d1]
      (conv => whnf); rw [d2]
      (conv => whnf)
      exact ⟨rfl, fin h12⟩
  · rw [if_neg hbad] at hp6 hp9 hp10 hp12
    obtain ⟨n, rfl⟩ := Int.eq_ofNat_of_zero_le (show 0 ≤ m by omega)
    rw [Int.toNat_natCast] at hp6 hp9 hp10 hp12
    have d1 : decide ((n : Int) < 1) = false := decide_eq_false (by omega)
    have d2 : decide ((n : Int) > 4096) = false := decide_eq_false (by omega)
    cases hpr : prW a b n with
    | none =>
      rw [hpr] at hp6 hp9 hp10 hp12
      obtain ⟨rfl, rfl⟩ := hp6
      obtain ⟨rfl, rfl⟩ := hp9
      obtain ⟨rfl, rfl⟩ := hp10
      obtain ⟨rfl, rfl⟩ := hp12
      have hlt := prW_none hma hmb (by omega) hpr
      have hmul : (stN a : Int) * (stN b : Int) = ((stN a * stN b : Nat) : Int) := by rw [Int.natCast_mul]
      have hle : stN a * stN b ≤ 65536 * 65536 := Nat.mul_le_mul sa2 sb2
      have d3 : decide ((stN a : Int) * (stN b : Int) > (n : Int)) = true := decide_eq_true (by rw [hmul]; omega)
      (conv => whnf); rw [d1]
      (conv => whnf); rw [d2]
      (conv => whnf); refine pures (states_p (hva5.frame h12)) fun H13 ha13 => ?_
      have h13 := tr h12 ha13
      (conv => whnf); refine pures (states_p (hvb5.frame h13)) fun H14 ha14 => ?_
      have h14 := tr h13 ha14
      (conv => whnf); rw [w64 (x := (stN a : Int) * (stN b : Int)) (by rw [hmul]; omega) (by rw [hmul]; omega)]
      (conv => whnf); rw [d3]
      (conv => whnf)
      exact ⟨rfl, fin h14⟩
    | some F =>
      rw [hpr] at hp6 hp9 hp10 hp12
      obtain ⟨rfl, A6, hv6, hP6⟩ := hp6
      obtain ⟨rfl, A9, hv9, hP9⟩ := hp9
      obtain ⟨rfl, A10, hv10, hP10⟩ := hp10
      obtain ⟨rfl, A12, hv12, hP12⟩ := hp12
      obtain ⟨hnd, hin⟩ := prW_in hma hmb (by omega) hpr
      have g6 : Agr (Old H6) H6 H12 := by
        have k1 := ha7.trans (ha8.mono fun k hk => old_lt ha7 hk)
        have k2 := k1.trans (ha9.mono fun k hk => old_lt k1 hk)
        have k3 := k2.trans (ha10.mono fun k hk => old_lt k2 hk)
        have k4 := k3.trans (ha11.mono fun k hk => old_lt k3 hk)
        exact k4.trans (ha12.mono fun k hk => old_lt k4 hk)
      have g9 : Agr (Old H9) H9 H12 := by
        have k4 := ha10.trans (ha11.mono fun k hk => old_lt ha10 hk)
        exact k4.trans (ha12.mono fun k hk => old_lt k4 hk)
      have g10 : Agr (Old H10) H10 H12 := ha11.trans (ha12.mono fun k hk => old_lt ha11 hk)
      have w6 : AutoV (Old H12) H12 v6 (some A6) := (hv6.frame (g6.mono fun k hk => hk.2)).mono fun k hk => old_lt g6 hk.2
      have w9 : AutoV (Old H12) H12 v9 (some A9) := (hv9.frame (g9.mono fun k hk => hk.2)).mono fun k hk => old_lt g9 hk.2
      have w10 : AutoV (Old H12) H12 v10 (some A10) := (hv10.frame (g10.mono fun k hk => hk.2)).mono fun k hk => old_lt g10 hk.2
      have w12 : AutoV (Old H12) H12 v12 (some A12) := hv12.mono fun k hk => hk.2
      (conv => whnf); rw [d1]
      (conv => whnf); rw [d2]
      (conv => whnf); refine VCall.mk (notL_c (S := Old H12) (fun k hk => hk) w6 hP6.1) ?_
      rintro vn H13 ⟨ha13, hvn⟩
      have h13 := tr h12 ha13
      obtain ⟨-, -, nN, nst, nfi⟩ := not_made hP6.1
      have hup13 : ∀ k, Old H12 k → Old H13 k := fun k hk => old_lt ha13 hk
      have hl6 := hP6.2.2
      have hl9 := hP9.2.2
      have hl10 := hP10.2.2
      have hl12 := hP12.2.2
      have hq1 := alike06_p (S := Old H13) (fun k hk => hk) (hvn.mono fun k hk => hk.2) ((w9.frame ha13).mono hup13) (by rw [nN, hl6, hl9]) (fun q c hq hc => by
        rw [nN] at hq
        rw [nst q c hq hc]
        refine leadsG_like hnd hP6.2.1 hP9.2.1 (fun x hx c hc => ?_) q c (by omega) hc
        obtain ⟨e1, e2⟩ := stepPr_not hma hmb (hin x hx) hc
        unfold stepPr
        rw [if_pos hc, if_pos hc, e1, e2]) (fun q hq => by
        rw [nN] at hq
        rw [nfi q hq]
        obtain ⟨x, hx⟩ := get_some (l := F) (k := q) (by omega)
        rw [hP6.2.1.fi q x hx, hP9.2.1.fi q x hx]
        obtain ⟨f1, f2⟩ := fin_not hma hmb (hin x (List.mem_of_getElem? hx))
        rw [f1, f2]
        unfold orB andB
        simp)
      (conv => whnf); refine pures hq1 fun H14 ha14 => ?_
      have h14 := tr h13 ha14
      have k14 := ha13.trans (ha14.mono fun k hk => old_lt ha13 hk)
      have hq2 := alike06_p (S := Old H12) (fun k hk => old_lt k14 hk) (w10.frame k14) (w12.frame k14) (by rw [hl10, hl12]) (fun q c hq hc => by
        refine leadsG_like hnd hP10.2.1 hP12.2.1 (fun x hx c hc => ?_) q c (by omega) hc
        obtain ⟨e1, e2⟩ := stepPr_not hma hmb (hin x hx) hc
        unfold stepPr
        rw [if_pos hc, if_pos hc, e2]) (fun q hq => by
        obtain ⟨x, hx⟩ := get_some (l := F) (k := q) (by omega)
        rw [hP10.2.1.fi q x hx, hP12.2.1.fi q x hx]
        obtain ⟨f1, f2⟩ := fin_not hma hmb (hin x (List.mem_of_getElem? hx))
        rw [f2]
        rfl)
      (conv => whnf); refine pures hq2 fun H15 ha15 => ?_
      have h15 := tr h14 ha15
      (conv => whnf)
      exact ⟨rfl, fin h15⟩
end Go.Proofs.YtfbghcpdinlmcaaGreatDoor
set_option linter.unusedVariables false
set_option linter.unusedSimpArgs false
namespace Go.Proofs.YtfbghcpdinlmcaaGreatDoor
open Go.ChangeShapes Go.WideShapes Go.ChangeAt Go.RowKit
open Go.ChangeMaps (open_string)
open Go.VC

theorem langDeMorgan_met (os : Os) : laidMet Tryz.prog Rows.langDeMorganUptoRow.laid ((laidW os).forCall (fun _ _ => 0) ⟨#[], #[.agg #[.slice none 0 0, .slice none 0 0, .slice none 0 0], .agg #[.slice none 0 0, .slice none 0 0, .slice none 0 0], .int .i64 0], []⟩).memory :=
  laidMet_of_run' 100 (by kernel_rfl) (by kernel_rfl)
theorem langDeMorgan_reads (os : Os) {H : Type} (enc : TypeId × Value → H) : ∃ places, DataW.whole enc Tryz.prog ((laidW os).forCall (fun _ _ => 0) ⟨#[], #[.agg #[.slice none 0 0, .slice none 0 0, .slice none 0 0], .agg #[.slice none 0 0, .slice none 0 0, .slice none 0 0], .int .i64 0], []⟩).memory Tryz.f6.params.toList (Rows.OpenSpec.upto Rows.langDeMorganSpec).bare.plain.vars false (#[.agg #[.slice none 0 0, .slice none 0 0, .slice none 0 0], .agg #[.slice none 0 0, .slice none 0 0, .slice none 0 0], .int .i64 0] : Array Value).toList 8 = some ([.agg [.nil, .nil, .nil], .agg [.nil, .nil, .nil], .lit (.int .i64 0)], [], places) :=
  ⟨[], by kernel_rfl⟩
set_option maxRecDepth 100000 in
theorem langDeMorgan_lifted (os : Os) (started : os.Started) (H : Type) (enc : TypeId × Value → H) (F : Stop.Interp) :
    ReturnsInHanded {} Tryz.checked os 6 .any ((Rows.OpenSpec.upto Rows.langDeMorganSpec).preRow enc Tryz.prog Tryz.f6 Rows.langDeMorganUptoRow.domain false Rows.langDeMorganUptoRow.laid) (((Rows.OpenSpec.upto Rows.langDeMorganSpec).at F).post enc Tryz.prog Tryz.f6 false true false false) := by
  obtain ⟨places, hx⟩ := langDeMorgan_reads os enc
  refine returnsInHanded_of_row (C := Tryz.checked) (s := Rows.OpenSpec.upto Rows.langDeMorganSpec) own_ started (by kernel_rfl) Tryz.func6
    (witness_row_at (enc := enc) (C := Tryz.checked) false (laidW os) #[.agg #[.slice none 0 0, .slice none 0 0, .slice none 0 0], .agg #[.slice none 0 0, .slice none 0 0, .slice none 0 0], .int .i64 0] rfl (by kernel_rfl) (by kernel_rfl) (by kernel_rfl)
      (OpenSpec.preRow_of_cond 8 hx (by kernel_rfl) (fun k hk => by cases hk; kernel_rfl) (by kernel_rfl) (langDeMorgan_met os))) ?_
  intro W base args ds gs before hval0 hW _ hcond _ hL _ _
  have hk := hcond _ rfl
  have hval : ∀ (j : Nat) t v, Tryz.f6.params[j]? = some t → args[j]? = some v → Value.okWide Tryz.prog W .any base t v := hval0
  have hW' := hW
  obtain ⟨p, q, hA0, hV, rfl, hfz, hnd⟩ := hW
  have hA : DataW.TrodAll enc Tryz.prog W 0 (fun _ => true) true [38, 38, 3] args.toList ds p := hA0
  obtain ⟨v0, vs0, d0, ds0, p0, q0, e0, rfl, rfl, h0, r0⟩ := trodAll_cons hA
  obtain ⟨v1, vs1, d1, ds1, p1, q1, rfl, rfl, rfl, h1, r1⟩ := trodAll_cons r0
  obtain ⟨v2, vs2, d2, ds2, p2, q2, rfl, rfl, rfl, h2, r2⟩ := trodAll_cons r1
  obtain ⟨rfl, rfl, rfl⟩ := trodAll_nil r2
  obtain rfl : args = #[v0, v1, v2] := by cases args; simp_all
  obtain ⟨rfl, rfl⟩ := trodVars_none hV
  have hb := small_of hk
  obtain ⟨cells0, next0, final0, htab0, hz0⟩ := open_table (hval 0 _ v0 rfl rfl) h0
  obtain ⟨cells1, next1, final1, htab1, hz1⟩ := open_table (hval 1 _ v1 rfl rfl) h1
  obtain ⟨n2, rfl, rfl, rfl, wn2⟩ := open_int Tryz.underlying3 (hval 2 3 v2 rfl rfl) h2
  simp only [List.append_nil, Rows.uptoBulkAll, Rows.uptoBulk, Array.length_toList] at hb
  refine ((langDeMorgan_p v0 cells0 next0 final0 v1 cells1 next1 final1 n2 (InW W) W.heap (tabIn_of htab0 (by omega)) (tabIn_of htab1 (by omega)) (pow_of_laid hL)) W rfl).2.mono fun e W' ⟨v, he, henv, hv, hag⟩ => ?_
  subst he; subst hv
  exact ⟨_, rfl, post_true hW' rfl ⟨rfl, rfl, rfl⟩ laid_ (by kernel_rfl) rfl Tryz.underlying4 henv hag⟩

theorem langDeMorgan_said : Rows.LangDeMorganUptoSaid :=
  OpenClaim.holds_of_cond 6 Tryz.f6 rfl rfl rfl rfl rfl rfl rfl ⟨rfl, rfl, rfl, rfl, rfl⟩ rfl rfl rfl rfl rfl (by kernel_rfl) Tryz.func6 (by kernel_rfl)
    (of_decide_eq_true (by kernel_rfl)) (by unfold Func.isWrapper; first | (rw [if_pos (by decide +kernel)]; kernel_rfl) | (rw [if_neg (by decide +kernel)]; exact ⟨rfl, rfl⟩))
    (fun os started H enc _ F => by rw [OpenClaim.pre_eq_preRow]; exact langDeMorgan_lifted os started H enc F)

theorem langDeMorgan_plain (f : FuncId) (fn : Func) (hf : Tryz.pinned.checked.prog.funcNamed "loupe/loupelaw06.LangDeMorgan" = some f) (hfn : Tryz.pinned.checked.prog.funcs[f]? = some fn) :
    true = Tryz.pinned.checked.prog.looks [] ∧ ∀ (j : Nat) t, fn.params[j]? = some t → Tryz.pinned.checked.prog.wantsStandIn t = false := by
  obtain rfl : f = 6 := Option.some.inj ((show Tryz.prog.funcNamed "loupe/loupelaw06.LangDeMorgan" = some 6 by kernel_rfl).symm.trans hf) |>.symm
  obtain rfl : fn = Tryz.f6 := (Option.some.inj (Tryz.func6.symm.trans hfn)).symm
  refine ⟨by kernel_rfl, fun j t ht => ?_⟩
  have ht : (#[38, 38, 3] : Array TypeId)[j]? = some t := ht
  have hm := Array.mem_of_getElem? ht
  simp only [List.mem_toArray, List.mem_cons, List.not_mem_nil, or_false] at hm
  rcases hm with rfl | rfl | rfl
  · exact (show Tryz.prog.wantsStandIn 38 = false by kernel_rfl)
  · exact (show Tryz.prog.wantsStandIn 38 = false by kernel_rfl)
  · exact (show Tryz.prog.wantsStandIn 3 = false by kernel_rfl)
theorem langDeMorgan_holds : Rows.LangDeMorganUptoCardSaid :=
  Claim7.holds_tied_plain_at .later [] _ _ _ _ langDeMorgan_said (fun _ h => by cases h) (by kernel_rfl) (fun _ h => by cases h) langDeMorganUpto_row_tie rfl ⟨rfl, rfl⟩ (by kernel_rfl) rfl langDeMorgan_plain (by kernel_rfl)

#print axioms langDeMorgan_holds
end Go.Proofs.YtfbghcpdinlmcaaGreatDoor
