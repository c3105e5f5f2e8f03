/- Parts of the proof: PDp9, PDp10, PDp11, PThm, PMb1, PMb2, PMb3, PMb4, PMb5 -/
import Derived.Test.YtlnmhfhdjnenoaaGreatDoorKNr5
import Derived.Test.YtlnmhfhdjnenoaaGreatDoorKNr3
/- The document's parser: unroll: the walk. -/
set_option linter.unusedVariables false
set_option linter.unusedSimpArgs false
set_option maxRecDepth 100000
namespace Go.Proofs.YtlnmhfhdjnenoaaGreatDoor
open Go.VC Go.Lib
def rO (r : ReM) (m k : Nat) : ReM := (repO r m k).getD .eps
theorem rO_one (r : ReM) (m : Nat) : rO r m 1 = if 0 < m then r else maybeR r := rfl
theorem rO_next (r : ReM) (m k : Nat) (h : 1 ≤ k) : rO r m (k + 1) = .cat (rO r m k) (if k < m then r else maybeR r) := repO_next r m k h
theorem rO_mono (r : ReM) (m : Nat) {k : Nat} (h : 1 ≤ k) : ∀ j, (rO r m k).nodes ≤ (rO r m (k + j)).nodes
  | 0 => Nat.le_refl _
  | j + 1 => by
    have ih := rO_mono r m h j
    have e : (rO r m (k + (j + 1))).nodes = 1 + (rO r m (k + j)).nodes + (if k + j < m then r else maybeR r).nodes := by
      rw [show k + (j + 1) = (k + j) + 1 by omega, rO_next r m (k + j) (by omega)]; rfl
    omega
section
variable {B : Nat → Prop} {H0 H : Heap} {bb c : Nat} {a : Option Addr} {ns : List RnM} {root : Int} {rest : List Pc}
/-- Where unroll's loop stands. -/
structure UnI (B : Nat → Prop) (H0 : Heap) (bb : Nat) (root : Int) (rest : List Pc) (ns : List RnM) (r : ReM) (m k : Nat) (out : Int) (G : Heap) : Prop where
  ex : ∃ (ms : List RnM) (a : Option Addr) (c : Nat), (k = 0 → ms = [] ∧ out = -1) ∧ (0 < k → ms.length = (rO r m k).nodes ∧ NoSg (rO r m k) ms ∧ out = ((ns.length + ms.length - 1 : Nat) : Int) ∧ TreeAt (ns ++ ms) (rO r m k) (ns.length + ms.length - 1)) ∧ StB B H0 G (reP bb a c (ns ++ ms) root rest)
theorem grp_bin {r1 r2 : ReM} {ms1 ms2 : List RnM} {op : Int} {R : ReM} {G : Heap} {a' : Option Addr} {c' : Nat} (h1 : ms1.length = r1.nodes) (n1 : NoSg r1 ms1) (h2 : ms2.length = r2.nodes) (n2 : NoSg r2 ms2) (hg : R.plain = true → r1.plain = true ∧ r2.plain = true ∧ op ≠ 5 ∧ op ≠ 6)
    (hR : R.nodes = 1 + r1.nodes + r2.nodes)
    (hT : ∀ ns' d j k, ns'[ns.length + (ms1 ++ ms2 ++ [d]).length - 1]? = some d → d = binN op ((j : Nat) : Int) ((k : Nat) : Int) → TreeAt ns' r1 j → TreeAt ns' r2 k → TreeAt ns' R (ns.length + (ms1 ++ ms2 ++ [d]).length - 1))
    (t1 : TreeAt (ns ++ ms1) r1 (ns.length + ms1.length - 1)) (t2 : TreeAt (ns ++ ms1 ++ ms2) r2 ((ns ++ ms1).length + ms2.length - 1))
    (st : StB B H0 G (reP bb a' c' (ns ++ ms1 ++ ms2 ++ [binN op ((ns.length + ms1.length - 1 : Nat) : Int) (((ns ++ ms1).length + ms2.length - 1 : Nat) : Int)]) root rest)) :
    GrP B H0 bb root rest ns R (.int .i64 ((ns ++ ms1 ++ ms2).length : Int)) G := by
  have p1 := nodes_pos r1
  have p2 := nodes_pos r2
  obtain ⟨d, hd⟩ : ∃ d, d = binN op ((ns.length + ms1.length - 1 : Nat) : Int) (((ns ++ ms1).length + ms2.length - 1 : Nat) : Int) := ⟨_, rfl⟩
  rw [← hd] at st
  have e : ns ++ (ms1 ++ ms2 ++ [d]) = ns ++ ms1 ++ ms2 ++ [d] := by simp [List.append_assoc]
  refine ⟨ms1 ++ ms2 ++ [d], a', c', ?_, ?_, ?_, ?_, ?_⟩
  · simp only [List.length_append, List.length_singleton, h1, h2]; omega
  · intro hp x hx
    obtain ⟨k1, k2, k3, k4⟩ := hg hp
    simp only [List.mem_append, List.mem_singleton] at hx
    rcases hx with (hx | hx) | hx
    · exact n1 k1 x hx
    · exact n2 k2 x hx
    · rw [hx, hd]; exact ⟨k3, k4⟩
  · congr 1; simp only [List.length_append, List.length_singleton]; omega
  · rw [e]
    refine hT _ d _ _ ?_ hd t1.more.more t2.more
    rw [show ns.length + (ms1 ++ ms2 ++ [d]).length - 1 = (ns ++ ms1 ++ ms2).length by simp only [List.length_append, List.length_singleton]; omega]
    exact get_end _ _
  · rw [e]; exact st
theorem grp_star {r1 : ReM} {ms1 : List RnM} {G : Heap} {a' : Option Addr} {c' : Nat} (h1 : ms1.length = r1.nodes) (n1 : NoSg r1 ms1) (t1 : TreeAt (ns ++ ms1) r1 (ns.length + ms1.length - 1))
    (st : StB B H0 G (reP bb a' c' (ns ++ ms1 ++ [binN 4 ((ns.length + ms1.length - 1 : Nat) : Int) 0]) root rest)) :
    GrP B H0 bb root rest ns (.star r1) (.int .i64 ((ns ++ ms1).length : Int)) G := by
  have p1 := nodes_pos r1
  have e : ns ++ (ms1 ++ [binN 4 ((ns.length + ms1.length - 1 : Nat) : Int) 0]) = ns ++ ms1 ++ [binN 4 ((ns.length + ms1.length - 1 : Nat) : Int) 0] := by simp [List.append_assoc]
  refine ⟨ms1 ++ [binN 4 ((ns.length + ms1.length - 1 : Nat) : Int) 0], a', c', ?_, ?_, ?_, ?_, ?_⟩
  · simp only [List.length_append, List.length_singleton, h1, ReM.nodes]; omega
  · intro hp x hx
    simp only [List.mem_append, List.mem_singleton] at hx
    rcases hx with hx | rfl
    · exact n1 hp x hx
    · exact ⟨show (4 : Int) ≠ 5 by decide, show (4 : Int) ≠ 6 by decide⟩
  · congr 1; simp only [List.length_append, List.length_singleton]; omega
  · rw [e]
    refine ⟨binN 4 ((ns.length + ms1.length - 1 : Nat) : Int) 0, ns.length + ms1.length - 1, ?_, rfl, rfl, t1.more⟩
    rw [show ns.length + (ms1 ++ [binN 4 ((ns.length + ms1.length - 1 : Nat) : Int) 0]).length - 1 = (ns ++ ms1).length by simp only [List.length_append, List.length_singleton]; omega]
    exact get_end _ _
  · rw [e]; exact st
theorem grp_eps {G : Heap} {a' : Option Addr} {c' : Nat} (st : StB B H0 G (reP bb a' c' (ns ++ [binN 0 0 0]) root rest)) : GrP B H0 bb root rest ns .eps (.int .i64 (ns.length : Int)) G :=
  ⟨[binN 0 0 0], a', c', rfl, fun _ x hx => by rcases List.mem_singleton.1 hx with rfl; exact ⟨show (0 : Int) ≠ 5 by decide, show (0 : Int) ≠ 6 by decide⟩, by simp, ⟨binN 0 0 0, by simp, rfl⟩, st⟩
theorem GrP.drop {ms : List Pc} {r : ReM} {v : Value} {G : Heap} (h : GrP B H0 bb root (rest ++ ms) ns r v G) : GrP B H0 bb root rest ns r v G := by
  obtain ⟨ms1, a1, c1, h1, hs, h2, h3, st⟩ := h
  exact ⟨ms1, a1, c1, h1, hs, h2, h3, st.subl (List.Sublist.cons_cons _ (List.Sublist.cons_cons _ (List.sublist_append_left _ _)))⟩
set_option maxHeartbeats 16000000 in
theorem unroll_c {w : RwM} (IH : GrSpec w) {na : Option Addr} {nc i : Nat} {ds : List RnM} {ws : List RwM} {m n : Int} (hR : Raw ds ws) (hd : SlD tRn B H0 na nc ds) (hB : ∀ k, B k → k < H0.size) (hw : ws[i]? = some w) (hrk : RepOk m n) (hl : ns.length + (repR w.den (lowM m) n).nodes ≤ 4194304) (st : StB B H0 H (reP bb a c ns root rest)) :
    FnOk Tryz.prog 58 #[.slice na ds.length nc, .agg (rnL (repN (i : Int) m n)).toArray, .pointer (some ⟨bb, 0, none⟩)] H (GrP B H0 bb root rest ns (repR w.den (lowM m) n)) := by
  have hmx : lowM m ≤ 255 := by unfold lowM; split <;> rcases hrk with h | h <;> omega
  have hnx1 : n ≤ 255 := by rcases hrk with h | h <;> omega
  have hnx2 : -1 ≤ n := by rcases hrk with h | h <;> omega
  have hmn : 0 ≤ n → ((lowM m : Nat) : Int) ≤ n := by intro h0; unfold lowM; rcases hrk with h | h <;> split <;> omega
  have hpos := nodes_pos w.den
  refine FnOk.of_vc Tryz.func58 rfl (Tryz.call58 _) ?_
  (conv => whnf); refine vbox (rnL (repN (i : Int) m n)) rfl ?_
  intro x H1 hx hs1 hb1 ha1
  have st1 := st.box hx hs1 hb1 ha1
  replace st1 : StB B H0 H1 (reP bb a c ns root (rest ++ [pB 94 x (rnL (repN (i : Int) m n))])) := st1
  (conv => whnf); refine VC.fa fl94_4 ?_
  (conv => whnf); refine ld1 (v := .int .i64 m) ct3 (by rw [(st1.blk _ (lgR (_ :: _ :: rest) _ 0)).cell, Nat.zero_add]; exact rn_m _) trivial ?_
  (conv => whnf)
  refine VSeq.cut [7] (fun _ : Unit => [.int .i64 ((lowM m : Nat) : Int)]) (fun _ G => StB B H0 G (reP bb a c ns root (rest ++ [pB 94 x (rnL (repN (i : Int) m n))]))) ?_ ?_
  · by_cases h2 : m = -2
    · subst h2
      (conv => whnf)
      exact ⟨rfl, (), rfl, st1⟩
    · have d1 : (m == -2) = false := beq_eq_false_iff_ne.2 h2
      (conv => whnf); rw [d1]
      (conv => whnf)
      refine ⟨rfl, (), ?_, st1⟩
      have : ((lowM m : Nat) : Int) = m := by
        unfold lowM; rw [if_neg h2]
        have : 0 ≤ m := by rcases hrk with h | h <;> omega
        omega
      rw [this]
  rintro ⟨⟩ G junk sg
  clear st st1 hb1 ha1
  (conv => whnf); refine VC.fa fl94_5 ?_
  (conv => whnf); refine ld1 (v := .int .i64 n) ct3 (by rw [(sg.blk _ (lgR (_ :: _ :: rest) _ 0)).cell, Nat.zero_add]; exact rn_n _) trivial ?_
  (conv => whnf)
  by_cases h1 : n < 0
  · have d1 : decide (n < 0) = true := decide_eq_true h1
    rw [d1]
    by_cases h0 : lowM m = 0
    · have hrep : repR w.den (lowM m) n = .star w.den := by unfold repR; rw [if_pos h1, if_pos h0]
      rw [hrep] at hl ⊢
      simp only [ReM.nodes] at hl
      have d2 : (((lowM m : Nat) : Int) == 0) = true := by rw [h0]; rfl
      (conv => whnf); rw [d2]
      (conv => whnf); refine VC.fa fl94_2 ?_
      (conv => whnf); refine ld1 (v := .int .i64 (i : Int)) ct3 (by rw [(sg.blk _ (lgR (_ :: _ :: rest) _ 0)).cell, Nat.zero_add]; exact rn_l _) trivial ?_
      (conv => whnf); refine VCall.mk (IH B H0 _ bb _ _ (ns) root (rest ++ [pB 94 x (rnL (repN (i : Int) m n))]) na nc i ds ws hR hd hB hw (by omega) sg) ?_
      rintro _ G1 ⟨ms1, a1, c1, hm1, hs1, rfl, ht1, sg1⟩
      (conv => whnf); refine VCall.mk (put_g (op := 4) (x := ((ns.length + ms1.length - 1 : Nat) : Int)) (y := 0) sg1 (by unfold NumOk; omega) (num_nat (by omega)) (by unfold NumOk; omega) (by simp; omega)) ?_
      rintro _ G2 ⟨rfl, a2, c2, sg2⟩
      (conv => whnf)
      exact (grp_star hm1 hs1 ht1 sg2).drop
    · have d2 : (((lowM m : Nat) : Int) == 0) = false := beq_eq_false_iff_ne.2 (by omega)
      (conv => whnf); rw [d2]
      have hns : ¬ (n < 0 ∧ lowM m = 0) := fun h => h0 h.2
      clear d1 d2
      (conv => whnf); refine VC.fa fl94_5 ?_
      (conv => whnf); refine ld1 (v := .int .i64 n) ct3 (by rw [(sg.blk _ (lgR (_ :: _ :: rest) _ 0)).cell, Nat.zero_add]; exact rn_n _) trivial ?_
      (conv => whnf)
      by_cases h0 : n = 0
      · have d1 : (n == 0) = true := by rw [h0]; rfl
        have hrep : repR w.den (lowM m) n = .eps := by unfold repR; rw [if_neg (by omega), if_pos h0]
        rw [hrep] at hl ⊢
        simp only [ReM.nodes] at hl
        rw [d1]
        (conv => whnf); refine VCall.mk (put_g (op := 0) (x := 0) (y := 0) sg (by unfold NumOk; omega) (by unfold NumOk; omega) (by unfold NumOk; omega) (by omega)) ?_
        rintro _ G3 ⟨rfl, a2, c2, sg3⟩
        (conv => whnf)
        exact (grp_eps sg3).drop
      · have d1 : (n == 0) = false := beq_eq_false_iff_ne.2 h0
        rw [d1]
        have hn0 : n ≠ 0 := h0
        have sg3 := sg
        clear sg
        obtain ⟨K, hK⟩ : ∃ K : Nat, K = if n < 0 then lowM m else n.toNat := ⟨_, rfl⟩
        have hK1 : 1 ≤ K := by rw [hK]; split <;> omega
        have hKb : K ≤ 255 := by rw [hK]; split <;> omega
        have hKO : (rO w.den (lowM m) K).nodes ≤ (repR w.den (lowM m) n).nodes := by
          unfold repR
          by_cases h1 : n < 0
          · rw [if_pos h1, if_neg (by omega), hK, if_pos h1]
            show _ ≤ 1 + ((repO w.den (lowM m) (lowM m)).getD .eps).nodes + _
            unfold rO; omega
          · rw [if_neg h1, if_neg hn0, hK, if_neg h1]; exact Nat.le_refl _
        (conv => whnf); refine VC.fa fl94_5 ?_
        (conv => whnf); refine ld1 (v := .int .i64 n) ct3 (by rw [(sg3.blk _ (lgR (_ :: _ :: rest) _ 0)).cell, Nat.zero_add]; exact rn_n _) trivial ?_
        (conv => whnf)
        refine VSeq.cut [8] (fun _ : Unit => [.int .i64 (K : Int)]) (fun _ G => StB B H0 G (reP bb a c ns root (rest ++ [pB 94 x (rnL (repN (i : Int) m n))]))) ?_ ?_
        · (conv => whnf)
          by_cases h1 : n < 0
          · have d1 : decide (n < 0) = true := decide_eq_true h1
            rw [d1]
            (conv => whnf)
            exact ⟨rfl, (), by rw [hK, if_pos h1], sg3⟩
          · have d1 : decide (n < 0) = false := decide_eq_false h1
            rw [d1]
            (conv => whnf)
            exact ⟨rfl, (), by rw [hK, if_neg h1, Int.toNat_of_nonneg (by omega)], sg3⟩
        rintro ⟨⟩ G4 junk4 sg4
        clear sg3
        (conv => whnf)
        refine VLoop.mk [9, 10] (fun y : Nat × Int => match y with | (k, out) => [.int .i64 out, .int .i64 (k : Int)]) (fun y G => match y with | (k, out) => k ≤ K ∧ UnI B H0 bb root (rest ++ [pB 94 x (rnL (repN (i : Int) m n))]) ns w.den (lowM m) k out G) (fun y _ => match y with | (k, _) => K - k) ?_ ?_
        · (conv => whnf)
          exact ⟨(0, -1), rfl, Nat.zero_le _, ⟨[], _, _, fun _ => ⟨rfl, rfl⟩, fun h => absurd h (by decide), by simpa using sg4⟩⟩
        · rintro ⟨k, out⟩ G junk5 ⟨hk, ⟨ms, a1, c1, hz0, hz1, sg⟩⟩
          clear sg4
          have hnext : k < K → (rO w.den (lowM m) (k + 1)).nodes ≤ (repR w.den (lowM m) n).nodes := fun h => by
            have := rO_mono w.den (lowM m) (k := k + 1) (by omega) (K - (k + 1))
            rw [show k + 1 + (K - (k + 1)) = K by omega] at this
            omega
          have hpart : k < K → (ns ++ ms).length + (if k < lowM m then w.den else maybeR w.den).nodes ≤ 4194304 := fun h => by
            have h1 := hnext h
            by_cases hk0 : k = 0
            · obtain ⟨rfl, -⟩ := hz0 hk0
              subst hk0
              rw [rO_one] at h1
              simp only [List.append_nil]; omega
            · obtain ⟨hm1, -, -, -⟩ := hz1 (by omega)
              rw [rO_next _ _ _ (by omega)] at h1
              simp only [ReM.nodes] at h1
              simp only [List.length_append]; omega
          (conv => whnf); refine VIte.mk (fun hz => ?_) (fun hz => ?_) <;> simp only [decide_eq_true_eq, decide_eq_false_iff_not] at hz
          · have hkK : k < K := by omega
            replace hnext := hnext hkK
            replace hpart := hpart hkK
            (conv => whnf); try (refine VSeq.run ?_)
            (conv => whnf); try (refine VSeq.run ?_)
            (conv => whnf)
            by_cases hkm : k < lowM m
            · have d1 : decide ((k : Int) < ((lowM m : Nat) : Int)) = true := decide_eq_true (by omega)
              rw [if_pos hkm] at hpart
              rw [d1]
              (conv => whnf); refine VC.fa fl94_2 ?_
              (conv => whnf); refine ld1 (v := .int .i64 (i : Int)) ct3 (by rw [(sg.blk _ (lgR (_ :: _ :: rest) _ 0)).cell, Nat.zero_add]; exact rn_l _) trivial ?_
              (conv => whnf); refine VCall.mk (IH B H0 _ bb _ _ (ns ++ ms) root (rest ++ [pB 94 x (rnL (repN (i : Int) m n))]) na nc i ds ws hR hd hB hw (by omega) sg) ?_
              rintro _ G1 ⟨ms2, a2, c2, hm2, hs2, rfl, ht2, st2⟩
              have p2 := nodes_pos (w.den)
              (conv => whnf); try (refine VSeq.run ?_)
              (conv => whnf)
              by_cases hk0 : k = 0
              · obtain ⟨rfl, rfl⟩ := hz0 hk0
                subst hk0
                (conv => whnf); rw [w64 (x := ((0 : Nat) : Int) + 1) (by omega) (by omega)]
                have e1 : rO w.den (lowM m) 1 = w.den := by rw [rO_one]; exact if_pos hkm
                refine ⟨rfl, (1, _), rfl, ⟨by omega, ⟨ms2, a2, c2, fun h => absurd h (by decide), fun _ => ?_, by simpa using st2⟩⟩, by show K - 1 < K - 0; omega⟩
                rw [e1]
                simp only [List.append_nil] at ht2
                exact ⟨hm2, hs2, by simp, ht2⟩
              · obtain ⟨hm1, hs1, rfl, ht1⟩ := hz1 (by omega)
                have hnx : rO w.den (lowM m) (k + 1) = .cat (rO w.den (lowM m) k) (w.den) := by rw [rO_next _ _ _ (by omega)]; rw [if_pos hkm]
                have hnn : (rO w.den (lowM m) (k + 1)).nodes = 1 + (rO w.den (lowM m) k).nodes + (w.den).nodes := by rw [hnx]; rfl
                have p1 := nodes_pos (rO w.den (lowM m) k)
                have hout : decide (((ns.length + ms.length - 1 : Nat) : Int) < 0) = false := decide_eq_false (by omega)
                try rw [hout]
                (conv => whnf); refine VCall.mk (put_g (op := 2) (x := ((ns.length + ms.length - 1 : Nat) : Int)) (y := (((ns ++ ms).length + ms2.length - 1 : Nat) : Int)) st2 (by unfold NumOk; omega) (num_nat (by omega)) (num_nat (by simp; omega)) (by simp; omega)) ?_
                rintro _ G2 ⟨rfl, a3, c3, st3⟩
                (conv => whnf); rw [w64 (x := (k : Int) + 1) (by omega) (by omega)]
                obtain ⟨ms3, a4, c4, g1, gs, g2, g3, g4⟩ := grp_bin (R := rO w.den (lowM m) (k + 1)) hm1 hs1 hm2 hs2 (fun h => by rw [hnx] at h; simp only [ReM.plain, Bool.and_eq_true] at h; exact ⟨h.1, h.2, by decide, by decide⟩) hnn (fun ns' d j k' h1 h2 h3 h4 => by rw [hnx]; exact ⟨d, j, k', h1, by rw [h2]; rfl, by rw [h2]; rfl, by rw [h2]; rfl, h3, h4⟩) ht1 ht2 st3
                have g2' : ((ns ++ ms ++ ms2).length : Int) = ((ns.length + ms3.length - 1 : Nat) : Int) := by injection g2
                refine ⟨rfl, (k + 1, ((ns ++ ms ++ ms2).length : Int)), rfl, ⟨by omega, ⟨ms3, a4, c4, fun h => absurd h (by omega), fun _ => ⟨g1, gs, g2', g3⟩, g4⟩⟩, by show K - (k + 1) < K - k; omega⟩
            · have d1 : decide ((k : Int) < ((lowM m : Nat) : Int)) = false := decide_eq_false (by omega)
              rw [if_neg hkm] at hpart
              rw [d1]
              (conv => whnf); refine VC.fa fl94_2 ?_
              (conv => whnf); refine ld1 (v := .int .i64 (i : Int)) ct3 (by rw [(sg.blk _ (lgR (_ :: _ :: rest) _ 0)).cell, Nat.zero_add]; exact rn_l _) trivial ?_
              (conv => whnf); refine VCall.mk (optional_c IH hR hd hB hw (by simp only [maybeR, ReM.nodes] at hpart; omega) sg) ?_
              rintro _ G1 ⟨ms2, a2, c2, hm2, hs2, rfl, ht2, st2⟩
              have p2 := nodes_pos (maybeR w.den)
              (conv => whnf); try (refine VSeq.run ?_)
              (conv => whnf)
              by_cases hk0 : k = 0
              · obtain ⟨rfl, rfl⟩ := hz0 hk0
                subst hk0
                (conv => whnf); rw [w64 (x := ((0 : Nat) : Int) + 1) (by omega) (by omega)]
                have e1 : rO w.den (lowM m) 1 = maybeR w.den := by rw [rO_one]; exact if_neg hkm
                refine ⟨rfl, (1, _), rfl, ⟨by omega, ⟨ms2, a2, c2, fun h => absurd h (by decide), fun _ => ?_, by simpa using st2⟩⟩, by show K - 1 < K - 0; omega⟩
                rw [e1]
                simp only [List.append_nil] at ht2
                exact ⟨hm2, hs2, by simp, ht2⟩
              · obtain ⟨hm1, hs1, rfl, ht1⟩ := hz1 (by omega)
                have hnx : rO w.den (lowM m) (k + 1) = .cat (rO w.den (lowM m) k) (maybeR w.den) := by rw [rO_next _ _ _ (by omega)]; rw [if_neg hkm]
                have hnn : (rO w.den (lowM m) (k + 1)).nodes = 1 + (rO w.den (lowM m) k).nodes + (maybeR w.den).nodes := by rw [hnx]; rfl
                have p1 := nodes_pos (rO w.den (lowM m) k)
                have hout : decide (((ns.length + ms.length - 1 : Nat) : Int) < 0) = false := decide_eq_false (by omega)
                try rw [hout]
                (conv => whnf); refine VCall.mk (put_g (op := 2) (x := ((ns.length + ms.length - 1 : Nat) : Int)) (y := (((ns ++ ms).length + ms2.length - 1 : Nat) : Int)) st2 (by unfold NumOk; omega) (num_nat (by omega)) (num_nat (by simp; omega)) (by simp; omega)) ?_
                rintro _ G2 ⟨rfl, a3, c3, st3⟩
                (conv => whnf); rw [w64 (x := (k : Int) + 1) (by omega) (by omega)]
                obtain ⟨ms3, a4, c4, g1, gs, g2, g3, g4⟩ := grp_bin (R := rO w.den (lowM m) (k + 1)) hm1 hs1 hm2 hs2 (fun h => by rw [hnx] at h; simp only [ReM.plain, Bool.and_eq_true] at h; exact ⟨h.1, h.2, by decide, by decide⟩) hnn (fun ns' d j k' h1 h2 h3 h4 => by rw [hnx]; exact ⟨d, j, k', h1, by rw [h2]; rfl, by rw [h2]; rfl, by rw [h2]; rfl, h3, h4⟩) ht1 ht2 st3
                have g2' : ((ns ++ ms ++ ms2).length : Int) = ((ns.length + ms3.length - 1 : Nat) : Int) := by injection g2
                refine ⟨rfl, (k + 1, ((ns ++ ms ++ ms2).length : Int)), rfl, ⟨by omega, ⟨ms3, a4, c4, fun h => absurd h (by omega), fun _ => ⟨g1, gs, g2', g3⟩, g4⟩⟩, by show K - (k + 1) < K - k; omega⟩
          · obtain rfl : k = K := by omega
            obtain ⟨hm1, hs1, rfl, ht1⟩ := hz1 (by omega)
            have p1 := nodes_pos (rO w.den (lowM m) k)
            (conv => whnf); try (refine VSeq.run ?_)
            (conv => whnf); refine VC.fa fl94_5 ?_
            (conv => whnf); refine ld1 (v := .int .i64 n) ct3 (by rw [(sg.blk _ (lgR (_ :: _ :: rest) _ 0)).cell, Nat.zero_add]; exact rn_n _) trivial ?_
            (conv => whnf)
            by_cases h1 : n < 0
            · have d1 : decide (n < 0) = true := decide_eq_true h1
              rw [if_pos h1] at hK
              have hrep : repR w.den (lowM m) n = .cat (rO w.den (lowM m) k) (.star w.den) := by unfold repR; rw [if_pos h1, if_neg (by omega), hK]; rfl
              rw [hrep] at hl ⊢
              simp only [ReM.nodes] at hl
              rw [d1]
              (conv => whnf); refine VC.fa fl94_2 ?_
              (conv => whnf); refine ld1 (v := .int .i64 (i : Int)) ct3 (by rw [(sg.blk _ (lgR (_ :: _ :: rest) _ 0)).cell, Nat.zero_add]; exact rn_l _) trivial ?_
              (conv => whnf); refine VCall.mk (IH B H0 _ bb _ _ (ns ++ ms) root (rest ++ [pB 94 x (rnL (repN (i : Int) m n))]) na nc i ds ws hR hd hB hw (by simp only [List.length_append]; omega) sg) ?_
              rintro _ G6 ⟨ms1, a6, c6, hm6, hs6, rfl, ht6, sg6⟩
              (conv => whnf); refine VCall.mk (put_g (op := 4) (x := (((ns ++ ms).length + ms1.length - 1 : Nat) : Int)) (y := 0) sg6 (by unfold NumOk; omega) (num_nat (by simp only [List.length_append]; omega)) (by unfold NumOk; omega) (by simp only [List.length_append]; omega)) ?_
              rintro _ G7 ⟨rfl, a7, c7, sg7⟩
              obtain ⟨ms2, a8, c8, g1, gs, g2, g3, g4⟩ := grp_star hm6 hs6 ht6 sg7
              have g2' : ((ns ++ ms ++ ms1).length : Int) = (((ns ++ ms).length + ms2.length - 1 : Nat) : Int) := by injection g2
              rw [g2']
              simp only [ReM.nodes] at g1
              (conv => whnf); refine VCall.mk (put_g (op := 2) (x := ((ns.length + ms.length - 1 : Nat) : Int)) (y := (((ns ++ ms).length + ms2.length - 1 : Nat) : Int)) g4 (by unfold NumOk; omega) (num_nat (by omega)) (num_nat (by simp only [List.length_append]; omega)) (by simp only [List.length_append]; omega)) ?_
              rintro _ G8 ⟨rfl, a9, c9, sg9⟩
              (conv => whnf)
              exact (grp_bin (R := .cat (rO w.den (lowM m) k) (.star w.den)) hm1 hs1 (r2 := .star w.den) (by simp only [ReM.nodes]; exact g1) gs (fun h => by simp only [ReM.plain, Bool.and_eq_true] at h ⊢; exact ⟨h.1, h.2, by decide, by decide⟩) rfl (fun ns' d j k' h1 h2 h3 h4 => ⟨d, j, k', h1, by rw [h2]; rfl, by rw [h2]; rfl, by rw [h2]; rfl, h3, h4⟩) ht1 g3 sg9).drop
            · have d1 : decide (n < 0) = false := decide_eq_false h1
              rw [if_neg h1] at hK
              have hrep : repR w.den (lowM m) n = rO w.den (lowM m) k := by unfold repR; rw [if_neg h1, if_neg hn0, hK]; rfl
              rw [hrep]
              rw [d1]
              (conv => whnf)
              exact GrP.drop ⟨ms, a1, c1, hm1, hs1, rfl, ht1, sg⟩
  · have d1 : decide (n < 0) = false := decide_eq_false h1
    rw [d1]
    have hns : ¬ (n < 0 ∧ lowM m = 0) := fun h => h1 h.1
    clear d1
    (conv => whnf); refine VC.fa fl94_5 ?_
    (conv => whnf); refine ld1 (v := .int .i64 n) ct3 (by rw [(sg.blk _ (lgR (_ :: _ :: rest) _ 0)).cell, Nat.zero_add]; exact rn_n _) trivial ?_
    (conv => whnf)
    by_cases h0 : n = 0
    · have d1 : (n == 0) = true := by rw [h0]; rfl
      have hrep : repR w.den (lowM m) n = .eps := by unfold repR; rw [if_neg (by omega), if_pos h0]
      rw [hrep] at hl ⊢
      simp only [ReM.nodes] at hl
      rw [d1]
      (conv => whnf); refine VCall.mk (put_g (op := 0) (x := 0) (y := 0) sg (by unfold NumOk; omega) (by unfold NumOk; omega) (by unfold NumOk; omega) (by omega)) ?_
      rintro _ G3 ⟨rfl, a2, c2, sg3⟩
      (conv => whnf)
      exact (grp_eps sg3).drop
    · have d1 : (n == 0) = false := beq_eq_false_iff_ne.2 h0
      rw [d1]
      have hn0 : n ≠ 0 := h0
      have sg3 := sg
      clear sg
      obtain ⟨K, hK⟩ : ∃ K : Nat, K = if n < 0 then lowM m else n.toNat := ⟨_, rfl⟩
      have hK1 : 1 ≤ K := by rw [hK]; split <;> omega
      have hKb : K ≤ 255 := by rw [hK]; split <;> omega
      have hKO : (rO w.den (lowM m) K).nodes ≤ (repR w.den (lowM m) n).nodes := by
        unfold repR
        by_cases h1 : n < 0
        · rw [if_pos h1, if_neg (by omega), hK, if_pos h1]
          show _ ≤ 1 + ((repO w.den (lowM m) (lowM m)).getD .eps).nodes + _
          unfold rO; omega
        · rw [if_neg h1, if_neg hn0, hK, if_neg h1]; exact Nat.le_refl _
      (conv => whnf); refine VC.fa fl94_5 ?_
      (conv => whnf); refine ld1 (v := .int .i64 n) ct3 (by rw [(sg3.blk _ (lgR (_ :: _ :: rest) _ 0)).cell, Nat.zero_add]; exact rn_n _) trivial ?_
      (conv => whnf)
      refine VSeq.cut [8] (fun _ : Unit => [.int .i64 (K : Int)]) (fun _ G => StB B H0 G (reP bb a c ns root (rest ++ [pB 94 x (rnL (repN (i : Int) m n))]))) ?_ ?_
      · (conv => whnf)
        by_cases h1 : n < 0
        · have d1 : decide (n < 0) = true := decide_eq_true h1
          rw [d1]
          (conv => whnf)
          exact ⟨rfl, (), by rw [hK, if_pos h1], sg3⟩
        · have d1 : decide (n < 0) = false := decide_eq_false h1
          rw [d1]
          (conv => whnf)
          exact ⟨rfl, (), by rw [hK, if_neg h1, Int.toNat_of_nonneg (by omega)], sg3⟩
      rintro ⟨⟩ G4 junk4 sg4
      clear sg3
      (conv => whnf)
      refine VLoop.mk [9, 10] (fun y : Nat × Int => match y with | (k, out) => [.int .i64 out, .int .i64 (k : Int)]) (fun y G => match y with | (k, out) => k ≤ K ∧ UnI B H0 bb root (rest ++ [pB 94 x (rnL (repN (i : Int) m n))]) ns w.den (lowM m) k out G) (fun y _ => match y with | (k, _) => K - k) ?_ ?_
      · (conv => whnf)
        exact ⟨(0, -1), rfl, Nat.zero_le _, ⟨[], _, _, fun _ => ⟨rfl, rfl⟩, fun h => absurd h (by decide), by simpa using sg4⟩⟩
      · rintro ⟨k, out⟩ G junk5 ⟨hk, ⟨ms, a1, c1, hz0, hz1, sg⟩⟩
        clear sg4
        have hnext : k < K → (rO w.den (lowM m) (k + 1)).nodes ≤ (repR w.den (lowM m) n).nodes := fun h => by
          have := rO_mono w.den (lowM m) (k := k + 1) (by omega) (K - (k + 1))
          rw [show k + 1 + (K - (k + 1)) = K by omega] at this
          omega
        have hpart : k < K → (ns ++ ms).length + (if k < lowM m then w.den else maybeR w.den).nodes ≤ 4194304 := fun h => by
          have h1 := hnext h
          by_cases hk0 : k = 0
          · obtain ⟨rfl, -⟩ := hz0 hk0
            subst hk0
            rw [rO_one] at h1
            simp only [List.append_nil]; omega
          · obtain ⟨hm1, -, -, -⟩ := hz1 (by omega)
            rw [rO_next _ _ _ (by omega)] at h1
            simp only [ReM.nodes] at h1
            simp only [List.length_append]; omega
        (conv => whnf); refine VIte.mk (fun hz => ?_) (fun hz => ?_) <;> simp only [decide_eq_true_eq, decide_eq_false_iff_not] at hz
        · have hkK : k < K := by omega
          replace hnext := hnext hkK
          replace hpart := hpart hkK
          (conv => whnf); try (refine VSeq.run ?_)
          (conv => whnf); try (refine VSeq.run ?_)
          (conv => whnf)
          by_cases hkm : k < lowM m
          · have d1 : decide ((k : Int) < ((lowM m : Nat) : Int)) = true := decide_eq_true (by omega)
            rw [if_pos hkm] at hpart
            rw [d1]
            (conv => whnf); refine VC.fa fl94_2 ?_
            (conv => whnf); refine ld1 (v := .int .i64 (i : Int)) ct3 (by rw [(sg.blk _ (lgR (_ :: _ :: rest) _ 0)).cell, Nat.zero_add]; exact rn_l _) trivial ?_
            (conv => whnf); refine VCall.mk (IH B H0 _ bb _ _ (ns ++ ms) root (rest ++ [pB 94 x (rnL (repN (i : Int) m n))]) na nc i ds ws hR hd hB hw (by omega) sg) ?_
            rintro _ G1 ⟨ms2, a2, c2, hm2, hs2, rfl, ht2, st2⟩
            have p2 := nodes_pos (w.den)
            (conv => whnf); try (refine VSeq.run ?_)
            (conv => whnf)
            by_cases hk0 : k = 0
            · obtain ⟨rfl, rfl⟩ := hz0 hk0
              subst hk0
              (conv => whnf); rw [w64 (x := ((0 : Nat) : Int) + 1) (by omega) (by omega)]
              have e1 : rO w.den (lowM m) 1 = w.den := by rw [rO_one]; exact if_pos hkm
              refine ⟨rfl, (1, _), rfl, ⟨by omega, ⟨ms2, a2, c2, fun h => absurd h (by decide), fun _ => ?_, by simpa using st2⟩⟩, by show K - 1 < K - 0; omega⟩
              rw [e1]
              simp only [List.append_nil] at ht2
              exact ⟨hm2, hs2, by simp, ht2⟩
            · obtain ⟨hm1, hs1, rfl, ht1⟩ := hz1 (by omega)
              have hnx : rO w.den (lowM m) (k + 1) = .cat (rO w.den (lowM m) k) (w.den) := by rw [rO_next _ _ _ (by omega)]; rw [if_pos hkm]
              have hnn : (rO w.den (lowM m) (k + 1)).nodes = 1 + (rO w.den (lowM m) k).nodes + (w.den).nodes := by rw [hnx]; rfl
              have p1 := nodes_pos (rO w.den (lowM m) k)
              have hout : decide (((ns.length + ms.length - 1 : Nat) : Int) < 0) = false := decide_eq_false (by omega)
              try rw [hout]
              (conv => whnf); refine VCall.mk (put_g (op := 2) (x := ((ns.length + ms.length - 1 : Nat) : Int)) (y := (((ns ++ ms).length + ms2.length - 1 : Nat) : Int)) st2 (by unfold NumOk; omega) (num_nat (by omega)) (num_nat (by simp; omega)) (by simp; omega)) ?_
              rintro _ G2 ⟨rfl, a3, c3, st3⟩
              (conv => whnf); rw [w64 (x := (k : Int) + 1) (by omega) (by omega)]
              obtain ⟨ms3, a4, c4, g1, gs, g2, g3, g4⟩ := grp_bin (R := rO w.den (lowM m) (k + 1)) hm1 hs1 hm2 hs2 (fun h => by rw [hnx] at h; simp only [ReM.plain, Bool.and_eq_true] at h; exact ⟨h.1, h.2, by decide, by decide⟩) hnn (fun ns' d j k' h1 h2 h3 h4 => by rw [hnx]; exact ⟨d, j, k', h1, by rw [h2]; rfl, by rw [h2]; rfl, by rw [h2]; rfl, h3, h4⟩) ht1 ht2 st3
              have g2' : ((ns ++ ms ++ ms2).length : Int) = ((ns.length + ms3.length - 1 : Nat) : Int) := by injection g2
              refine ⟨rfl, (k + 1, ((ns ++ ms ++ ms2).length : Int)), rfl, ⟨by omega, ⟨ms3, a4, c4, fun h => absurd h (by omega), fun _ => ⟨g1, gs, g2', g3⟩, g4⟩⟩, by show K - (k + 1) < K - k; omega⟩
          · have d1 : decide ((k : Int) < ((lowM m : Nat) : Int)) = false := decide_eq_false (by omega)
            rw [if_neg hkm] at hpart
            rw [d1]
            (conv => whnf); refine VC.fa fl94_2 ?_
            (conv => whnf); refine ld1 (v := .int .i64 (i : Int)) ct3 (by rw [(sg.blk _ (lgR (_ :: _ :: rest) _ 0)).cell, Nat.zero_add]; exact rn_l _) trivial ?_
            (conv => whnf); refine VCall.mk (optional_c IH hR hd hB hw (by simp only [maybeR, ReM.nodes] at hpart; omega) sg) ?_
            rintro _ G1 ⟨ms2, a2, c2, hm2, hs2, rfl, ht2, st2⟩
            have p2 := nodes_pos (maybeR w.den)
            (conv => whnf); try (refine VSeq.run ?_)
            (conv => whnf)
            by_cases hk0 : k = 0
            · obtain ⟨rfl, rfl⟩ := hz0 hk0
              subst hk0
              (conv => whnf); rw [w64 (x := ((0 : Nat) : Int) + 1) (by omega) (by omega)]
              have e1 : rO w.den (lowM m) 1 = maybeR w.den := by rw [rO_one]; exact if_neg hkm
              refine ⟨rfl, (1, _), rfl, ⟨by omega, ⟨ms2, a2, c2, fun h => absurd h (by decide), fun _ => ?_, by simpa using st2⟩⟩, by show K - 1 < K - 0; omega⟩
              rw [e1]
              simp only [List.append_nil] at ht2
              exact ⟨hm2, hs2, by simp, ht2⟩
            · obtain ⟨hm1, hs1, rfl, ht1⟩ := hz1 (by omega)
              have hnx : rO w.den (lowM m) (k + 1) = .cat (rO w.den (lowM m) k) (maybeR w.den) := by rw [rO_next _ _ _ (by omega)]; rw [if_neg hkm]
              have hnn : (rO w.den (lowM m) (k + 1)).nodes = 1 + (rO w.den (lowM m) k).nodes + (maybeR w.den).nodes := by rw [hnx]; rfl
              have p1 := nodes_pos (rO w.den (lowM m) k)
              have hout : decide (((ns.length + ms.length - 1 : Nat) : Int) < 0) = false := decide_eq_false (by omega)
              try rw [hout]
              (conv => whnf); refine VCall.mk (put_g (op := 2) (x := ((ns.length + ms.length - 1 : Nat) : Int)) (y := (((ns ++ ms).length + ms2.length - 1 : Nat) : Int)) st2 (by unfold NumOk; omega) (num_nat (by omega)) (num_nat (by simp; omega)) (by simp; omega)) ?_
              rintro _ G2 ⟨rfl, a3, c3, st3⟩
              (conv => whnf); rw [w64 (x := (k : Int) + 1) (by omega) (by omega)]
              obtain ⟨ms3, a4, c4, g1, gs, g2, g3, g4⟩ := grp_bin (R := rO w.den (lowM m) (k + 1)) hm1 hs1 hm2 hs2 (fun h => by rw [hnx] at h; simp only [ReM.plain, Bool.and_eq_true] at h; exact ⟨h.1, h.2, by decide, by decide⟩) hnn (fun ns' d j k' h1 h2 h3 h4 => by rw [hnx]; exact ⟨d, j, k', h1, by rw [h2]; rfl, by rw [h2]; rfl, by rw [h2]; rfl, h3, h4⟩) ht1 ht2 st3
              have g2' : ((ns ++ ms ++ ms2).length : Int) = ((ns.length + ms3.length - 1 : Nat) : Int) := by injection g2
              refine ⟨rfl, (k + 1, ((ns ++ ms ++ ms2).length : Int)), rfl, ⟨by omega, ⟨ms3, a4, c4, fun h => absurd h (by omega), fun _ => ⟨g1, gs, g2', g3⟩, g4⟩⟩, by show K - (k + 1) < K - k; omega⟩
        · obtain rfl : k = K := by omega
          obtain ⟨hm1, hs1, rfl, ht1⟩ := hz1 (by omega)
          have p1 := nodes_pos (rO w.den (lowM m) k)
          (conv => whnf); try (refine VSeq.run ?_)
          (conv => whnf); refine VC.fa fl94_5 ?_
          (conv => whnf); refine ld1 (v := .int .i64 n) ct3 (by rw [(sg.blk _ (lgR (_ :: _ :: rest) _ 0)).cell, Nat.zero_add]; exact rn_n _) trivial ?_
          (conv => whnf)
          by_cases h1 : n < 0
          · have d1 : decide (n < 0) = true := decide_eq_true h1
            rw [if_pos h1] at hK
            have hrep : repR w.den (lowM m) n = .cat (rO w.den (lowM m) k) (.star w.den) := by unfold repR; rw [if_pos h1, if_neg (by omega), hK]; rfl
            rw [hrep] at hl ⊢
            simp only [ReM.nodes] at hl
            rw [d1]
            (conv => whnf); refine VC.fa fl94_2 ?_
            (conv => whnf); refine ld1 (v := .int .i64 (i : Int)) ct3 (by rw [(sg.blk _ (lgR (_ :: _ :: rest) _ 0)).cell, Nat.zero_add]; exact rn_l _) trivial ?_
            (conv => whnf); refine VCall.mk (IH B H0 _ bb _ _ (ns ++ ms) root (rest ++ [pB 94 x (rnL (repN (i : Int) m n))]) na nc i ds ws hR hd hB hw (by simp only [List.length_append]; omega) sg) ?_
            rintro _ G6 ⟨ms1, a6, c6, hm6, hs6, rfl, ht6, sg6⟩
            (conv => whnf); refine VCall.mk (put_g (op := 4) (x := (((ns ++ ms).length + ms1.length - 1 : Nat) : Int)) (y := 0) sg6 (by unfold NumOk; omega) (num_nat (by simp only [List.length_append]; omega)) (by unfold NumOk; omega) (by simp only [List.length_append]; omega)) ?_
            rintro _ G7 ⟨rfl, a7, c7, sg7⟩
            obtain ⟨ms2, a8, c8, g1, gs, g2, g3, g4⟩ := grp_star hm6 hs6 ht6 sg7
            have g2' : ((ns ++ ms ++ ms1).length : Int) = (((ns ++ ms).length + ms2.length - 1 : Nat) : Int) := by injection g2
            rw [g2']
            simp only [ReM.nodes] at g1
            (conv => whnf); refine VCall.mk (put_g (op := 2) (x := ((ns.length + ms.length - 1 : Nat) : Int)) (y := (((ns ++ ms).length + ms2.length - 1 : Nat) : Int)) g4 (by unfold NumOk; omega) (num_nat (by omega)) (num_nat (by simp only [List.length_append]; omega)) (by simp only [List.length_append]; omega)) ?_
            rintro _ G8 ⟨rfl, a9, c9, sg9⟩
            (conv => whnf)
            exact (grp_bin (R := .cat (rO w.den (lowM m) k) (.star w.den)) hm1 hs1 (r2 := .star w.den) (by simp only [ReM.nodes]; exact g1) gs (fun h => by simp only [ReM.plain, Bool.and_eq_true] at h ⊢; exact ⟨h.1, h.2, by decide, by decide⟩) rfl (fun ns' d j k' h1 h2 h3 h4 => ⟨d, j, k', h1, by rw [h2]; rfl, by rw [h2]; rfl, by rw [h2]; rfl, h3, h4⟩) ht1 g3 sg9).drop
          · have d1 : decide (n < 0) = false := decide_eq_false h1
            rw [if_neg h1] at hK
            have hrep : repR w.den (lowM m) n = rO w.den (lowM m) k := by unfold repR; rw [if_neg h1, if_neg hn0, hK]; rfl
            rw [hrep]
            rw [d1]
            (conv => whnf)
            exact GrP.drop ⟨ms, a1, c1, hm1, hs1, rfl, ht1, sg⟩
end
end Go.Proofs.YtlnmhfhdjnenoaaGreatDoor
/- The document's parser: grow: the walk. -/
set_option linter.unusedVariables false
set_option linter.unusedSimpArgs false
set_option maxRecDepth 100000
namespace Go.Proofs.YtlnmhfhdjnenoaaGreatDoor
open Go.VC Go.Lib
theorem grp_leaf {B : Nat → Prop} {H0 G : Heap} {bb : Nat} {root : Int} {rest : List Pc} {ns : List RnM} {d : RnM} {r : ReM} {a' : Option Addr} {c' : Nat} (h1 : r.nodes = 1) (hop : d.op ≠ 5 ∧ d.op ≠ 6) (hT : ∀ ns' k, ns'[k]? = some d → TreeAt ns' r k) (st : StB B H0 G (reP bb a' c' (ns ++ [d]) root rest)) :
    GrP B H0 bb root rest ns r (.int .i64 (ns.length : Int)) G :=
  ⟨[d], a', c', h1.symm, fun _ x hx => by rcases List.mem_singleton.1 hx with rfl; exact hop, by simp, hT _ _ (by simp), st⟩
set_option maxHeartbeats 32000000 in
theorem grow_c : ∀ w : RwM, GrSpec w := fun w => by
  induction w with
  | eps =>
    intro B H0 H bb c a ns root rest na nc i ds ws hR hd hB hw hl st
    obtain ⟨d, hdd, hnr⟩ := hR.at2 hw
    refine FnOk.of_vc Tryz.func36 rfl (Tryz.call36 _) ?_
    obtain rfl : d = binN 0 0 0 := hnr
    (conv => whnf); refine ixr (i := i) sl30 (hd.frame (st.old.mono fun k hk => hk)) hdd rfl ?_
    rintro b2 o2 c2 hS2 hc2 ⟨rfl, hok⟩
    (conv => whnf); refine ldN (cs := rnL (binN 0 0 0)) (by rw [rnL_len]; exact ag94) hc2 trivial ?_
    (conv => whnf); refine valloc _ rnZ rn_z rfl ?_
    intro x H3 hx hs3 hb3 ha3
    have st3 := st.box hx hs3 hb3 ha3
    (conv => whnf); refine stNB (cs := rnL (binN 0 0 0)) st3 _ (by rw [rnL_len]; rfl) (lgR (_ :: _ :: rest) _ 0) (by rw [rnL_len, rnZ_len]; decide) (rn_ones _) fun H4 st4 => ?_
    rw [splice_all (show (rnL (binN 0 0 0)).length = rnZ.length by rw [rnL_len, rnZ_len])] at st4
    replace st4 : StB B H0 H4 (reP bb a c ns root (rest ++ [pB 94 x (rnL (binN 0 0 0))])) := by
      have e := lsR (pB tRe bb (reL (.slice a ns.length c) root) :: pS tRn 94 a ns.length c ns :: rest) [pB 94 x rnZ] 0 (pB 94 x (rnL (binN 0 0 0)))
      rw [e] at st4
      exact st4
    have hx4 : Blk H4 x 94 (rnL (binN 0 0 0)) := st4.blk _ (lgR (_ :: _ :: rest) _ 0)
    (conv => whnf); refine VC.fa fl94_0 ?_
    (conv => whnf); refine ld1 (v := .int .i64 (binN 0 0 0).op) ct3 (by rw [hx4.cell]; exact rn_op _) trivial ?_
    (conv => whnf); try (refine VSeq.run ?_)
    (conv => whnf); try (refine VSeq.run ?_)
    have bl := (st4.blk 0 rfl).lt
    have f1 : bb ≠ x := fun e => st4.apart2 (i := 0) (j := (pB tRe bb (reL (.slice a ns.length c) root) :: pS tRn 94 a ns.length c ns :: rest).length + 0) rfl (lgR (_ :: _ :: rest) _ 0) (by simp) bb rfl e
    (conv => whnf); refine VDraw.heldZ (fun k => k = bb ∨ k = x) [14] (sq [0,1,2,3,4,5,6,7,8,9] (.f 10 (.f 11 (sq [12,13] (.f 14 .e))))) rfl (by kernel_rfl) ?_
    (conv => whnf); refine VC.fa fl32_0 ?_
    (conv => whnf); refine ld1 (v := .slice a ns.length c) ct30 (by rw [(st4.blk 0 rfl).cell]; rfl) (.inl rfl) ?_
    (conv => whnf); refine VC.fa fl94_0 ?_
    (conv => whnf); refine ld1 (v := .int .i64 (binN 0 0 0).op) ct3 (by rw [hx4.cell]; exact rn_op _) (.inr rfl) ?_
    (conv => whnf); refine VC.fa fl94_1 ?_
    (conv => whnf); refine ldN (cs := bitsL (0#256)) (by rw [bitsL_len]; exact ag92) (hx4.cells (o := 0 + 1) fun j v hv => rn_set (binN 0 0 0) j v hv) (.inr rfl) ?_
    (conv => whnf); refine rn_build1 0 (0#256) ?_
    (conv => whnf); refine vbuild1 sl30 (rnL (binN 0 0 0)) rfl (rnL_len _) (by decide) (by decide) ?_
    intro z H5 hz hs5 hb5 ha5
    have st5 := st4.skip hz ha5
    have hx5 : Blk H5 x 94 (rnL (binN 0 0 0)) := st5.blk _ (lgR (_ :: _ :: rest) _ 0)
    refine ⟨fun k hk => by
      rcases hk with hk | hk
      · rw [show k = bb from hk]; exact (st5.blk 0 rfl).trans (st4.blk 0 rfl).symm
      · rw [show k = x from hk]; exact hx5.trans hx4.symm, ?_⟩
    (conv => whnf); refine appO (ys := [binN 0 0 0]) st5 1 sl30 rfl (hb5.cells (o := 0) (cs := rnL (binN 0 0 0)) fun j v hv => by rw [Nat.zero_add]; exact hv) (Ty.reps_one ⟨rfl, hok⟩) rfl (fun u hu => List.all_eq_true.1 (rn_ones _) u hu) (by simp [RwM.den, ReM.nodes] at hl ⊢; omega) (by decide) fun a9 c9 H9 st9 ha9 => ?_
    have el : ns.length + [binN 0 0 0].length = (ns ++ [binN 0 0 0]).length := by simp
    rw [el] at st9 ⊢
    have hx9 : Blk H9 x 94 (rnL (binN 0 0 0)) := st9.blk _ (lgR (_ :: _ :: rest) _ 0)
    refine ⟨fun k hk => by
      rcases hk with hk | hk
      · rw [show k = bb from hk]; exact (st9.blk 0 rfl).trans (st4.blk 0 rfl).symm
      · rw [show k = x from hk]; exact hx9.trans hx4.symm, ?_⟩
    (conv => whnf); refine VC.fa fl32_0 ?_
    (conv => whnf); refine st1B st9 0 ct30 rfl (show 0 < 2 by decide) rfl fun H10 st10 => ?_
    (conv => whnf); refine VC.fa fl32_0 ?_
    (conv => whnf); refine ld1 (v := .slice a9 (ns ++ [binN 0 0 0]).length c9) ct30 (by rw [(st10.blk 0 rfl).cell]; rfl) trivial ?_
    have w1 : IntKind.wrap .i64 (((ns ++ [binN 0 0 0]).length : Int) - 1) = (ns.length : Int) := by
      simp only [RwM.den, ReM.nodes] at hl
      rw [List.length_append, List.length_singleton, w64 (by omega) (by omega)]; omega
    (conv => whnf); rw [w1]
    (conv => whnf)
    replace st10 : StB B H0 H10 (reP bb a9 c9 (ns ++ [binN 0 0 0]) root (rest ++ [pB 94 x (rnL (binN 0 0 0))])) := st10
    exact (grp_leaf (r := .eps) rfl ⟨show (0 : Int) ≠ 5 by decide, show (0 : Int) ≠ 6 by decide⟩ (fun ns' k h => ⟨_, h, rfl⟩) st10).drop
  | cls s =>
    intro B H0 H bb c a ns root rest na nc i ds ws hR hd hB hw hl st
    obtain ⟨d, hdd, hnr⟩ := hR.at2 hw
    refine FnOk.of_vc Tryz.func36 rfl (Tryz.call36 _) ?_
    obtain rfl : d = clsD s := hnr
    (conv => whnf); refine ixr (i := i) sl30 (hd.frame (st.old.mono fun k hk => hk)) hdd rfl ?_
    rintro b2 o2 c2 hS2 hc2 ⟨rfl, hok⟩
    (conv => whnf); refine ldN (cs := rnL (clsD s)) (by rw [rnL_len]; exact ag94) hc2 trivial ?_
    (conv => whnf); refine valloc _ rnZ rn_z rfl ?_
    intro x H3 hx hs3 hb3 ha3
    have st3 := st.box hx hs3 hb3 ha3
    (conv => whnf); refine stNB (cs := rnL (clsD s)) st3 _ (by rw [rnL_len]; rfl) (lgR (_ :: _ :: rest) _ 0) (by rw [rnL_len, rnZ_len]; decide) (rn_ones _) fun H4 st4 => ?_
    rw [splice_all (show (rnL (clsD s)).length = rnZ.length by rw [rnL_len, rnZ_len])] at st4
    replace st4 : StB B H0 H4 (reP bb a c ns root (rest ++ [pB 94 x (rnL (clsD s))])) := by
      have e := lsR (pB tRe bb (reL (.slice a ns.length c) root) :: pS tRn 94 a ns.length c ns :: rest) [pB 94 x rnZ] 0 (pB 94 x (rnL (clsD s)))
      rw [e] at st4
      exact st4
    have hx4 : Blk H4 x 94 (rnL (clsD s)) := st4.blk _ (lgR (_ :: _ :: rest) _ 0)
    (conv => whnf); refine VC.fa fl94_0 ?_
    (conv => whnf); refine ld1 (v := .int .i64 (clsD s).op) ct3 (by rw [hx4.cell]; exact rn_op _) trivial ?_
    (conv => whnf); try (refine VSeq.run ?_)
    (conv => whnf); try (refine VSeq.run ?_)
    have bl := (st4.blk 0 rfl).lt
    have f1 : bb ≠ x := fun e => st4.apart2 (i := 0) (j := (pB tRe bb (reL (.slice a ns.length c) root) :: pS tRn 94 a ns.length c ns :: rest).length + 0) rfl (lgR (_ :: _ :: rest) _ 0) (by simp) bb rfl e
    (conv => whnf); refine VDraw.heldZ (fun k => k = bb ∨ k = x) [14] (sq [0,1,2,3,4,5,6,7,8,9] (.f 10 (.f 11 (sq [12,13] (.f 14 .e))))) rfl (by kernel_rfl) ?_
    (conv => whnf); refine VC.fa fl32_0 ?_
    (conv => whnf); refine ld1 (v := .slice a ns.length c) ct30 (by rw [(st4.blk 0 rfl).cell]; rfl) (.inl rfl) ?_
    (conv => whnf); refine VC.fa fl94_0 ?_
    (conv => whnf); refine ld1 (v := .int .i64 (clsD s).op) ct3 (by rw [hx4.cell]; exact rn_op _) (.inr rfl) ?_
    (conv => whnf); refine VC.fa fl94_1 ?_
    (conv => whnf); refine ldN (cs := bitsL (s)) (by rw [bitsL_len]; exact ag92) (hx4.cells (o := 0 + 1) fun j v hv => rn_set (clsD s) j v hv) (.inr rfl) ?_
    (conv => whnf); refine rn_build1 1 (s) ?_
    (conv => whnf); refine vbuild1 sl30 (rnL (clsD s)) rfl (rnL_len _) (by decide) (by decide) ?_
    intro z H5 hz hs5 hb5 ha5
    have st5 := st4.skip hz ha5
    have hx5 : Blk H5 x 94 (rnL (clsD s)) := st5.blk _ (lgR (_ :: _ :: rest) _ 0)
    refine ⟨fun k hk => by
      rcases hk with hk | hk
      · rw [show k = bb from hk]; exact (st5.blk 0 rfl).trans (st4.blk 0 rfl).symm
      · rw [show k = x from hk]; exact hx5.trans hx4.symm, ?_⟩
    (conv => whnf); refine appO (ys := [clsD s]) st5 1 sl30 rfl (hb5.cells (o := 0) (cs := rnL (clsD s)) fun j v hv => by rw [Nat.zero_add]; exact hv) (Ty.reps_one ⟨rfl, hok⟩) rfl (fun u hu => List.all_eq_true.1 (rn_ones _) u hu) (by simp [RwM.den, ReM.nodes] at hl ⊢; omega) (by decide) fun a9 c9 H9 st9 ha9 => ?_
    have el : ns.length + [clsD s].length = (ns ++ [clsD s]).length := by simp
    rw [el] at st9 ⊢
    have hx9 : Blk H9 x 94 (rnL (clsD s)) := st9.blk _ (lgR (_ :: _ :: rest) _ 0)
    refine ⟨fun k hk => by
      rcases hk with hk | hk
      · rw [show k = bb from hk]; exact (st9.blk 0 rfl).trans (st4.blk 0 rfl).symm
      · rw [show k = x from hk]; exact hx9.trans hx4.symm, ?_⟩
    (conv => whnf); refine VC.fa fl32_0 ?_
    (conv => whnf); refine st1B st9 0 ct30 rfl (show 0 < 2 by decide) rfl fun H10 st10 => ?_
    (conv => whnf); refine VC.fa fl32_0 ?_
    (conv => whnf); refine ld1 (v := .slice a9 (ns ++ [clsD s]).length c9) ct30 (by rw [(st10.blk 0 rfl).cell]; rfl) trivial ?_
    have w1 : IntKind.wrap .i64 (((ns ++ [clsD s]).length : Int) - 1) = (ns.length : Int) := by
      simp only [RwM.den, ReM.nodes] at hl
      rw [List.length_append, List.length_singleton, w64 (by omega) (by omega)]; omega
    (conv => whnf); rw [w1]
    (conv => whnf)
    replace st10 : StB B H0 H10 (reP bb a9 c9 (ns ++ [clsD s]) root (rest ++ [pB 94 x (rnL (clsD s))])) := st10
    exact (grp_leaf (r := .cls s) rfl ⟨show (1 : Int) ≠ 5 by decide, show (1 : Int) ≠ 6 by decide⟩ (fun ns' k h => ⟨_, h, rfl, rfl⟩) st10).drop
  | cat w1 w2 ih1 ih2 =>
    intro B H0 H bb c a ns root rest na nc i ds ws hR hd hB hw hl st
    obtain ⟨d, hdd, hnr⟩ := hR.at2 hw
    refine FnOk.of_vc Tryz.func36 rfl (Tryz.call36 _) ?_
    obtain ⟨i1, i2, rfl, hi1, hi2⟩ := hnr
    simp only [RwM.den, ReM.nodes] at hl
    (conv => whnf); refine ixr (i := i) sl30 (hd.frame (st.old.mono fun k hk => hk)) hdd rfl ?_
    rintro b2 o2 c2 hS2 hc2 ⟨rfl, hok⟩
    (conv => whnf); refine ldN (cs := rnL (binN 2 (i1 : Int) (i2 : Int))) (by rw [rnL_len]; exact ag94) hc2 trivial ?_
    (conv => whnf); refine valloc _ rnZ rn_z rfl ?_
    intro x H3 hx hs3 hb3 ha3
    have st3 := st.box hx hs3 hb3 ha3
    (conv => whnf); refine stNB (cs := rnL (binN 2 (i1 : Int) (i2 : Int))) st3 _ (by rw [rnL_len]; rfl) (lgR (_ :: _ :: rest) _ 0) (by rw [rnL_len, rnZ_len]; decide) (rn_ones _) fun H4 st4 => ?_
    rw [splice_all (show (rnL (binN 2 (i1 : Int) (i2 : Int))).length = rnZ.length by rw [rnL_len, rnZ_len])] at st4
    replace st4 : StB B H0 H4 (reP bb a c ns root (rest ++ [pB 94 x (rnL (binN 2 (i1 : Int) (i2 : Int)))])) := by
      have e := lsR (pB tRe bb (reL (.slice a ns.length c) root) :: pS tRn 94 a ns.length c ns :: rest) [pB 94 x rnZ] 0 (pB 94 x (rnL (binN 2 (i1 : Int) (i2 : Int))))
      rw [e] at st4
      exact st4
    have hx4 : Blk H4 x 94 (rnL (binN 2 (i1 : Int) (i2 : Int))) := st4.blk _ (lgR (_ :: _ :: rest) _ 0)
    (conv => whnf); refine VC.fa fl94_0 ?_
    (conv => whnf); refine ld1 (v := .int .i64 (binN 2 (i1 : Int) (i2 : Int)).op) ct3 (by rw [hx4.cell]; exact rn_op _) trivial ?_
    (conv => whnf); try (refine VSeq.run ?_)
    (conv => whnf); try (refine VSeq.run ?_)
    (conv => whnf); refine VC.fa fl94_2 ?_
    (conv => whnf); refine ld1 (v := .int .i64 (i1 : Int)) ct3 (by rw [(st4.blk _ (lgR (_ :: _ :: rest) _ 0)).cell, Nat.zero_add]; exact rn_l _) trivial ?_
    (conv => whnf); refine VCall.mk (ih1 B H0 _ bb _ _ ns root (rest ++ [pB 94 x (rnL (binN 2 (i1 : Int) (i2 : Int)))]) na nc i1 ds ws hR hd hB hi1 (by omega) st4) ?_
    rintro _ G1 ⟨ms1, a1, c1, hm1, hs1, rfl, ht1, sg1⟩
    (conv => whnf); refine VC.fa fl94_3 ?_
    (conv => whnf); refine ld1 (v := .int .i64 (i2 : Int)) ct3 (by rw [(sg1.blk _ (lgR (_ :: _ :: rest) _ 0)).cell, Nat.zero_add]; exact rn_r _) trivial ?_
    (conv => whnf); refine VCall.mk (ih2 B H0 _ bb _ _ (ns ++ ms1) root (rest ++ [pB 94 x (rnL (binN 2 (i1 : Int) (i2 : Int)))]) na nc i2 ds ws hR hd hB hi2 (by simp only [List.length_append]; omega) sg1) ?_
    rintro _ G2 ⟨ms2, a2, c2, hm2, hs2, rfl, ht2, sg2⟩
    have p1 := nodes_pos w1.den
    have p2 := nodes_pos w2.den
    (conv => whnf); refine VC.fa fl94_0 ?_
    (conv => whnf); refine ld1 (v := .int .i64 (binN 2 (i1 : Int) (i2 : Int)).op) ct3 (by rw [(sg2.blk _ (lgR (_ :: _ :: rest) _ 0)).cell]; exact rn_op _) trivial ?_
    (conv => whnf); refine VCall.mk (put_g (op := 2) (x := ((ns.length + ms1.length - 1 : Nat) : Int)) (y := (((ns ++ ms1).length + ms2.length - 1 : Nat) : Int)) sg2 (by unfold NumOk; omega) (num_nat (by omega)) (num_nat (by simp only [List.length_append]; omega)) (by simp only [List.length_append]; omega)) ?_
    rintro _ G3 ⟨rfl, a3, c3, sg3⟩
    (conv => whnf)
    exact (grp_bin (R := .cat w1.den w2.den) hm1 hs1 hm2 hs2 (fun h => by simp only [ReM.plain, Bool.and_eq_true] at h; exact ⟨h.1, h.2, by decide, by decide⟩) rfl (fun ns' d j k' h1 h2 h3 h4 => ⟨d, j, k', h1, by rw [h2]; rfl, by rw [h2]; rfl, by rw [h2]; rfl, h3, h4⟩) ht1 ht2 sg3).drop
  | alt w1 w2 ih1 ih2 =>
    intro B H0 H bb c a ns root rest na nc i ds ws hR hd hB hw hl st
    obtain ⟨d, hdd, hnr⟩ := hR.at2 hw
    refine FnOk.of_vc Tryz.func36 rfl (Tryz.call36 _) ?_
    obtain ⟨i1, i2, rfl, hi1, hi2⟩ := hnr
    simp only [RwM.den, ReM.nodes] at hl
    (conv => whnf); refine ixr (i := i) sl30 (hd.frame (st.old.mono fun k hk => hk)) hdd rfl ?_
    rintro b2 o2 c2 hS2 hc2 ⟨rfl, hok⟩
    (conv => whnf); refine ldN (cs := rnL (binN 3 (i1 : Int) (i2 : Int))) (by rw [rnL_len]; exact ag94) hc2 trivial ?_
    (conv => whnf); refine valloc _ rnZ rn_z rfl ?_
    intro x H3 hx hs3 hb3 ha3
    have st3 := st.box hx hs3 hb3 ha3
    (conv => whnf); refine stNB (cs := rnL (binN 3 (i1 : Int) (i2 : Int))) st3 _ (by rw [rnL_len]; rfl) (lgR (_ :: _ :: rest) _ 0) (by rw [rnL_len, rnZ_len]; decide) (rn_ones _) fun H4 st4 => ?_
    rw [splice_all (show (rnL (binN 3 (i1 : Int) (i2 : Int))).length = rnZ.length by rw [rnL_len, rnZ_len])] at st4
    replace st4 : StB B H0 H4 (reP bb a c ns root (rest ++ [pB 94 x (rnL (binN 3 (i1 : Int) (i2 : Int)))])) := by
      have e := lsR (pB tRe bb (reL (.slice a ns.length c) root) :: pS tRn 94 a ns.length c ns :: rest) [pB 94 x rnZ] 0 (pB 94 x (rnL (binN 3 (i1 : Int) (i2 : Int))))
      rw [e] at st4
      exact st4
    have hx4 : Blk H4 x 94 (rnL (binN 3 (i1 : Int) (i2 : Int))) := st4.blk _ (lgR (_ :: _ :: rest) _ 0)
    (conv => whnf); refine VC.fa fl94_0 ?_
    (conv => whnf); refine ld1 (v := .int .i64 (binN 3 (i1 : Int) (i2 : Int)).op) ct3 (by rw [hx4.cell]; exact rn_op _) trivial ?_
    (conv => whnf); try (refine VSeq.run ?_)
    (conv => whnf); try (refine VSeq.run ?_)
    (conv => whnf); refine VC.fa fl94_2 ?_
    (conv => whnf); refine ld1 (v := .int .i64 (i1 : Int)) ct3 (by rw [(st4.blk _ (lgR (_ :: _ :: rest) _ 0)).cell, Nat.zero_add]; exact rn_l _) trivial ?_
    (conv => whnf); refine VCall.mk (ih1 B H0 _ bb _ _ ns root (rest ++ [pB 94 x (rnL (binN 3 (i1 : Int) (i2 : Int)))]) na nc i1 ds ws hR hd hB hi1 (by omega) st4) ?_
    rintro _ G1 ⟨ms1, a1, c1, hm1, hs1, rfl, ht1, sg1⟩
    (conv => whnf); refine VC.fa fl94_3 ?_
    (conv => whnf); refine ld1 (v := .int .i64 (i2 : Int)) ct3 (by rw [(sg1.blk _ (lgR (_ :: _ :: rest) _ 0)).cell, Nat.zero_add]; exact rn_r _) trivial ?_
    (conv => whnf); refine VCall.mk (ih2 B H0 _ bb _ _ (ns ++ ms1) root (rest ++ [pB 94 x (rnL (binN 3 (i1 : Int) (i2 : Int)))]) na nc i2 ds ws hR hd hB hi2 (by simp only [List.length_append]; omega) sg1) ?_
    rintro _ G2 ⟨ms2, a2, c2, hm2, hs2, rfl, ht2, sg2⟩
    have p1 := nodes_pos w1.den
    have p2 := nodes_pos w2.den
    (conv => whnf); refine VC.fa fl94_0 ?_
    (conv => whnf); refine ld1 (v := .int .i64 (binN 3 (i1 : Int) (i2 : Int)).op) ct3 (by rw [(sg2.blk _ (lgR (_ :: _ :: rest) _ 0)).cell]; exact rn_op _) trivial ?_
    (conv => whnf); refine VCall.mk (put_g (op := 3) (x := ((ns.length + ms1.length - 1 : Nat) : Int)) (y := (((ns ++ ms1).length + ms2.length - 1 : Nat) : Int)) sg2 (by unfold NumOk; omega) (num_nat (by omega)) (num_nat (by simp only [List.length_append]; omega)) (by simp only [List.length_append]; omega)) ?_
    rintro _ G3 ⟨rfl, a3, c3, sg3⟩
    (conv => whnf)
    exact (grp_bin (R := .alt w1.den w2.den) hm1 hs1 hm2 hs2 (fun h => by simp only [ReM.plain, Bool.and_eq_true] at h; exact ⟨h.1, h.2, by decide, by decide⟩) rfl (fun ns' d j k' h1 h2 h3 h4 => ⟨d, j, k', h1, by rw [h2]; rfl, by rw [h2]; rfl, by rw [h2]; rfl, h3, h4⟩) ht1 ht2 sg3).drop
  | and_ w1 w2 ih1 ih2 =>
    intro B H0 H bb c a ns root rest na nc i ds ws hR hd hB hw hl st
    obtain ⟨d, hdd, hnr⟩ := hR.at2 hw
    refine FnOk.of_vc Tryz.func36 rfl (Tryz.call36 _) ?_
    obtain ⟨i1, i2, rfl, hi1, hi2⟩ := hnr
    simp only [RwM.den, ReM.nodes] at hl
    (conv => whnf); refine ixr (i := i) sl30 (hd.frame (st.old.mono fun k hk => hk)) hdd rfl ?_
    rintro b2 o2 c2 hS2 hc2 ⟨rfl, hok⟩
    (conv => whnf); refine ldN (cs := rnL (binN 5 (i1 : Int) (i2 : Int))) (by rw [rnL_len]; exact ag94) hc2 trivial ?_
    (conv => whnf); refine valloc _ rnZ rn_z rfl ?_
    intro x H3 hx hs3 hb3 ha3
    have st3 := st.box hx hs3 hb3 ha3
    (conv => whnf); refine stNB (cs := rnL (binN 5 (i1 : Int) (i2 : Int))) st3 _ (by rw [rnL_len]; rfl) (lgR (_ :: _ :: rest) _ 0) (by rw [rnL_len, rnZ_len]; decide) (rn_ones _) fun H4 st4 => ?_
    rw [splice_all (show (rnL (binN 5 (i1 : Int) (i2 : Int))).length = rnZ.length by rw [rnL_len, rnZ_len])] at st4
    replace st4 : StB B H0 H4 (reP bb a c ns root (rest ++ [pB 94 x (rnL (binN 5 (i1 : Int) (i2 : Int)))])) := by
      have e := lsR (pB tRe bb (reL (.slice a ns.length c) root) :: pS tRn 94 a ns.length c ns :: rest) [pB 94 x rnZ] 0 (pB 94 x (rnL (binN 5 (i1 : Int) (i2 : Int))))
      rw [e] at st4
      exact st4
    have hx4 : Blk H4 x 94 (rnL (binN 5 (i1 : Int) (i2 : Int))) := st4.blk _ (lgR (_ :: _ :: rest) _ 0)
    (conv => whnf); refine VC.fa fl94_0 ?_
    (conv => whnf); refine ld1 (v := .int .i64 (binN 5 (i1 : Int) (i2 : Int)).op) ct3 (by rw [hx4.cell]; exact rn_op _) trivial ?_
    (conv => whnf); try (refine VSeq.run ?_)
    (conv => whnf); try (refine VSeq.run ?_)
    (conv => whnf); refine VC.fa fl94_2 ?_
    (conv => whnf); refine ld1 (v := .int .i64 (i1 : Int)) ct3 (by rw [(st4.blk _ (lgR (_ :: _ :: rest) _ 0)).cell, Nat.zero_add]; exact rn_l _) trivial ?_
    (conv => whnf); refine VCall.mk (ih1 B H0 _ bb _ _ ns root (rest ++ [pB 94 x (rnL (binN 5 (i1 : Int) (i2 : Int)))]) na nc i1 ds ws hR hd hB hi1 (by omega) st4) ?_
    rintro _ G1 ⟨ms1, a1, c1, hm1, hs1, rfl, ht1, sg1⟩
    (conv => whnf); refine VC.fa fl94_3 ?_
    (conv => whnf); refine ld1 (v := .int .i64 (i2 : Int)) ct3 (by rw [(sg1.blk _ (lgR (_ :: _ :: rest) _ 0)).cell, Nat.zero_add]; exact rn_r _) trivial ?_
    (conv => whnf); refine VCall.mk (ih2 B H0 _ bb _ _ (ns ++ ms1) root (rest ++ [pB 94 x (rnL (binN 5 (i1 : Int) (i2 : Int)))]) na nc i2 ds ws hR hd hB hi2 (by simp only [List.length_append]; omega) sg1) ?_
    rintro _ G2 ⟨ms2, a2, c2, hm2, hs2, rfl, ht2, sg2⟩
    have p1 := nodes_pos w1.den
    have p2 := nodes_pos w2.den
    (conv => whnf); refine VC.fa fl94_0 ?_
    (conv => whnf); refine ld1 (v := .int .i64 (binN 5 (i1 : Int) (i2 : Int)).op) ct3 (by rw [(sg2.blk _ (lgR (_ :: _ :: rest) _ 0)).cell]; exact rn_op _) trivial ?_
    (conv => whnf); refine VCall.mk (put_g (op := 5) (x := ((ns.length + ms1.length - 1 : Nat) : Int)) (y := (((ns ++ ms1).length + ms2.length - 1 : Nat) : Int)) sg2 (by unfold NumOk; omega) (num_nat (by omega)) (num_nat (by simp only [List.length_append]; omega)) (by simp only [List.length_append]; omega)) ?_
    rintro _ G3 ⟨rfl, a3, c3, sg3⟩
    (conv => whnf)
    exact (grp_bin (R := .and_ w1.den w2.den) hm1 hs1 hm2 hs2 (fun h => by cases h) rfl (fun ns' d j k' h1 h2 h3 h4 => ⟨d, j, k', h1, by rw [h2]; rfl, by rw [h2]; rfl, by rw [h2]; rfl, h3, h4⟩) ht1 ht2 sg3).drop
  | minus w1 w2 ih1 ih2 =>
    intro B H0 H bb c a ns root rest na nc i ds ws hR hd hB hw hl st
    obtain ⟨d, hdd, hnr⟩ := hR.at2 hw
    refine FnOk.of_vc Tryz.func36 rfl (Tryz.call36 _) ?_
    obtain ⟨i1, i2, rfl, hi1, hi2⟩ := hnr
    simp only [RwM.den, ReM.nodes] at hl
    (conv => whnf); refine ixr (i := i) sl30 (hd.frame (st.old.mono fun k hk => hk)) hdd rfl ?_
    rintro b2 o2 c2 hS2 hc2 ⟨rfl, hok⟩
    (conv => whnf); refine ldN (cs := rnL (binN 6 (i1 : Int) (i2 : Int))) (by rw [rnL_len]; exact ag94) hc2 trivial ?_
    (conv => whnf); refine valloc _ rnZ rn_z rfl ?_
    intro x H3 hx hs3 hb3 ha3
    have st3 := st.box hx hs3 hb3 ha3
    (conv => whnf); refine stNB (cs := rnL (binN 6 (i1 : Int) (i2 : Int))) st3 _ (by rw [rnL_len]; rfl) (lgR (_ :: _ :: rest) _ 0) (by rw [rnL_len, rnZ_len]; decide) (rn_ones _) fun H4 st4 => ?_
    rw [splice_all (show (rnL (binN 6 (i1 : Int) (i2 : Int))).length = rnZ.length by rw [rnL_len, rnZ_len])] at st4
    replace st4 : StB B H0 H4 (reP bb a c ns root (rest ++ [pB 94 x (rnL (binN 6 (i1 : Int) (i2 : Int)))])) := by
      have e := lsR (pB tRe bb (reL (.slice a ns.length c) root) :: pS tRn 94 a ns.length c ns :: rest) [pB 94 x rnZ] 0 (pB 94 x (rnL (binN 6 (i1 : Int) (i2 : Int))))
      rw [e] at st4
      exact st4
    have hx4 : Blk H4 x 94 (rnL (binN 6 (i1 : Int) (i2 : Int))) := st4.blk _ (lgR (_ :: _ :: rest) _ 0)
    (conv => whnf); refine VC.fa fl94_0 ?_
    (conv => whnf); refine ld1 (v := .int .i64 (binN 6 (i1 : Int) (i2 : Int)).op) ct3 (by rw [hx4.cell]; exact rn_op _) trivial ?_
    (conv => whnf); try (refine VSeq.run ?_)
    (conv => whnf); try (refine VSeq.run ?_)
    (conv => whnf); refine VC.fa fl94_2 ?_
    (conv => whnf); refine ld1 (v := .int .i64 (i1 : Int)) ct3 (by rw [(st4.blk _ (lgR (_ :: _ :: rest) _ 0)).cell, Nat.zero_add]; exact rn_l _) trivial ?_
    (conv => whnf); refine VCall.mk (ih1 B H0 _ bb _ _ ns root (rest ++ [pB 94 x (rnL (binN 6 (i1 : Int) (i2 : Int)))]) na nc i1 ds ws hR hd hB hi1 (by omega) st4) ?_
    rintro _ G1 ⟨ms1, a1, c1, hm1, hs1, rfl, ht1, sg1⟩
    (conv => whnf); refine VC.fa fl94_3 ?_
    (conv => whnf); refine ld1 (v := .int .i64 (i2 : Int)) ct3 (by rw [(sg1.blk _ (lgR (_ :: _ :: rest) _ 0)).cell, Nat.zero_add]; exact rn_r _) trivial ?_
    (conv => whnf); refine VCall.mk (ih2 B H0 _ bb _ _ (ns ++ ms1) root (rest ++ [pB 94 x (rnL (binN 6 (i1 : Int) (i2 : Int)))]) na nc i2 ds ws hR hd hB hi2 (by simp only [List.length_append]; omega) sg1) ?_
    rintro _ G2 ⟨ms2, a2, c2, hm2, hs2, rfl, ht2, sg2⟩
    have p1 := nodes_pos w1.den
    have p2 := nodes_pos w2.den
    (conv => whnf); refine VC.fa fl94_0 ?_
    (conv => whnf); refine ld1 (v := .int .i64 (binN 6 (i1 : Int) (i2 : Int)).op) ct3 (by rw [(sg2.blk _ (lgR (_ :: _ :: rest) _ 0)).cell]; exact rn_op _) trivial ?_
    (conv => whnf); refine VCall.mk (put_g (op := 6) (x := ((ns.length + ms1.length - 1 : Nat) : Int)) (y := (((ns ++ ms1).length + ms2.length - 1 : Nat) : Int)) sg2 (by unfold NumOk; omega) (num_nat (by omega)) (num_nat (by simp only [List.length_append]; omega)) (by simp only [List.length_append]; omega)) ?_
    rintro _ G3 ⟨rfl, a3, c3, sg3⟩
    (conv => whnf)
    exact (grp_bin (R := .minus w1.den w2.den) hm1 hs1 hm2 hs2 (fun h => by cases h) rfl (fun ns' d j k' h1 h2 h3 h4 => ⟨d, j, k', h1, by rw [h2]; rfl, by rw [h2]; rfl, by rw [h2]; rfl, h3, h4⟩) ht1 ht2 sg3).drop
  | rep w m n ih =>
    intro B H0 H bb c a ns root rest na nc i ds ws hR hd hB hw hl st
    obtain ⟨d, hdd, hnr⟩ := hR.at2 hw
    refine FnOk.of_vc Tryz.func36 rfl (Tryz.call36 _) ?_
    obtain ⟨i1, rfl, hi1, hrk⟩ := hnr
    (conv => whnf); refine ixr (i := i) sl30 (hd.frame (st.old.mono fun k hk => hk)) hdd rfl ?_
    rintro b2 o2 c2 hS2 hc2 ⟨rfl, hok⟩
    (conv => whnf); refine ldN (cs := rnL (repN (i1 : Int) m n)) (by rw [rnL_len]; exact ag94) hc2 trivial ?_
    (conv => whnf); refine valloc _ rnZ rn_z rfl ?_
    intro x H3 hx hs3 hb3 ha3
    have st3 := st.box hx hs3 hb3 ha3
    (conv => whnf); refine stNB (cs := rnL (repN (i1 : Int) m n)) st3 _ (by rw [rnL_len]; rfl) (lgR (_ :: _ :: rest) _ 0) (by rw [rnL_len, rnZ_len]; decide) (rn_ones _) fun H4 st4 => ?_
    rw [splice_all (show (rnL (repN (i1 : Int) m n)).length = rnZ.length by rw [rnL_len, rnZ_len])] at st4
    replace st4 : StB B H0 H4 (reP bb a c ns root (rest ++ [pB 94 x (rnL (repN (i1 : Int) m n))])) := by
      have e := lsR (pB tRe bb (reL (.slice a ns.length c) root) :: pS tRn 94 a ns.length c ns :: rest) [pB 94 x rnZ] 0 (pB 94 x (rnL (repN (i1 : Int) m n)))
      rw [e] at st4
      exact st4
    have hx4 : Blk H4 x 94 (rnL (repN (i1 : Int) m n)) := st4.blk _ (lgR (_ :: _ :: rest) _ 0)
    (conv => whnf); refine VC.fa fl94_0 ?_
    (conv => whnf); refine ld1 (v := .int .i64 (repN (i1 : Int) m n).op) ct3 (by rw [hx4.cell]; exact rn_op _) trivial ?_
    (conv => whnf); try (refine VSeq.run ?_)
    (conv => whnf); try (refine VSeq.run ?_)
    (conv => whnf); refine ldN (cs := rnL (repN (i1 : Int) m n)) (by rw [rnL_len]; exact ag94) (hx4.cells (o := 0) fun j v hv => by rw [Nat.zero_add]; exact hv) trivial ?_
    (conv => whnf); refine VCall.mk (unroll_c ih hR hd hB hi1 hrk hl st4) ?_
    intro v G1 h
    (conv => whnf)
    exact GrP.drop h
end Go.Proofs.YtlnmhfhdjnenoaaGreatDoor
/- The document's Parse: the walk. -/
set_option linter.unusedVariables false
set_option linter.unusedSimpArgs false
set_option maxRecDepth 100000
namespace Go.Proofs.YtlnmhfhdjnenoaaGreatDoor
open Go.VC Go.Lib
section
variable {op a b m n m' n' : Value} {bits : List Value}
theorem rs_m (h : bits.length = 256) : splice (rnCells op bits a b m n) 259 [m'] = rnCells op bits a b m' n := by
  unfold splice rnCells
  have e1 : ([op] ++ (bits ++ [a, b, m, n])).take 259 = [op] ++ (bits ++ [a, b]) := by
    rw [show ([op] ++ (bits ++ [a, b, m, n])).take (258 + 1) = op :: (bits ++ [a, b, m, n]).take 258 from rfl, show (258 : Nat) = bits.length + 2 by omega, List.take_length_add_append]; rfl
  have e2 : ([op] ++ (bits ++ [a, b, m, n])).drop (259 + 1) = [n] := by
    rw [show ([op] ++ (bits ++ [a, b, m, n])).drop (259 + 1) = (bits ++ [a, b, m, n]).drop 259 from rfl, show (259 : Nat) = bits.length + 3 by omega, List.drop_length_add_append]; rfl
  rw [e1, show 259 + [m'].length = 259 + 1 from rfl, e2]
  simp
theorem rs_n (h : bits.length = 256) : splice (rnCells op bits a b m n) 260 [n'] = rnCells op bits a b m n' := by
  unfold splice rnCells
  have e1 : ([op] ++ (bits ++ [a, b, m, n])).take 260 = [op] ++ (bits ++ [a, b, m]) := by
    rw [show ([op] ++ (bits ++ [a, b, m, n])).take (259 + 1) = op :: (bits ++ [a, b, m, n]).take 259 from rfl, show (259 : Nat) = bits.length + 3 by omega, List.take_length_add_append]; rfl
  have e2 : ([op] ++ (bits ++ [a, b, m, n])).drop (260 + 1) = [] := by
    rw [show ([op] ++ (bits ++ [a, b, m, n])).drop (260 + 1) = (bits ++ [a, b, m, n]).drop 260 from rfl, show (260 : Nat) = bits.length + 4 by omega, List.drop_length_add_append]; rfl
  rw [e1, show 260 + [n'].length = 260 + 1 from rfl, e2]
  simp
end
theorem rn_build4 (x y m n : Int) {S : Nat → Prop} {H : Heap} {K : Value → Prop} (k : K (.agg (rnL ⟨x, 0#256, y, 0, m, n⟩).toArray)) :
    VDet Tryz.prog (Instr.build 94 [(0, .int .i64 x), (2, .int .i64 y), (4, .int .i64 m), (5, .int .i64 n)].toArray) S H K := by
  refine vbuildS Tryz.underlying94 rfl (.agg rnZ.toArray) rn_z (rnL ⟨x, 0#256, y, 0, m, n⟩) ?_ k
  have hr : (List.replicate 256 (Value.bool false)).length = 256 := List.length_replicate
  refine (fill_cons (i := 0) (off := 0) (size := 1) (by kernel_rfl) rfl (by show _ ≤ rnZ.toArray.size; rw [List.size_toArray, rnZ_len]; decide)).trans ?_
  have e0 : splice (Value.agg rnZ.toArray).cells.toList 0 (Value.int .i64 x).cells.toList = rnCells (.int .i64 x) (List.replicate 256 (.bool false)) (.int .i64 0) (.int .i64 0) (.int .i64 0) (.int .i64 0) := rs_op
  rw [e0]
  refine (fill_cons (i := 2) (off := 257) (size := 1) (by kernel_rfl) rfl (by rw [List.size_toArray, rnCells_len hr]; decide)).trans ?_
  rw [List.toList_toArray, show (Value.int IntKind.i64 y).cells.toList = [Value.int .i64 y] from rfl, rs_l hr]
  refine (fill_cons (i := 4) (off := 259) (size := 1) (by kernel_rfl) rfl (by rw [List.size_toArray, rnCells_len hr]; decide)).trans ?_
  rw [List.toList_toArray, show (Value.int IntKind.i64 m).cells.toList = [Value.int .i64 m] from rfl, rs_m hr]
  refine (fill_cons (i := 5) (off := 260) (size := 1) (by kernel_rfl) rfl (by rw [List.size_toArray, rnCells_len hr]; decide)).trans ?_
  rw [List.toList_toArray, show (Value.int IntKind.i64 n).cells.toList = [Value.int .i64 n] from rfl, rs_n hr]
  unfold rnL
  rw [show (RnM.mk x 0#256 y 0 m n).set = 0#256 from rfl, bitsL_zero]
  rfl
theorem state_z : (Tryz.prog.info? 83).bind (·.zero) = some (.agg #[.slice none 0 0, .slice none 0 0]) := by kernel_rfl
/-! ### the stack of frames -/
inductive StkR (ws : List RwM) : List FrD → List AF → Prop
  | nil : StkR ws [] []
  | cons {fr : List FrD} {fs : List AF} {g : FrD} {a : AF} : StkR ws fr fs → FrR ws g a → StkR ws (fr ++ [g]) (a :: fs)
theorem StkR.more {ws us : List RwM} {fr : List FrD} {fs : List AF} (h : StkR ws fr fs) : StkR (ws ++ us) fr fs := by
  induction h with
  | nil => exact .nil
  | cons _ g ih => exact .cons ih g.more
theorem StkR.len {ws : List RwM} {fr : List FrD} {fs : List AF} (h : StkR ws fr fs) : fr.length = fs.length := by
  induction h with
  | nil => rfl
  | cons _ g ih => simp [ih]
theorem IxR.num {ws : List RwM} {x : Int} {o : Option ReM} (h : IxR ws x o) (hl : ws.length ≤ 16777216) : NumOk x := by
  cases o with
  | none => rw [show x = -1 from h]; exact num_m1
  | some r =>
    obtain ⟨j, w, rfl, h2, -⟩ := h
    have := (List.getElem?_eq_some_iff.1 h2).1
    exact num_len (by omega)
theorem FrR.nums {ws : List RwM} {f : FrD} {a : AF} (h : FrR ws f a) (hl : ws.length ≤ 16777216) : FrN f := ⟨h.alt.num hl, h.meet.num hl, h.row.num hl, h.factor.num hl⟩
theorem bracesM_code {t : ByteArray} {i c p : Nat} (h : bracesM t i = .inl (c, p)) : c ≠ 0 := by
  unfold bracesM at h
  split at h
  · split at h
    · rename_i e hu
      cases h
      unfold upM at hu
      split at hu
      · split at hu
        · cases hu
        · split at hu
          · cases hu
          · cases hu; decide
      · cases hu
    · unfold endM at h
      split at h
      · split at h
        · cases h; decide
        · cases h
      · cases h; decide
  · cases h; decide
/-- What Parse of the document answers. -/
def PdAns (t : ByteArray) (H : Heap) (v : Value) (H' : Heap) : Prop := match parseM t with
  | .inl (c, p) => v = .tuple #[.agg reZ.toArray, .int .i64 (c : Int), .int .i64 p]
  | .inr r => ∃ ns na nc root, v = .tuple #[.agg (reL (.slice na ns.length nc) ((root : Nat) : Int)).toArray, .int .i64 0, .int .i64 0] ∧ TreeAt ns r root ∧ ns.length = r.nodes ∧ NoSg r ns ∧ SlO tRn none_ H' H.size 94 (.slice na ns.length nc) ns
structure DocI (H : Heap) (t : ByteArray) (q2 sb i : Nat) (G : Heap) : Prop where
  ex : ∃ (f : AF) (fs : List AF) (ds : List RnM) (ws : List RwM) (fr : List FrD) (fD : FrD) (na : Option Addr) (nc fb fc n : Nat), prun t ⟨0, openF (-1), []⟩ = prun t ⟨i, f, fs⟩ ∧ i ≤ t.size ∧ Raw ds ws ∧ FrR ws fD f ∧ StkR ws fr fs ∧ ds.length ≤ 4 * i ∧ fs.length ≤ 1000 ∧
    StB (Old H) H G (stP sb fb na nc fc n ds (fr ++ [fD]) [pB tRe q2 reZ])
theorem open_r (ws : List RwM) (p : Int) : FrR ws ⟨p, -1, -1, 0, -1, -1⟩ (openF p) := ⟨rfl, rfl, rfl, rfl, rfl, rfl⟩
theorem ld_reZ {H : Heap} {b : Nat} (h : Blk H b tRe reZ) : Cells H b 0 reZ := h.cells (fun j v hv => by rw [Nat.zero_add]; exact hv)
theorem postB_cases {c : Nat} (h : postB c = true) : c = 42 ∨ c = 43 ∨ c = 63 ∨ c = 123 := by
  apply Classical.byContradiction
  intro hn
  rw [postB_no (by omega) (by omega) (by omega) (by omega)] at h
  cases h
set_option maxHeartbeats 64000000 in
theorem dparse_c (t : ByteArray) (H : Heap) : FnOk Tryz.prog 8 #[.string t] H fun v H' => Agr (Old H) H H' ∧ PdAns t H v H' := by
  refine FnOk.of_vcL Tryz.func8 rfl (Tryz.call8 _) ?_
  (conv => whnf); refine valloc _ reZ re_z rfl ?_
  intro q2 H1 hq1 hs1 hb1 ha1
  have st1 := (St.nil H).box hq1 hs1 hb1 ha1
  by_cases hbig : 1048576 < t.size
  · have d1 : decide (1048576 < (t.size : Int)) = true := decide_eq_true (by omega)
    have hpM : parseM t = .inl (1, 0) := by unfold parseM; rw [if_pos hbig]
    (conv => whnf); rw [d1]
    (conv => whnf); refine vbuildS Tryz.underlying32 rfl _ re_z reZ rfl ?_
    (conv => whnf); refine stNB (cs := reZ) st1 0 rfl rfl (Nat.le_refl _) rfl fun Gz sz => ?_
    have ez : splice reZ 0 reZ = reZ := splAll rfl
    rw [ez] at sz
    (conv => whnf); refine ldN (cs := reZ) ag32 (ld_reZ (sz.blk 0 rfl)) trivial ?_
    refine ⟨sz.old, ?_⟩
    unfold PdAns
    rw [hpM]
    rfl
  have d1 : decide (1048576 < (t.size : Int)) = false := decide_eq_false (by omega)
  have hpM : parseM t = prun t ⟨0, openF (-1), []⟩ := by unfold parseM; rw [if_neg hbig]
  (conv => whnf); rw [d1]
  (conv => whnf); refine vbuildS Tryz.underlying83 rfl (.agg #[.slice none 0 0, .slice none 0 0]) state_z [.slice none 0 0, .slice none 0 0] rfl ?_
  (conv => whnf); refine vbox [.slice none 0 0, .slice none 0 0] rfl ?_
  intro sb H2 hq2 hs2 hb2 ha2
  have st2 : StB (Old H) H H2 [pB tSt sb [.slice none 0 0, .slice none 0 0], pS tRn 94 none 0 0 [], pS tFr 85 none 0 0 [], pB tRe q2 reZ] := (((st1.box hq2 hs2 hb2 ha2).nils tRn 94).nils tFr 85).pick [1, 2, 3, 0] (by decide)
  (conv => whnf); refine VDraw.heldZ (fun k => k = sb) [10] (sq [0,1,2,3,4] (.f 5 (.f 6 (.f 7 (sq [8,9] (.f 10 .e)))))) rfl (by kernel_rfl) ?_
  (conv => whnf); refine VC.fa fl83_1 ?_
  (conv => whnf); refine ld1 (v := .slice none 0 0) ct81 (by rw [(st2.blk 0 rfl).cell]; rfl) rfl ?_
  (conv => whnf); refine VCall.mk (open_c (-1) H2) ?_
  rintro _ H3 ⟨rfl, ha3⟩
  have st3 := st2.call ha3
  refine ⟨fun k hk => by rw [show k = sb from hk]; exact (st3.blk 0 rfl).trans (st2.blk 0 rfl).symm, ?_⟩
  (conv => whnf); refine vbuild1 sl81 (frO (-1)) rfl rfl (by decide) (by decide) ?_
  intro z H4 hz hs4 hb4 ha4
  have st4 := st3.skip hz ha4
  refine ⟨fun k hk => by rw [show k = sb from hk]; exact (st4.blk 0 rfl).trans (st2.blk 0 rfl).symm, ?_⟩
  (conv => whnf); refine appO (ys := [(⟨-1, -1, -1, 0, -1, -1⟩ : FrD)]) (ds := frO (-1)) st4 2 sl81 rfl (hb4.cells (o := 0) (cs := frO (-1)) fun j v hv => by rw [Nat.zero_add]; exact hv) (Ty.reps_one (T := tFr) rfl) rfl (fun u hu => List.all_eq_true.1 (fr_ones ⟨-1, -1, -1, 0, -1, -1⟩) u hu) (by decide) (by decide) fun a5 fc5 H5 st5 ha5 => ?_
  refine ⟨fun k hk => by rw [show k = sb from hk]; exact (st5.blk 0 rfl).trans (st2.blk 0 rfl).symm, ?_⟩
  obtain ⟨fb5, rfl⟩ := st5.adr 2 rfl (by decide)
  (conv => whnf); refine VC.fa fl83_1 ?_
  (conv => whnf); refine st1B st5 0 ct81 rfl (by show _ < (2 : Nat); decide) rfl fun H6 st6 => ?_
  replace st6 : StB (Old H) H H6 (stP sb fb5 none 0 fc5 1 [] ([] ++ [(⟨-1, -1, -1, 0, -1, -1⟩ : FrD)]) [pB tRe q2 reZ]) := st6
  clear st1 st2 st3 st4 st5
  (conv => whnf)
  refine VLoop.mk [6] (fun i : Nat => [.int .i64 (i : Int)]) (fun i G => DocI H t q2 sb i G) (fun i _ => t.size - i) ?_ ?_
  · (conv => whnf)
    exact ⟨0, rfl, ⟨openF (-1), [], [], [], [], _, none, 0, fb5, fc5, 1, rfl, Nat.zero_le _, .nil, open_r [] (-1), .nil, Nat.zero_le _, Nat.zero_le _, st6⟩⟩
  · rintro i G junk ⟨f, fs, ds, ws, fr, fD, na, nc, fb, fc, n, hpr, hi, hR, hF, hK, hld, hlf, sg⟩
    clear st6 d1
    have hrun : prun t ⟨0, openF (-1), []⟩ = prun t ⟨i, f, fs⟩ := hpr
    have hlen := fr_lt sg
    have hkl := hK.len
    have hws := hR.len
    have hN := hF.nums (by omega)
    (conv => whnf); refine VIte.mk (fun hz => ?_) (fun hz => ?_) <;> simp only [decide_eq_true_eq, decide_eq_false_iff_not] at hz
    · have hit : i < t.size := by omega
      (conv => whnf); try (refine VSeq.run ?_)
      (conv => whnf); refine vbt hit ?_
      (conv => whnf); refine VDraw.lex rfl (by kernel_rfl) ?_
      (conv => whnf); refine VC.fa fl83_1 ?_
      (conv => whnf); refine ld1 (v := .slice (some ⟨fb, 0, none⟩) n fc) ct81 (by rw [(sg.blk 0 rfl).cell]; rfl) trivial ?_
      (conv => whnf); refine VC.fa fl83_1 ?_
      (conv => whnf); refine ld1 (v := .slice (some ⟨fb, 0, none⟩) n fc) ct81 (by rw [(sg.blk 0 rfl).cell]; rfl) trivial ?_
      (conv => whnf); rw [w64 (x := (n : Int) - 1) (by omega) (by omega)]
      (conv => whnf); refine ixE (j := fr.length) sl81 sg 2 rfl (by simp) (by omega) ?_
      have ER : ∀ {e : Nat × Nat}, pstep t ⟨i, f, fs⟩ = .inl e → prun t ⟨0, openF (-1), []⟩ = .inl (liftE e) := fun h => hrun.trans (prun_err hit h)
      have GO : ∀ {s : RdS}, pstep t ⟨i, f, fs⟩ = .inr s → prun t ⟨0, openF (-1), []⟩ = prun t s := fun h => hrun.trans (prun_step hit h)
      (conv => whnf); refine pures (postfix_p (bt t i) G) fun G1 hg1 => ?_
      replace sg := sg.call hg1
      by_cases hpost : postB (bt t i) = true
      · rw [hpost]
        (conv => whnf); refine VC.fa fl85_5 ?_
        (conv => whnf); refine ld1 (v := .int .i64 fD.factor) ct3 (fr_cell sg (k := 5) rfl) trivial ?_
        cases hfac : f.factor with
        | none =>
          have hx := hF.factor
          rw [hfac] at hx
          have d2 : decide (fD.factor < 0) = true := decide_eq_true (by rw [show fD.factor = -1 from hx]; decide)
          (conv => whnf); rw [d2]
          (conv => whnf); refine vbuildS Tryz.underlying32 rfl _ re_z reZ rfl ?_
          (conv => whnf); refine stNB (cs := reZ) sg 3 rfl rfl (Nat.le_refl _) rfl fun Gz sz => ?_
          have ez : splice reZ 0 reZ = reZ := splAll rfl
          rw [ez] at sz
          (conv => whnf); refine ldN (cs := reZ) ag32 (ld_reZ (sz.blk 3 rfl)) trivial ?_
          refine ⟨sz.old, ?_⟩
          unfold PdAns
          rw [hpM, ER (pstep_post0 hpost hfac)]
          rfl
        | some a =>
          have hx := hF.factor
          rw [hfac] at hx
          obtain ⟨jx, wx, ex1, ex2, ex3⟩ := hx
          have d2 : decide (fD.factor < 0) = false := decide_eq_false (by omega)
          (conv => whnf); rw [d2]
          (conv => whnf); rw [w64 (x := (i : Int) + 1) (by omega) (by omega)]
          rcases postB_cases hpost with hc | hc | hc | hc
          · rw [hc]
            (conv => whnf); try (refine VSeq.run ?_)
            (conv => whnf); try (refine VSeq.run ?_)
            (conv => whnf); try (refine VSeq.run ?_)
            have f1 : fb ≠ sb := fun e => sg.apart2 (i := 0) (j := 2) rfl rfl (by decide) sb rfl (.inl ⟨0, n, fc, by rw [e]⟩)
            have f2 : ¬ slB (.slice na ds.length nc) fb := fun e => sg.apart2 (i := 1) (j := 2) rfl rfl (by decide) fb (.inl e) (.inl ⟨0, n, fc, rfl⟩)
            have f3 := sg.ltE 2 rfl
            (conv => whnf); refine VDraw.heldZ (fun k => k = sb ∨ k = fb) [16] (sq [0,1,2,3,4,5,6,7,8,9,10,11] (.f 12 (.f 13 (sq [14,15] (.f 16 .e))))) rfl (by kernel_rfl) ?_
            (conv => whnf); refine VC.fa fl83_0 ?_
            (conv => whnf); refine ld1 (v := .slice na ds.length nc) ct30 (by rw [(sg.blk 0 rfl).cell]; rfl) (.inl rfl) ?_
            (conv => whnf); refine VC.fa fl85_5 ?_
            (conv => whnf); refine ld1 (v := .int .i64 fD.factor) ct3 (fr_cell sg (k := 5) rfl) (.inr rfl) ?_
            (conv => whnf); refine rn_build4 7 fD.factor (0) (-1) ?_
            (conv => whnf); refine vbuild1 sl30 (rnL (repN fD.factor (0) (-1))) rfl (rnL_len _) (by decide) (by decide) ?_
            intro zz G4 hz hs4 hb4 ha4
            have sg4 := sg.skip hz ha4
            have az : Agr (fun k => k = fb) _ G4 := fun k hk => ha4 k (by have e1 : k = fb := hk; have : zz = _ := hz; omega)
            refine ⟨fun k hk => by
              rcases hk with hk | hk
              · rw [show k = sb from hk]; exact (sg4.blk 0 rfl).trans (sg.blk 0 rfl).symm
              · exact az k hk, ?_⟩
            (conv => whnf); refine appG (ys := [repN fD.factor (0) (-1)]) sg4 1 sl30 rfl (hb4.cells (o := 0) (cs := rnL (repN fD.factor (0) (-1))) fun j v hv => by rw [Nat.zero_add]; exact hv) (Ty.reps_one ⟨rfl, num_in (x := 7) (by unfold NumOk; omega), num_in hN.factor, num_in (x := 0) (by unfold NumOk; omega), num_in (x := 0) (by unfold NumOk; omega), num_in (x := -1) (by unfold NumOk; omega)⟩) rfl (fun u hu => List.all_eq_true.1 (rn_ones _) u hu) (by simp [maxLen]; omega) (by simp; omega) fun a5 c5 G5 sg5 ha5 => ?_
            have el : ds.length + [repN fD.factor (0) (-1)].length = (ds ++ [repN fD.factor (0) (-1)]).length := by simp
            rw [el] at sg5 ⊢
            refine ⟨fun k hk => by
              rcases hk with hk | hk
              · rw [show k = sb from hk]; exact (sg5.blk 0 rfl).trans (sg.blk 0 rfl).symm
              · exact (ha5 k (by rw [show k = fb from hk]; exact ⟨sg4.ltE 2 rfl, f2⟩)).trans (az k hk), ?_⟩
            (conv => whnf); refine VC.fa fl83_0 ?_
            (conv => whnf); refine st1B sg5 0 ct30 rfl (by show _ < (2 : Nat); decide) rfl fun G6 sg6 => ?_
            replace sg6 : StB (Old H) H G6 (stP sb fb a5 c5 fc n (ds ++ [repN fD.factor (0) (-1)]) (fr ++ [fD]) [pB tRe q2 reZ]) := sg6
            (conv => whnf); refine VC.fa fl83_0 ?_
            (conv => whnf); refine ld1 (v := .slice a5 (ds ++ [repN fD.factor (0) (-1)]).length c5) ct30 (by rw [(sg6.blk 0 rfl).cell]; rfl) trivial ?_
            have w1 : IntKind.wrap .i64 (((ds ++ [repN fD.factor (0) (-1)]).length : Int) - 1) = (ds.length : Int) := by
              rw [List.length_append, List.length_singleton, w64 (by omega) (by omega)]; omega
            (conv => whnf); rw [w1]
            (conv => whnf); refine VC.fa fl85_5 ?_
            (conv => whnf); refine st1F (k := 5) (f' := { fD with factor := (ds.length : Int) }) sg6 ct3 (by decide) rfl rfl fun G7 sg7 ja => ?_
            (conv => whnf)
            refine ⟨rfl, i + 1, rfl, ⟨_, fs, ds ++ [repN fD.factor (0) (-1)], ws ++ [.rep wx (0) (-1)], fr, { fD with factor := (ds.length : Int) }, _, _, _, _, n, GO (pstep_post hfac hpost (by unfold postM; rw [if_pos hc])), by omega, hR.add (w := .rep wx (0) (-1)) ⟨jx, by rw [ex1], ex2, .inr (by omega)⟩, ⟨hF.place, hF.alt.more, hF.meet.more, hF.sign, hF.row.more, IxR.new hR (by show repR wx.den (lowM (0)) (-1) = _; rw [ex3, show lowM 0 = 0 from rfl])⟩, hK.more, by simp only [List.length_append, List.length_singleton]; omega, hlf, sg7⟩, by omega⟩
          · rw [hc]
            (conv => whnf); try (refine VSeq.run ?_)
            (conv => whnf); try (refine VSeq.run ?_)
            (conv => whnf); try (refine VSeq.run ?_)
            have f1 : fb ≠ sb := fun e => sg.apart2 (i := 0) (j := 2) rfl rfl (by decide) sb rfl (.inl ⟨0, n, fc, by rw [e]⟩)
            have f2 : ¬ slB (.slice na ds.length nc) fb := fun e => sg.apart2 (i := 1) (j := 2) rfl rfl (by decide) fb (.inl e) (.inl ⟨0, n, fc, rfl⟩)
            have f3 := sg.ltE 2 rfl
            (conv => whnf); refine VDraw.heldZ (fun k => k = sb ∨ k = fb) [16] (sq [0,1,2,3,4,5,6,7,8,9,10,11] (.f 12 (.f 13 (sq [14,15] (.f 16 .e))))) rfl (by kernel_rfl) ?_
            (conv => whnf); refine VC.fa fl83_0 ?_
            (conv => whnf); refine ld1 (v := .slice na ds.length nc) ct30 (by rw [(sg.blk 0 rfl).cell]; rfl) (.inl rfl) ?_
            (conv => whnf); refine VC.fa fl85_5 ?_
            (conv => whnf); refine ld1 (v := .int .i64 fD.factor) ct3 (fr_cell sg (k := 5) rfl) (.inr rfl) ?_
            (conv => whnf); refine rn_build4 7 fD.factor (-2) (-1) ?_
            (conv => whnf); refine vbuild1 sl30 (rnL (repN fD.factor (-2) (-1))) rfl (rnL_len _) (by decide) (by decide) ?_
            intro zz G4 hz hs4 hb4 ha4
            have sg4 := sg.skip hz ha4
            have az : Agr (fun k => k = fb) _ G4 := fun k hk => ha4 k (by have e1 : k = fb := hk; have : zz = _ := hz; omega)
            refine ⟨fun k hk => by
              rcases hk with hk | hk
              · rw [show k = sb from hk]; exact (sg4.blk 0 rfl).trans (sg.blk 0 rfl).symm
              · exact az k hk, ?_⟩
            (conv => whnf); refine appG (ys := [repN fD.factor (-2) (-1)]) sg4 1 sl30 rfl (hb4.cells (o := 0) (cs := rnL (repN fD.factor (-2) (-1))) fun j v hv => by rw [Nat.zero_add]; exact hv) (Ty.reps_one ⟨rfl, num_in (x := 7) (by unfold NumOk; omega), num_in hN.factor, num_in (x := 0) (by unfold NumOk; omega), num_in (x := -2) (by unfold NumOk; omega), num_in (x := -1) (by unfold NumOk; omega)⟩) rfl (fun u hu => List.all_eq_true.1 (rn_ones _) u hu) (by simp [maxLen]; omega) (by simp; omega) fun a5 c5 G5 sg5 ha5 => ?_
            have el : ds.length + [repN fD.factor (-2) (-1)].length = (ds ++ [repN fD.factor (-2) (-1)]).length := by simp
            rw [el] at sg5 ⊢
            refine ⟨fun k hk => by
              rcases hk with hk | hk
              · rw [show k = sb from hk]; exact (sg5.blk 0 rfl).trans (sg.blk 0 rfl).symm
              · exact (ha5 k (by rw [show k = fb from hk]; exact ⟨sg4.ltE 2 rfl, f2⟩)).trans (az k hk), ?_⟩
            (conv => whnf); refine VC.fa fl83_0 ?_
            (conv => whnf); refine st1B sg5 0 ct30 rfl (by show _ < (2 : Nat); decide) rfl fun G6 sg6 => ?_
            replace sg6 : StB (Old H) H G6 (stP sb fb a5 c5 fc n (ds ++ [repN fD.factor (-2) (-1)]) (fr ++ [fD]) [pB tRe q2 reZ]) := sg6
            (conv => whnf); refine VC.fa fl83_0 ?_
            (conv => whnf); refine ld1 (v := .slice a5 (ds ++ [repN fD.factor (-2) (-1)]).length c5) ct30 (by rw [(sg6.blk 0 rfl).cell]; rfl) trivial ?_
            have w1 : IntKind.wrap .i64 (((ds ++ [repN fD.factor (-2) (-1)]).length : Int) - 1) = (ds.length : Int) := by
              rw [List.length_append, List.length_singleton, w64 (by omega) (by omega)]; omega
            (conv => whnf); rw [w1]
            (conv => whnf); refine VC.fa fl85_5 ?_
            (conv => whnf); refine st1F (k := 5) (f' := { fD with factor := (ds.length : Int) }) sg6 ct3 (by decide) rfl rfl fun G7 sg7 ja => ?_
            (conv => whnf)
            refine ⟨rfl, i + 1, rfl, ⟨_, fs, ds ++ [repN fD.factor (-2) (-1)], ws ++ [.rep wx (-2) (-1)], fr, { fD with factor := (ds.length : Int) }, _, _, _, _, n, GO (pstep_post hfac hpost (by unfold postM; rw [if_neg (by omega), if_pos hc])), by omega, hR.add (w := .rep wx (-2) (-1)) ⟨jx, by rw [ex1], ex2, .inl ⟨rfl, rfl⟩⟩, ⟨hF.place, hF.alt.more, hF.meet.more, hF.sign, hF.row.more, IxR.new hR (by show repR wx.den (lowM (-2)) (-1) = _; rw [ex3, show lowM (-2) = 1 from rfl])⟩, hK.more, by simp only [List.length_append, List.length_singleton]; omega, hlf, sg7⟩, by omega⟩
          · rw [hc]
            (conv => whnf); try (refine VSeq.run ?_)
            (conv => whnf); try (refine VSeq.run ?_)
            (conv => whnf); try (refine VSeq.run ?_)
            have f1 : fb ≠ sb := fun e => sg.apart2 (i := 0) (j := 2) rfl rfl (by decide) sb rfl (.inl ⟨0, n, fc, by rw [e]⟩)
            have f2 : ¬ slB (.slice na ds.length nc) fb := fun e => sg.apart2 (i := 1) (j := 2) rfl rfl (by decide) fb (.inl e) (.inl ⟨0, n, fc, rfl⟩)
            have f3 := sg.ltE 2 rfl
            (conv => whnf); refine VDraw.heldZ (fun k => k = sb ∨ k = fb) [16] (sq [0,1,2,3,4,5,6,7,8,9,10,11] (.f 12 (.f 13 (sq [14,15] (.f 16 .e))))) rfl (by kernel_rfl) ?_
            (conv => whnf); refine VC.fa fl83_0 ?_
            (conv => whnf); refine ld1 (v := .slice na ds.length nc) ct30 (by rw [(sg.blk 0 rfl).cell]; rfl) (.inl rfl) ?_
            (conv => whnf); refine VC.fa fl85_5 ?_
            (conv => whnf); refine ld1 (v := .int .i64 fD.factor) ct3 (fr_cell sg (k := 5) rfl) (.inr rfl) ?_
            (conv => whnf); refine rn_build4 7 fD.factor (0) (1) ?_
            (conv => whnf); refine vbuild1 sl30 (rnL (repN fD.factor (0) (1))) rfl (rnL_len _) (by decide) (by decide) ?_
            intro zz G4 hz hs4 hb4 ha4
            have sg4 := sg.skip hz ha4
            have az : Agr (fun k => k = fb) _ G4 := fun k hk => ha4 k (by have e1 : k = fb := hk; have : zz = _ := hz; omega)
            refine ⟨fun k hk => by
              rcases hk with hk | hk
              · rw [show k = sb from hk]; exact (sg4.blk 0 rfl).trans (sg.blk 0 rfl).symm
              · exact az k hk, ?_⟩
            (conv => whnf); refine appG (ys := [repN fD.factor (0) (1)]) sg4 1 sl30 rfl (hb4.cells (o := 0) (cs := rnL (repN fD.factor (0) (1))) fun j v hv => by rw [Nat.zero_add]; exact hv) (Ty.reps_one ⟨rfl, num_in (x := 7) (by unfold NumOk; omega), num_in hN.factor, num_in (x := 0) (by unfold NumOk; omega), num_in (x := 0) (by unfold NumOk; omega), num_in (x := 1) (by unfold NumOk; omega)⟩) rfl (fun u hu => List.all_eq_true.1 (rn_ones _) u hu) (by simp [maxLen]; omega) (by simp; omega) fun a5 c5 G5 sg5 ha5 => ?_
            have el : ds.length + [repN fD.factor (0) (1)].length = (ds ++ [repN fD.factor (0) (1)]).length := by simp
            rw [el] at sg5 ⊢
            refine ⟨fun k hk => by
              rcases hk with hk | hk
              · rw [show k = sb from hk]; exact (sg5.blk 0 rfl).trans (sg.blk 0 rfl).symm
              · exact (ha5 k (by rw [show k = fb from hk]; exact ⟨sg4.ltE 2 rfl, f2⟩)).trans (az k hk), ?_⟩
            (conv => whnf); refine VC.fa fl83_0 ?_
            (conv => whnf); refine st1B sg5 0 ct30 rfl (by show _ < (2 : Nat); decide) rfl fun G6 sg6 => ?_
            replace sg6 : StB (Old H) H G6 (stP sb fb a5 c5 fc n (ds ++ [repN fD.factor (0) (1)]) (fr ++ [fD]) [pB tRe q2 reZ]) := sg6
            (conv => whnf); refine VC.fa fl83_0 ?_
            (conv => whnf); refine ld1 (v := .slice a5 (ds ++ [repN fD.factor (0) (1)]).length c5) ct30 (by rw [(sg6.blk 0 rfl).cell]; rfl) trivial ?_
            have w1 : IntKind.wrap .i64 (((ds ++ [repN fD.factor (0) (1)]).length : Int) - 1) = (ds.length : Int) := by
              rw [List.length_append, List.length_singleton, w64 (by omega) (by omega)]; omega
            (conv => whnf); rw [w1]
            (conv => whnf); refine VC.fa fl85_5 ?_
            (conv => whnf); refine st1F (k := 5) (f' := { fD with factor := (ds.length : Int) }) sg6 ct3 (by decide) rfl rfl fun G7 sg7 ja => ?_
            (conv => whnf)
            refine ⟨rfl, i + 1, rfl, ⟨_, fs, ds ++ [repN fD.factor (0) (1)], ws ++ [.rep wx (0) (1)], fr, { fD with factor := (ds.length : Int) }, _, _, _, _, n, GO (pstep_post hfac hpost (by unfold postM; rw [if_neg (by omega), if_neg (by omega), if_pos hc])), by omega, hR.add (w := .rep wx (0) (1)) ⟨jx, by rw [ex1], ex2, .inr (by omega)⟩, ⟨hF.place, hF.alt.more, hF.meet.more, hF.sign, hF.row.more, IxR.new hR (by show repR wx.den (lowM (0)) (1) = _; rw [ex3, show lowM 0 = 0 from rfl])⟩, hK.more, by simp only [List.length_append, List.length_singleton]; omega, hlf, sg7⟩, by omega⟩
          · rw [hc]
            (conv => whnf); try (refine VSeq.run ?_)
            (conv => whnf); try (refine VSeq.run ?_)
            (conv => whnf); try (refine VSeq.run ?_)
            (conv => whnf); refine VCall.mk (dbraces_c (i := i) (by omega) hit) ?_
            rintro v G2 ⟨hag, hBr⟩
            replace sg := sg.call hag
            unfold BrD at hBr
            cases hbm : bracesM t i with
            | inl e =>
              obtain ⟨c, p⟩ := e
              rw [hbm] at hBr
              replace hBr : v = .tuple #[.int .i64 0, .int .i64 0, .int .i64 0, .int .i64 (c : Int), .int .i64 (p : Int)] := hBr
              subst hBr
              have hcz := bracesM_code hbm
              have d3 : ((c : Int) != 0) = true := bne_iff_ne.2 (by omega)
              (conv => whnf); rw [d3]
              (conv => whnf); refine vbuildS Tryz.underlying32 rfl _ re_z reZ rfl ?_
              (conv => whnf); refine stNB (cs := reZ) sg 3 rfl rfl (Nat.le_refl _) rfl fun Gz sz => ?_
              have ez : splice reZ 0 reZ = reZ := splAll rfl
              rw [ez] at sz
              (conv => whnf); refine ldN (cs := reZ) ag32 (ld_reZ (sz.blk 3 rfl)) trivial ?_
              refine ⟨sz.old, ?_⟩
              unfold PdAns
              rw [hpM, ER (pstep_postE hfac hpost (by unfold postM; rw [if_neg (by omega), if_neg (by omega), if_neg (by omega), hbm]))]
              rfl
            | inr y =>
              obtain ⟨m, nn, kk⟩ := y
              rw [hbm] at hBr
              replace hBr : v = .tuple #[.int .i64 (m : Int), .int .i64 nn, .int .i64 (kk : Int), .int .i64 0, .int .i64 0] := hBr
              subst hBr
              have hok := bracesM_ok hbm
              obtain ⟨o1, o2, o3, o4, o5, o6⟩ := hok
              have hlow : lowM (m : Int) = m := by unfold lowM; rw [if_neg (by omega), Int.toNat_natCast]
              (conv => whnf)
              have f1 : fb ≠ sb := fun e => sg.apart2 (i := 0) (j := 2) rfl rfl (by decide) sb rfl (.inl ⟨0, n, fc, by rw [e]⟩)
              have f2 : ¬ slB (.slice na ds.length nc) fb := fun e => sg.apart2 (i := 1) (j := 2) rfl rfl (by decide) fb (.inl e) (.inl ⟨0, n, fc, rfl⟩)
              have f3 := sg.ltE 2 rfl
              (conv => whnf); refine VDraw.heldZ (fun k => k = sb ∨ k = fb) [16] (sq [0,1,2,3,4,5,6,7,8,9,10,11] (.f 12 (.f 13 (sq [14,15] (.f 16 .e))))) rfl (by kernel_rfl) ?_
              (conv => whnf); refine VC.fa fl83_0 ?_
              (conv => whnf); refine ld1 (v := .slice na ds.length nc) ct30 (by rw [(sg.blk 0 rfl).cell]; rfl) (.inl rfl) ?_
              (conv => whnf); refine VC.fa fl85_5 ?_
              (conv => whnf); refine ld1 (v := .int .i64 fD.factor) ct3 (fr_cell sg (k := 5) rfl) (.inr rfl) ?_
              (conv => whnf); refine rn_build4 7 fD.factor ((m : Int)) (nn) ?_
              (conv => whnf); refine vbuild1 sl30 (rnL (repN fD.factor ((m : Int)) (nn))) rfl (rnL_len _) (by decide) (by decide) ?_
              intro zz G4 hz hs4 hb4 ha4
              have sg4 := sg.skip hz ha4
              have az : Agr (fun k => k = fb) _ G4 := fun k hk => ha4 k (by have e1 : k = fb := hk; have : zz = _ := hz; omega)
              refine ⟨fun k hk => by
                rcases hk with hk | hk
                · rw [show k = sb from hk]; exact (sg4.blk 0 rfl).trans (sg.blk 0 rfl).symm
                · exact az k hk, ?_⟩
              (conv => whnf); refine appG (ys := [repN fD.factor ((m : Int)) (nn)]) sg4 1 sl30 rfl (hb4.cells (o := 0) (cs := rnL (repN fD.factor ((m : Int)) (nn))) fun j v hv => by rw [Nat.zero_add]; exact hv) (Ty.reps_one ⟨rfl, num_in (x := 7) (by unfold NumOk; omega), num_in hN.factor, num_in (x := 0) (by unfold NumOk; omega), num_in (x := (m : Int)) (by unfold NumOk; omega), num_in (x := nn) (by unfold NumOk; omega)⟩) rfl (fun u hu => List.all_eq_true.1 (rn_ones _) u hu) (by simp [maxLen]; omega) (by simp; omega) fun a5 c5 G5 sg5 ha5 => ?_
              have el : ds.length + [repN fD.factor ((m : Int)) (nn)].length = (ds ++ [repN fD.factor ((m : Int)) (nn)]).length := by simp
              rw [el] at sg5 ⊢
              refine ⟨fun k hk => by
                rcases hk with hk | hk
                · rw [show k = sb from hk]; exact (sg5.blk 0 rfl).trans (sg.blk 0 rfl).symm
                · exact (ha5 k (by rw [show k = fb from hk]; exact ⟨sg4.ltE 2 rfl, f2⟩)).trans (az k hk), ?_⟩
              (conv => whnf); refine VC.fa fl83_0 ?_
              (conv => whnf); refine st1B sg5 0 ct30 rfl (by show _ < (2 : Nat); decide) rfl fun G6 sg6 => ?_
              replace sg6 : StB (Old H) H G6 (stP sb fb a5 c5 fc n (ds ++ [repN fD.factor ((m : Int)) (nn)]) (fr ++ [fD]) [pB tRe q2 reZ]) := sg6
              (conv => whnf); refine VC.fa fl83_0 ?_
              (conv => whnf); refine ld1 (v := .slice a5 (ds ++ [repN fD.factor ((m : Int)) (nn)]).length c5) ct30 (by rw [(sg6.blk 0 rfl).cell]; rfl) trivial ?_
              have w1 : IntKind.wrap .i64 (((ds ++ [repN fD.factor ((m : Int)) (nn)]).length : Int) - 1) = (ds.length : Int) := by
                rw [List.length_append, List.length_singleton, w64 (by omega) (by omega)]; omega
              (conv => whnf); rw [w1]
              (conv => whnf); refine VC.fa fl85_5 ?_
              (conv => whnf); refine st1F (k := 5) (f' := { fD with factor := (ds.length : Int) }) sg6 ct3 (by decide) rfl rfl fun G7 sg7 ja => ?_
              (conv => whnf)
              refine ⟨rfl, kk, rfl, ⟨_, fs, ds ++ [repN fD.factor ((m : Int)) (nn)], ws ++ [.rep wx ((m : Int)) (nn)], fr, { fD with factor := (ds.length : Int) }, _, _, _, _, n, GO (pstep_post hfac hpost (by unfold postM; rw [if_neg (by omega), if_neg (by omega), if_neg (by omega)]; exact hbm)), by omega, hR.add (w := .rep wx ((m : Int)) (nn)) ⟨jx, by rw [ex1], ex2, .inr ⟨by omega, by omega, by omega, by omega, o5⟩⟩, ⟨hF.place, hF.alt.more, hF.meet.more, hF.sign, hF.row.more, IxR.new hR (by show repR wx.den (lowM ((m : Int))) (nn) = _; rw [ex3, hlow])⟩, hK.more, by simp only [List.length_append, List.length_singleton]; omega, hlf, sg7⟩, by omega⟩
      · have hpost : postB (bt t i) = false := by simpa using hpost
        rw [hpost]
        by_cases h124 : bt t i = 124
        · have d : (((bt t i : Nat) : Int) == 124) = true := by rw [h124]; rfl
          (conv => whnf); rw [d]
          clear d
          (conv => whnf); refine VCall.mk (dclose_c sg hN (by omega)) ?_
          rintro v G2 ⟨na2, nc2, sg2⟩
          (conv => whnf); rw [w64 (x := (i : Int) + 1) (by omega) (by omega)]
          have hcl := closeD_len ds fD
          obtain ⟨us, k1, k2⟩ := close_goes hR hF
          exact ⟨rfl, i + 1, rfl, ⟨_, fs, _, _, fr, _, _, _, _, _, n, GO (pstep_bar h124), by omega, k1, k2, hK.more, by omega, hlf, sg2⟩, by omega⟩
        · have d : (((bt t i : Nat) : Int) == 124) = false := nofl h124
          (conv => whnf); rw [d]
          clear d
          by_cases h38 : bt t i = 38
          · have d : (((bt t i : Nat) : Int) == 38) = true := by rw [h38]; rfl
            (conv => whnf); rw [d]
            clear d
            (conv => whnf); refine VCall.mk (dfold_c sg hN (by omega)) ?_
            rintro v G2 ⟨na2, nc2, sg2⟩
            have hcl := foldD_len ds fD
            (conv => whnf); refine VDraw.heldZ (fun k => k = sb) [13] (sq [0,1,2,3,4,5,6,7,8,9,10,11,12] (.f 13 .e)) rfl (by kernel_rfl) ?_
            (conv => whnf); refine VC.fa fl83_1 ?_
            (conv => whnf); refine ld1 (v := .slice (some ⟨fb, 0, none⟩) n fc) ct81 (by rw [(sg2.blk 0 rfl).cell]; rfl) rfl ?_
            (conv => whnf); refine VC.fa fl83_1 ?_
            (conv => whnf); refine ld1 (v := .slice (some ⟨fb, 0, none⟩) n fc) ct81 (by rw [(sg2.blk 0 rfl).cell]; rfl) rfl ?_
            (conv => whnf); rw [w64 (x := (n : Int) - 1) (by omega) (by omega)]
            (conv => whnf); refine ixE (j := fr.length) sl81 sg2 2 rfl (by simp) (by omega) ?_
            (conv => whnf); refine VC.fa fl85_3 ?_
            (conv => whnf); refine st1F (k := 3) (f' := { (foldD ds fD).2 with sign := bt t i }) sg2 ct5 (by decide) rfl rfl fun G3 sg3 ja => ?_
            (conv => whnf); rw [w64 (x := (i : Int) + 1) (by omega) (by omega)]
            obtain ⟨us, k1, k2⟩ := fold_goes hR hF
            exact ⟨rfl, i + 1, rfl, ⟨_, fs, _, _, fr, { (foldD ds fD).2 with sign := bt t i }, _, _, _, _, n, GO (pstep_sign (.inl h38)), by omega, k1, ⟨k2.place, k2.alt, k2.meet, rfl, k2.row, k2.factor⟩, hK.more, by omega, hlf, sg3⟩, by omega⟩
          · have d : (((bt t i : Nat) : Int) == 38) = false := nofl h38
            (conv => whnf); rw [d]
            clear d
            by_cases h45 : bt t i = 45
            · have d : (((bt t i : Nat) : Int) == 45) = true := by rw [h45]; rfl
              (conv => whnf); rw [d]
              clear d
              (conv => whnf); refine VCall.mk (dfold_c sg hN (by omega)) ?_
              rintro v G2 ⟨na2, nc2, sg2⟩
              have hcl := foldD_len ds fD
              (conv => whnf); refine VDraw.heldZ (fun k => k = sb) [13] (sq [0,1,2,3,4,5,6,7,8,9,10,11,12] (.f 13 .e)) rfl (by kernel_rfl) ?_
              (conv => whnf); refine VC.fa fl83_1 ?_
              (conv => whnf); refine ld1 (v := .slice (some ⟨fb, 0, none⟩) n fc) ct81 (by rw [(sg2.blk 0 rfl).cell]; rfl) rfl ?_
              (conv => whnf); refine VC.fa fl83_1 ?_
              (conv => whnf); refine ld1 (v := .slice (some ⟨fb, 0, none⟩) n fc) ct81 (by rw [(sg2.blk 0 rfl).cell]; rfl) rfl ?_
              (conv => whnf); rw [w64 (x := (n : Int) - 1) (by omega) (by omega)]
              (conv => whnf); refine ixE (j := fr.length) sl81 sg2 2 rfl (by simp) (by omega) ?_
              (conv => whnf); refine VC.fa fl85_3 ?_
              (conv => whnf); refine st1F (k := 3) (f' := { (foldD ds fD).2 with sign := bt t i }) sg2 ct5 (by decide) rfl rfl fun G3 sg3 ja => ?_
              (conv => whnf); rw [w64 (x := (i : Int) + 1) (by omega) (by omega)]
              obtain ⟨us, k1, k2⟩ := fold_goes hR hF
              exact ⟨rfl, i + 1, rfl, ⟨_, fs, _, _, fr, { (foldD ds fD).2 with sign := bt t i }, _, _, _, _, n, GO (pstep_sign (.inr h45)), by omega, k1, ⟨k2.place, k2.alt, k2.meet, rfl, k2.row, k2.factor⟩, hK.more, by omega, hlf, sg3⟩, by omega⟩
            · have d : (((bt t i : Nat) : Int) == 45) = false := nofl h45
              (conv => whnf); rw [d]
              clear d
              by_cases h41 : bt t i = 41
              · have d : (((bt t i : Nat) : Int) == 41) = true := by rw [h41]; rfl
                (conv => whnf); rw [d]
                clear d
                (conv => whnf); refine VC.fa fl83_1 ?_
                (conv => whnf); refine ld1 (v := .slice (some ⟨fb, 0, none⟩) n fc) ct81 (by rw [(sg.blk 0 rfl).cell]; rfl) trivial ?_
                cases hK with
                | nil =>
                  have hn1 : n = 1 := by rw [hlen]; rfl
                  have d3 : ((n : Int) == 1) = true := by rw [hn1]; rfl
                  (conv => whnf); rw [d3]
                  (conv => whnf); refine vbuildS Tryz.underlying32 rfl _ re_z reZ rfl ?_
                  (conv => whnf); refine stNB (cs := reZ) sg 3 rfl rfl (Nat.le_refl _) rfl fun Gz sz => ?_
                  have ez : splice reZ 0 reZ = reZ := splAll rfl
                  rw [ez] at sz
                  (conv => whnf); refine ldN (cs := reZ) ag32 (ld_reZ (sz.blk 3 rfl)) trivial ?_
                  refine ⟨sz.old, ?_⟩
                  unfold PdAns
                  rw [hpM, ER (pstep_close0 h41)]
                  rfl
                | @cons fr1 fs1 g ga hK1 hG =>
                  have hn2 : n = fr1.length + 1 + 1 := by rw [hlen]; simp
                  have d3 : ((n : Int) == 1) = false := beq_eq_false_iff_ne.2 (by omega)
                  (conv => whnf); rw [d3]
                  (conv => whnf); refine VCall.mk (dclose_c sg hN (by omega)) ?_
                  rintro v G2 ⟨na2, nc2, sg2⟩
                  have hcl := closeD_len ds fD
                  (conv => whnf); refine VDraw.lex rfl (by kernel_rfl) ?_
                  (conv => whnf); refine VC.fa fl83_1 ?_
                  (conv => whnf); refine ld1 (v := .slice (some ⟨fb, 0, none⟩) n fc) ct81 (by rw [(sg2.blk 0 rfl).cell]; rfl) trivial ?_
                  (conv => whnf); refine VC.fa fl83_1 ?_
                  (conv => whnf); refine ld1 (v := .slice (some ⟨fb, 0, none⟩) n fc) ct81 (by rw [(sg2.blk 0 rfl).cell]; rfl) trivial ?_
                  (conv => whnf); rw [w64 (x := (n : Int) - 1) (by omega) (by omega)]
                  (conv => whnf); refine ixE (j := (fr1 ++ [g]).length) sl81 sg2 2 rfl (by simp) (by simp; omega) ?_
                  (conv => whnf); refine VC.fa fl85_1 ?_
                  (conv => whnf); refine ld1 (v := .int .i64 (closeD ds fD).2.alt) ct3 (fr_cell sg2 (k := 1) rfl) trivial ?_
                  (conv => whnf); refine VDraw.heldZ (fun k => k = sb) [14] (sq [0,1,2,3,4,5,6,7,8,9,10,11,12,13] (.f 14 .e)) rfl (by kernel_rfl) ?_
                  (conv => whnf); refine VC.fa fl83_1 ?_
                  (conv => whnf); refine ld1 (v := .slice (some ⟨fb, 0, none⟩) n fc) ct81 (by rw [(sg2.blk 0 rfl).cell]; rfl) rfl ?_
                  (conv => whnf); refine VC.fa fl83_1 ?_
                  (conv => whnf); refine ld1 (v := .slice (some ⟨fb, 0, none⟩) n fc) ct81 (by rw [(sg2.blk 0 rfl).cell]; rfl) rfl ?_
                  have hcap := sg2.capT 2 rfl
                  simp only [List.length_append, List.length_singleton] at hcap
                  (conv => whnf); rw [w64 (x := (n : Int) - 1) (by omega) (by omega)]
                  rw [show (n : Int) - 1 = ((fr1.length + 1 : Nat) : Int) by omega]
                  (conv => whnf); refine vcutH sl81 (by omega) (by omega) ?_
                  (conv => whnf); refine VC.fa fl83_1 ?_
                  have sg3 := sg2.popT 2 rfl
                  (conv => whnf); refine st1B sg3 0 ct81 rfl (by show _ < (2 : Nat); decide) rfl fun G4 sg4 => ?_
                  rw [Int.toNat_natCast] at sg4
                  replace sg4 : StB (Old H) H G4 (stP sb fb na2 nc2 fc (fr1.length + 1) (closeD ds fD).1 (fr1 ++ [g]) [pB tRe q2 reZ]) := by
                    have e : (fr1 ++ [g]).length = fr1.length + 1 := by simp
                    have := sg4
                    simp only [List.length_append, List.length_singleton] at this
                    exact this
                  (conv => whnf); refine VDraw.heldZ (fun k => k = sb) [13] (sq [0,1,2,3,4,5,6,7,8,9,10,11,12] (.f 13 .e)) rfl (by kernel_rfl) ?_
                  (conv => whnf); refine VC.fa fl83_1 ?_
                  (conv => whnf); refine ld1 (v := .slice (some ⟨fb, 0, none⟩) (fr1.length + 1) fc) ct81 (by rw [(sg4.blk 0 rfl).cell]; rfl) rfl ?_
                  (conv => whnf); refine VC.fa fl83_1 ?_
                  (conv => whnf); refine ld1 (v := .slice (some ⟨fb, 0, none⟩) (fr1.length + 1) fc) ct81 (by rw [(sg4.blk 0 rfl).cell]; rfl) rfl ?_
                  (conv => whnf); rw [w64 (x := ((fr1.length + 1 : Nat) : Int) - 1) (by omega) (by omega)]
                  (conv => whnf); refine ixE (j := (fr1).length) sl81 sg4 2 rfl (by simp) (by omega) ?_
                  (conv => whnf); refine VC.fa fl85_5 ?_
                  (conv => whnf); refine st1F (k := 5) (f' := { g with factor := (closeD ds fD).2.alt }) sg4 ct3 (by decide) rfl rfl fun G5 sg5 ja => ?_
                  (conv => whnf); rw [w64 (x := (i : Int) + 1) (by omega) (by omega)]
                  obtain ⟨us, k1, k2⟩ := close_goes hR hF
                  exact ⟨rfl, i + 1, rfl, ⟨_, fs1, _, _, fr1, { g with factor := (closeD ds fD).2.alt }, _, _, _, _, _, GO (pstep_close h41), by omega, k1, ⟨hG.place, hG.alt.more, hG.meet.more, hG.sign, hG.row.more, k2.alt⟩, hK1.more, by omega, by simp only [List.length_cons] at hlf; omega, sg5⟩, by omega⟩
              · have d : (((bt t i : Nat) : Int) == 41) = false := nofl h41
                (conv => whnf); rw [d]
                clear d
                (conv => whnf); refine VCall.mk (dsettle_c sg hN (by omega)) ?_
                rintro v G2 ⟨na2, nc2, sg2⟩
                have hcl := settleD_len ds fD
                obtain ⟨us, k1, k2⟩ := settle_goes hR hF
                have hkm := hK.more (us := us)
                have hN2 := settleD_num (ds := ds) hN (by omega)
                obtain ⟨ds2, f2, hq⟩ : ∃ ds2 f2, settleD ds fD = (ds2, f2) := ⟨_, _, rfl⟩
                rw [hq] at sg2 k1 k2 hcl hN2
                replace sg2 : StB (Old H) H G2 (stP sb fb na2 nc2 fc n ds2 (fr ++ [f2]) [pB tRe q2 reZ]) := sg2
                replace k1 : Raw ds2 (ws ++ us) := k1
                replace k2 : FrR (ws ++ us) f2 (settleF f) := k2
                replace hcl : ds2.length ≤ ds.length + 1 := hcl
                replace hN2 : FrN f2 := hN2
                by_cases h40 : bt t i = 40
                · have d : (((bt t i : Nat) : Int) == 40) = true := by rw [h40]; rfl
                  (conv => whnf); rw [d]
                  clear d
                  (conv => whnf); refine VC.fa fl83_1 ?_
                  (conv => whnf); refine ld1 (v := .slice (some ⟨fb, 0, none⟩) n fc) ct81 (by rw [(sg2.blk 0 rfl).cell]; rfl) trivial ?_
                  by_cases hdeep : 1000 ≤ fs.length
                  · have d3 : decide (1000 < (n : Int)) = true := decide_eq_true (by omega)
                    (conv => whnf); rw [d3]
                    (conv => whnf); refine vbuildS Tryz.underlying32 rfl _ re_z reZ rfl ?_
                    (conv => whnf); refine stNB (cs := reZ) sg2 3 rfl rfl (Nat.le_refl _) rfl fun Gz sz => ?_
                    have ez : splice reZ 0 reZ = reZ := splAll rfl
                    rw [ez] at sz
                    (conv => whnf); refine ldN (cs := reZ) ag32 (ld_reZ (sz.blk 3 rfl)) trivial ?_
                    refine ⟨sz.old, ?_⟩
                    unfold PdAns
                    rw [hpM, ER (pstep_deep h40 hdeep)]
                    rfl
                  · have d3 : decide (1000 < (n : Int)) = false := decide_eq_false (by omega)
                    (conv => whnf); rw [d3]
                    (conv => whnf); refine VDraw.heldZ (fun k => k = sb) [11] (sq [0,1,2,3,4,5] (.f 6 (.f 7 (.f 8 (sq [9,10] (.f 11 .e)))))) rfl (by kernel_rfl) ?_
                    (conv => whnf); refine VC.fa fl83_1 ?_
                    (conv => whnf); refine ld1 (v := .slice (some ⟨fb, 0, none⟩) n fc) ct81 (by rw [(sg2.blk 0 rfl).cell]; rfl) rfl ?_
                    (conv => whnf); refine VCall.mk (open_c (i : Int) G2) ?_
                    rintro _ G3 ⟨rfl, ha3⟩
                    have sg3 := sg2.call ha3
                    refine ⟨fun k hk => by rw [show k = sb from hk]; exact (sg3.blk 0 rfl).trans (sg2.blk 0 rfl).symm, ?_⟩
                    (conv => whnf); refine vbuild1 sl81 (frO (i : Int)) rfl rfl (by decide) (by decide) ?_
                    intro zz G4 hz hs4 hb4 ha4
                    have sg4 := sg3.skip hz ha4
                    refine ⟨fun k hk => by rw [show k = sb from hk]; exact (sg4.blk 0 rfl).trans (sg2.blk 0 rfl).symm, ?_⟩
                    (conv => whnf); refine appO (ys := [(⟨i, -1, -1, 0, -1, -1⟩ : FrD)]) (ds := frO (i : Int)) sg4 2 sl81 rfl (hb4.cells (o := 0) (cs := frO (i : Int)) fun j v hv => by rw [Nat.zero_add]; exact hv) (Ty.reps_one (T := tFr) rfl) rfl (fun u hu => List.all_eq_true.1 (fr_ones ⟨i, -1, -1, 0, -1, -1⟩) u hu) (by simp; omega) (by decide) fun a5 c5 G5 sg5 ha5 => ?_
                    refine ⟨fun k hk => by rw [show k = sb from hk]; exact (sg5.blk 0 rfl).trans (sg2.blk 0 rfl).symm, ?_⟩
                    obtain ⟨fb5, rfl⟩ := sg5.adr 2 rfl (by simp)
                    (conv => whnf); refine VC.fa fl83_1 ?_
                    (conv => whnf); refine st1B sg5 0 ct81 rfl (by show _ < (2 : Nat); decide) rfl fun G6 sg6 => ?_
                    replace sg6 : StB (Old H) H G6 (stP sb fb5 na2 nc2 c5 ((fr ++ [f2]).length + 1) ds2 ((fr ++ [f2]) ++ [(⟨i, -1, -1, 0, -1, -1⟩ : FrD)]) [pB tRe q2 reZ]) := sg6
                    (conv => whnf); rw [w64 (x := (i : Int) + 1) (by omega) (by omega)]
                    exact ⟨rfl, i + 1, rfl, ⟨_, settleF f :: fs, ds2, ws ++ us, fr ++ [f2], _, _, _, _, _, _, GO (pstep_open h40 (by omega)), by omega, k1, open_r _ _, hkm.cons k2, by omega, by simp only [List.length_cons]; omega, sg6⟩, by omega⟩
                · have d : (((bt t i : Nat) : Int) == 40) = false := nofl h40
                  (conv => whnf); rw [d]
                  clear d
                  (conv => whnf); refine VCall.mk (refRead_c (i := i) (by omega) hit) ?_
                  rintro v G3 ⟨hag3, hRd⟩
                  have sg3 := sg2.call hag3
                  have hfb : firstB (bt t i) := ⟨h124, h38, h45, h41, hpost⟩
                  unfold RdAnsD at hRd
                  cases hrs : readSet t i with
                  | inl e =>
                    rw [hrs] at hRd
                    replace hRd : v = .tuple #[zeroD, .int .i64 0, .int .i64 10, .int .i64 (e : Int)] := hRd
                    subst hRd
                    (conv => whnf); refine valloc zeroD (bitsL 0#256) zeroD_z rfl ?_
                    intro q15 G4 hq4 hs4 hb4 ha4
                    have sg4 := sg3.skip hq4 ha4
                    have sg4' := sg3.box hq4 hs4 hb4 ha4
                    (conv => whnf); refine stNB (cs := bitsL 0#256) sg4' 4 (szD 0) rfl (Nat.le_of_eq (Nat.zero_add _)) (onD 0) fun G5 sg5 => ?_
                    replace sg5 : StB (Old H) H G5 (stP sb fb na2 nc2 fc n ds2 (fr ++ [f2]) [pB tRe q2 reZ]) := sg5.subl (List.Sublist.cons_cons _ (List.Sublist.cons_cons _ (List.Sublist.cons_cons _ (List.Sublist.cons_cons _ (List.nil_sublist _)))))
                    (conv => whnf)
                    (conv => whnf); refine vbuildS Tryz.underlying32 rfl _ re_z reZ rfl ?_
                    (conv => whnf); refine stNB (cs := reZ) sg5 3 rfl rfl (Nat.le_refl _) rfl fun Gz sz => ?_
                    have ez : splice reZ 0 reZ = reZ := splAll rfl
                    rw [ez] at sz
                    (conv => whnf); refine ldN (cs := reZ) ag32 (ld_reZ (sz.blk 3 rfl)) trivial ?_
                    refine ⟨sz.old, ?_⟩
                    unfold PdAns
                    rw [hpM, ER (pstep_clsE hfb h40 hrs)]
                    rfl
                  | inr y =>
                    obtain ⟨x, kk⟩ := y
                    rw [hrs] at hRd
                    replace hRd : v = .tuple #[.agg (bitsL x).toArray, .int .i64 (kk : Int), .int .i64 0, .int .i64 0] := hRd
                    subst hRd
                    have hok := readSet_ok hrs
                    (conv => whnf); refine valloc zeroD (bitsL 0#256) zeroD_z rfl ?_
                    intro q15 G4 hq4 hs4 hb4 ha4
                    have sg4 := sg3.box hq4 hs4 hb4 ha4
                    (conv => whnf); refine stNB (cs := bitsL x) sg4 4 (szD x) rfl (by rw [bitsL_len, bitsL_len]; decide) (onD x) fun G5 sg5 => ?_
                    rw [splAll (show (bitsL x).length = (bitsL 0#256).length by rw [bitsL_len, bitsL_len])] at sg5
                    replace sg5 : StB (Old H) H G5 (stP sb fb na2 nc2 fc n ds2 (fr ++ [f2]) [pB tRe q2 reZ, pB 92 q15 (bitsL x)]) := sg5
                    have hx5 : Blk G5 q15 92 (bitsL x) := sg5.blk 4 rfl
                    (conv => whnf); refine VDraw.heldZ (fun k => k = sb ∨ k = q15) [11] (sq [0,1,2,3,4,5,6] (.f 7 (.f 8 (sq [9,10] (.f 11 .e))))) rfl (by kernel_rfl) ?_
                    (conv => whnf); refine VC.fa fl83_0 ?_
                    (conv => whnf); refine ld1 (v := .slice na2 ds2.length nc2) ct30 (by rw [(sg5.blk 0 rfl).cell]; rfl) (.inl rfl) ?_
                    (conv => whnf); refine ldN (cs := bitsL x) (agD x) (ld_bits hx5) (.inr rfl) ?_
                    (conv => whnf); refine rn_build1 1 x ?_
                    (conv => whnf); refine vbuild1 sl30 (rnL (clsD x)) rfl (rnL_len _) (by decide) (by decide) ?_
                    intro zz G6 hz hs6 hb6 ha6
                    have sg6 := sg5.skip hz ha6
                    refine ⟨fun k hk => by
                      rcases hk with hk | hk
                      · rw [show k = sb from hk]; exact (sg6.blk 0 rfl).trans (sg5.blk 0 rfl).symm
                      · rw [show k = q15 from hk]; exact (sg6.blk 4 rfl).trans hx5.symm, ?_⟩
                    (conv => whnf); refine appG (ys := [clsD x]) sg6 1 sl30 rfl (hb6.cells (o := 0) (cs := rnL (clsD x)) fun j v hv => by rw [Nat.zero_add]; exact hv) (Ty.reps_one ⟨rfl, num_in (x := 1) (by unfold NumOk; omega), num_in (x := 0) (by unfold NumOk; omega), num_in (x := 0) (by unfold NumOk; omega), num_in (x := 0) (by unfold NumOk; omega), num_in (x := 0) (by unfold NumOk; omega)⟩) rfl (fun u hu => List.all_eq_true.1 (rn_ones _) u hu) (by simp [maxLen]; omega) (by simp; omega) fun a7 c7 G7 sg7 ha7 => ?_
                    have el : ds2.length + [clsD x].length = (ds2 ++ [clsD x]).length := by simp
                    rw [el] at sg7 ⊢
                    refine ⟨fun k hk => by
                      rcases hk with hk | hk
                      · rw [show k = sb from hk]; exact (sg7.blk 0 rfl).trans (sg5.blk 0 rfl).symm
                      · rw [show k = q15 from hk]; exact (sg7.blk 4 rfl).trans hx5.symm, ?_⟩
                    (conv => whnf); refine VC.fa fl83_0 ?_
                    (conv => whnf); refine st1B sg7 0 ct30 rfl (by show _ < (2 : Nat); decide) rfl fun G8 sg8 => ?_
                    replace sg8 : StB (Old H) H G8 (stP sb fb a7 c7 fc n (ds2 ++ [clsD x]) (fr ++ [f2]) [pB tRe q2 reZ, pB 92 q15 (bitsL x)]) := sg8
                    have w1 : IntKind.wrap .i64 (((ds2 ++ [clsD x]).length : Int) - 1) = (ds2.length : Int) := by
                      rw [List.length_append, List.length_singleton, w64 (by omega) (by omega)]; omega
                    (conv => whnf); refine VDraw.heldZ (fun k => k = sb) [18] (sq [0,1,2,3,4,5,6,7,8,9,10,11,12,13,14,15,16,17] (.f 18 .e)) rfl (by kernel_rfl) ?_
                    (conv => whnf); refine VC.fa fl83_1 ?_
                    (conv => whnf); refine ld1 (v := .slice (some ⟨fb, 0, none⟩) n fc) ct81 (by rw [(sg8.blk 0 rfl).cell]; rfl) rfl ?_
                    (conv => whnf); refine VC.fa fl83_1 ?_
                    (conv => whnf); refine ld1 (v := .slice (some ⟨fb, 0, none⟩) n fc) ct81 (by rw [(sg8.blk 0 rfl).cell]; rfl) rfl ?_
                    (conv => whnf); rw [w64 (x := (n : Int) - 1) (by omega) (by omega)]
                    (conv => whnf); refine VC.fa fl83_0 ?_
                    (conv => whnf); refine ld1 (v := .slice a7 (ds2 ++ [clsD x]).length c7) ct30 (by rw [(sg8.blk 0 rfl).cell]; rfl) rfl ?_
                    (conv => whnf); rw [w1]
                    (conv => whnf); refine ixE (j := fr.length) sl81 sg8 2 rfl (by simp) (by omega) ?_
                    (conv => whnf); refine VC.fa fl85_5 ?_
                    (conv => whnf); refine st1F (k := 5) (f' := { f2 with factor := (ds2.length : Int) }) sg8 ct3 (by decide) rfl rfl fun G9 sg9 ja => ?_
                    (conv => whnf)
                    replace sg9 : StB (Old H) H G9 (stP sb fb a7 c7 fc n (ds2 ++ [clsD x]) (fr ++ [{ f2 with factor := (ds2.length : Int) }]) [pB tRe q2 reZ]) := sg9.subl (List.Sublist.cons_cons _ (List.Sublist.cons_cons _ (List.Sublist.cons_cons _ (List.Sublist.cons_cons _ (List.nil_sublist _)))))
                    exact ⟨rfl, kk, rfl, ⟨_, fs, ds2 ++ [clsD x], ws ++ us ++ [.cls x], fr, { f2 with factor := (ds2.length : Int) }, _, _, _, _, n, GO (pstep_cls hfb h40 hrs), by omega, k1.add (w := .cls x) rfl, ⟨k2.place, k2.alt.more, k2.meet.more, k2.sign, k2.row.more, IxR.new k1 rfl⟩, hkm.more, by simp only [List.length_append, List.length_singleton]; omega, hlf, sg9⟩, by omega⟩
    · skip
      obtain rfl : i = t.size := by omega
      have hend : prun t ⟨0, openF (-1), []⟩ = pfin ⟨t.size, f, fs⟩ := hrun.trans (prun_end (by show ¬ t.size < t.size; omega))
      (conv => whnf); refine VC.fa fl83_1 ?_
      (conv => whnf); refine ld1 (v := .slice (some ⟨fb, 0, none⟩) n fc) ct81 (by rw [(sg.blk 0 rfl).cell]; rfl) trivial ?_
      cases hK with
      | @cons fr1 fs1 g ga hK1 hG =>
        have hn2 : n = fr1.length + 1 + 1 := by rw [hlen]; simp
        have d3 : decide (1 < (n : Int)) = true := decide_eq_true (by omega)
        have ne1 : sb ≠ q2 := (sg.blk 0 rfl).ne (sg.blk 3 rfl) (by decide)
        have ne2 : fb ≠ q2 := fun e => sg.apart2 (i := 2) (j := 3) rfl rfl (by decide) fb (.inl ⟨0, n, fc, rfl⟩) e
        (conv => whnf); rw [d3]
        (conv => whnf); refine VDraw.held (fun k => k = sb ∨ k = fb) 17 (sq [0,1,2,3,4,5,6,7,8,9,10,11,12,13] (.f 14 (sq [15,16] .e))) rfl (by kernel_rfl) ?_
        (conv => whnf); refine vbuildS Tryz.underlying32 rfl _ re_z reZ rfl ?_
        (conv => whnf); refine VC.fa fl83_1 ?_
        (conv => whnf); refine ld1 (v := .slice (some ⟨fb, 0, none⟩) n fc) ct81 (by rw [(sg.blk 0 rfl).cell]; rfl) (.inl rfl) ?_
        (conv => whnf); refine VC.fa fl83_1 ?_
        (conv => whnf); refine ld1 (v := .slice (some ⟨fb, 0, none⟩) n fc) ct81 (by rw [(sg.blk 0 rfl).cell]; rfl) (.inl rfl) ?_
        (conv => whnf); rw [w64 (x := (n : Int) - 1) (by omega) (by omega)]
        (conv => whnf); refine ixE (j := (fr1 ++ [g]).length) sl81 sg 2 rfl (by simp) (by simp; omega) ?_
        (conv => whnf); refine VC.fa fl85_0 ?_
        (conv => whnf); refine ld1 (v := .int .i64 fD.place) ct3 (fr_cell sg (k := 0) rfl) (.inr rfl) ?_
        (conv => whnf); refine stNBa (cs := reZ) sg 3 rfl rfl (Nat.le_refl _) rfl fun Gz sz jz jq => ?_
        have ez : splice reZ 0 reZ = reZ := splAll rfl
        rw [ez] at sz
        refine ⟨jz.mono fun k hk => by
          rcases hk with hk | hk
          · rw [show k = sb from hk]; exact ne1
          · rw [show k = fb from hk]; exact ne2, ?_⟩
        (conv => whnf); refine ldN (cs := reZ) ag32 (ld_reZ (sz.blk 3 rfl)) trivial ?_
        refine ⟨sz.old, ?_⟩
        unfold PdAns
        rw [hpM, hend]
        show _ = Value.tuple #[.agg reZ.toArray, .int .i64 21, .int .i64 f.place]
        rw [← hF.place]
        rfl
      | nil =>
        have hn1 : n = 1 := by rw [hlen]; rfl
        have d3 : decide (1 < (n : Int)) = false := decide_eq_false (by omega)
        (conv => whnf); rw [d3]
        (conv => whnf); refine VCall.mk (dclose_c sg hN (by omega)) ?_
        rintro v G2 ⟨na2, nc2, sg2⟩
        have hcl := closeD_len ds fD
        obtain ⟨us, k1, k2⟩ := close_goes hR hF
        have kalt := k2.alt
        have hca : (closeF f).alt = some ((closeF f).alt.getD .eps) := rfl
        obtain ⟨r, hr⟩ : ∃ r, r = (closeF f).alt.getD .eps := ⟨_, rfl⟩
        rw [hca, ← hr] at kalt
        obtain ⟨jr, wr, er1, er2, er3⟩ := kalt
        have hfin : prun t ⟨0, openF (-1), []⟩ = (if 2000 < r.nodes then .inl (24, 0) else .inr r) := by
          rw [hend, hr]; rfl
        obtain ⟨ds2, f2, hq⟩ : ∃ ds2 f2, closeD ds fD = (ds2, f2) := ⟨_, _, rfl⟩
        rw [hq] at sg2 k1 k2 hcl er1
        replace sg2 : StB (Old H) H G2 (stP sb fb na2 nc2 fc n ds2 ([] ++ [f2]) [pB tRe q2 reZ]) := sg2
        replace k1 : Raw ds2 (ws ++ us) := k1
        replace hcl : ds2.length ≤ ds.length + 4 := hcl
        replace er1 : f2.alt = (jr : Int) := er1
        have hwl := k1.len
        have hjl := (List.getElem?_eq_some_iff.1 er2).1
        (conv => whnf); refine VC.fa fl83_1 ?_
        (conv => whnf); refine ld1 (v := .slice (some ⟨fb, 0, none⟩) n fc) ct81 (by rw [(sg2.blk 0 rfl).cell]; rfl) trivial ?_
        (conv => whnf); refine ixE (j := ([] : List FrD).length) sl81 sg2 2 rfl (by simp) rfl ?_
        (conv => whnf); refine VC.fa fl85_1 ?_
        (conv => whnf); refine ld1 (v := .int .i64 (jr : Int)) ct3 (by rw [← er1]; exact fr_cell sg2 (k := 1) rfl) trivial ?_
        (conv => whnf); refine VC.fa fl83_0 ?_
        (conv => whnf); refine ld1 (v := .slice na2 ds2.length nc2) ct30 (by rw [(sg2.blk 0 rfl).cell]; rfl) trivial ?_
        (conv => whnf); refine VCall.mk (sizes_c (S := Old G2) (fun k hk => hk) k1 (by omega) (sg2.view 1 rfl)) ?_
        rintro _ G3 ⟨bz, rfl, stz⟩
        have sg3 := sg2.call stz.old
        have hszg := szL_get (j := (ws ++ us).length) er2 hjl
        (conv => whnf); refine ixO (j := jr) (x := szI wr) sl54 stz 0 rfl hszg rfl fun b9 o9 cs9 hO9 hc9 hr9 => ?_
        obtain ⟨rfl, -⟩ := hr9
        (conv => whnf); refine ld1 (v := .int .i64 (szI wr)) ct3 hc9.one trivial ?_
        have hszr : szI wr = ((szR r : Nat) : Int) := by unfold szI; rw [er3]
        rw [hszr]
        by_cases hn : 2000 < r.nodes
        · have d4 : decide (2000 < ((szR r : Nat) : Int)) = true := decide_eq_true (by unfold szR; omega)
          rw [if_pos hn] at hfin
          (conv => whnf); rw [d4]
          (conv => whnf); refine vbuildS Tryz.underlying32 rfl _ re_z reZ rfl ?_
          (conv => whnf); refine stNB (cs := reZ) sg3 3 rfl rfl (Nat.le_refl _) rfl fun Gz sz => ?_
          have ez : splice reZ 0 reZ = reZ := splAll rfl
          rw [ez] at sz
          (conv => whnf); refine ldN (cs := reZ) ag32 (ld_reZ (sz.blk 3 rfl)) trivial ?_
          refine ⟨sz.old, ?_⟩
          unfold PdAns
          rw [hpM, hfin]
          rfl
        · have d4 : decide (2000 < ((szR r : Nat) : Int)) = false := decide_eq_false (by unfold szR; omega)
          rw [if_neg hn] at hfin
          (conv => whnf); rw [d4]
          (conv => whnf); refine valloc _ reZ re_z rfl ?_
          intro q20 G4 hq4 hs4 hb4 ha4
          have sq4 := ((St.nil G3).box hq4 hs4 hb4 ha4).nils tRn 94
          replace sq4 : StB (Old G3) G3 G4 (reP q20 none 0 [] 0 []) := sq4
          have sg4 := sg3.call sq4.old
          (conv => whnf); refine VC.fa fl83_0 ?_
          (conv => whnf); refine ld1 (v := .slice na2 ds2.length nc2) ct30 (by rw [(sg4.blk 0 rfl).cell]; rfl) trivial ?_
          (conv => whnf); refine VCall.mk (grow_c wr (Old G3) G3 G4 q20 0 none [] 0 [] na2 nc2 jr ds2 (ws ++ us) k1 (sg3.view 1 rfl) (fun k hk => hk) er2 (by rw [er3]; simp; omega) sq4) ?_
          rintro _ G5 ⟨ms, a5, c5, hm5, hs5, rfl, ht5, sq5⟩
          rw [er3] at hm5 ht5 hs5
          rw [List.nil_append] at ht5 sq5
          (conv => whnf); refine VC.fa fl32_1 ?_
          (conv => whnf); refine st1B sq5 0 ct3 rfl (by show _ < (2 : Nat); decide) rfl fun G6 sq6 => ?_
          rw [show ([] : List RnM).length + ms.length - 1 = ms.length - 1 by simp] at ht5 sq6
          replace sq6 : StB (Old G3) G3 G6 (reP q20 a5 c5 ms ((ms.length - 1 : Nat) : Int) []) := sq6
          have sg6 := sg3.call sq6.old
          have lds : Cells G6 q20 0 (reL (.slice a5 ms.length c5) ((ms.length - 1 : Nat) : Int)) := (sq6.blk 0 rfl).cells fun j v hv => by rw [Nat.zero_add]; exact hv
          (conv => whnf); refine ldN (cs := reL (.slice a5 ms.length c5) ((ms.length - 1 : Nat) : Int)) ag32 lds trivial ?_
          (conv => whnf); refine stNBa (cs := reL (.slice a5 ms.length c5) ((ms.length - 1 : Nat) : Int)) sg6 3 rfl rfl (Nat.le_refl _) rfl fun G7 sg7 ja7 js7 => ?_
          rw [splAll (show (reL (.slice a5 ms.length c5) ((ms.length - 1 : Nat) : Int)).length = reZ.length from rfl)] at sg7
          have ldr : Cells G7 q2 0 (reL (.slice a5 ms.length c5) ((ms.length - 1 : Nat) : Int)) := (sg7.blk 3 rfl).cells fun j v hv => by rw [Nat.zero_add]; exact hv
          (conv => whnf); refine ldN (cs := reL (.slice a5 ms.length c5) ((ms.length - 1 : Nat) : Int)) ag32 ldr trivial ?_
          have ow := St.own (H0 := G3) sq6 1 rfl
          have q2l : q2 < G3.size := (sg3.blk 3 rfl).lt
          refine ⟨sg7.old, ?_⟩
          unfold PdAns
          rw [hpM, hfin]
          refine ⟨ms, a5, c5, ms.length - 1, rfl, ht5, hm5, hs5, ?_⟩
          refine (ow.agr ja7 (fun b hb => by have := (ow.lt hb).1; omega) (fun b hb => hb.elim)).lower ?_
          exact sg3.size
end Go.Proofs.YtlnmhfhdjnenoaaGreatDoor
/- What a plain tree's automaton accepts: the language by its definition; plain law. -/
set_option linter.unusedVariables false
set_option linter.unusedSimpArgs false
set_option maxRecDepth 100000
namespace Go.Proofs.YtlnmhfhdjnenoaaGreatDoor
open Go.VC
inductive StarR (R : Nat → Nat → Prop) (i : Nat) : Nat → Prop
  | refl : StarR R i i
  | step {k j : Nat} : StarR R i k → R k j → StarR R i j
/-- The bytes from i up to j are of the tree's language. -/
def Mt (l : List Nat) : ReM → Nat → Nat → Prop
  | .eps, i, j => i = j
  | .cls s, i, j => ∃ c, l[i]? = some c ∧ s.getLsbD c = true ∧ j = i + 1
  | .cat a b, i, j => ∃ k, Mt l a i k ∧ Mt l b k j
  | .alt a b, i, j => Mt l a i j ∨ Mt l b i j
  | .star a, i, j => StarR (Mt l a) i j
  | .and_ a b, i, j => Mt l a i j ∧ Mt l b i j
  | .minus a b, i, j => Mt l a i j ∧ ¬ Mt l b i j
/-- Ways along edges that read the bytes from i up to j. -/
inductive Pth (es : List EdM) (l : List Nat) (p : Int) (i : Nat) : Int → Nat → Prop
  | refl : Pth es l p i p i
  | sil {q : Int} {j : Nat} {e : EdM} : Pth es l p i q j → e ∈ es → e.sil = true → e.fr = q → Pth es l p i e.to j
  | eat {q : Int} {j c : Nat} {e : EdM} : Pth es l p i q j → e ∈ es → e.sil = false → e.fr = q → l[j]? = some c → e.set.getLsbD c = true → Pth es l p i e.to (j + 1)
theorem Pth.mono {es es' : List EdM} {l : List Nat} {p q : Int} {i j : Nat} (h : Pth es l p i q j) (k : ∀ e ∈ es, e ∈ es') : Pth es' l p i q j := by
  induction h with
  | refl => exact .refl
  | sil _ h1 h2 h3 ih => exact .sil ih (k _ h1) h2 h3
  | eat _ h1 h2 h3 h4 h5 ih => exact .eat ih (k _ h1) h2 h3 h4 h5
theorem Pth.trans {es : List EdM} {l : List Nat} {p q r : Int} {i j k : Nat} (h : Pth es l p i q j) (g : Pth es l q j r k) : Pth es l p i r k := by
  induction g with
  | refl => exact h
  | sil _ h1 h2 h3 ih => exact .sil ih h1 h2 h3
  | eat _ h1 h2 h3 h4 h5 ih => exact .eat ih h1 h2 h3 h4 h5
theorem Pth.one {es : List EdM} {l : List Nat} {p q : Nat} {i : Nat} (h : silE p q ∈ es) : Pth es l (p : Int) i (q : Int) i := .sil .refl h rfl rfl
/-- The edges lie among the tree's own states. -/
theorem bldM_edges : ∀ (r : ReM), r.plain = true → ∀ n, ∀ e ∈ (bldM r n).2.2, (n : Int) ≤ e.fr ∧ e.fr < ((n + stM r : Nat) : Int) ∧ (n : Int) ≤ e.to ∧ e.to < ((n + stM r : Nat) : Int)
  | .eps, _, n, e, he => by
    rcases List.mem_singleton.1 he with rfl
    simp only [silE, stM]; omega
  | .cls s, _, n, e, he => by
    rcases List.mem_singleton.1 he with rfl
    simp only [setE, stM]; omega
  | .cat a b, h, n, e, he => by
    simp only [ReM.plain, Bool.and_eq_true] at h
    have i1 := bldM_in a h.1 n
    have i2 := bldM_in b h.2 (n + stM a)
    simp only [bldM, List.mem_append, List.mem_singleton] at he
    simp only [stM]
    rcases he with (he | he) | rfl
    · have := bldM_edges a h.1 n e he; omega
    · have := bldM_edges b h.2 (n + stM a) e he; omega
    · simp only [silE]; omega
  | .alt a b, h, n, e, he => by
    simp only [ReM.plain, Bool.and_eq_true] at h
    have i1 := bldM_in a h.1 (n + 1)
    have i2 := bldM_in b h.2 (n + 1 + stM a)
    simp only [bldM, List.mem_append, List.mem_cons, List.not_mem_nil, or_false] at he
    simp only [stM]
    rcases he with (he | he) | rfl | rfl | rfl | rfl
    · have := bldM_edges a h.1 (n + 1) e he; omega
    · have := bldM_edges b h.2 (n + 1 + stM a) e he; omega
    all_goals simp only [silE]; omega
  | .star a, h, n, e, he => by
    have h1 : a.plain = true := h
    have i1 := bldM_in a h1 (n + 1)
    simp only [bldM, List.mem_append, List.mem_cons, List.not_mem_nil, or_false] at he
    simp only [stM]
    rcases he with he | rfl | rfl | rfl | rfl
    · have := bldM_edges a h1 (n + 1) e he; omega
    all_goals simp only [silE]; omega
  | .and_ _ _, h, _, _, _ => by cases h
  | .minus _ _, h, _, _, _ => by cases h
def InS (n m : Nat) (q : Int) : Prop := (n : Int) ≤ q ∧ q < ((n + m : Nat) : Int)
set_option maxHeartbeats 2000000 in
theorem thompson (l : List Nat) : ∀ (r : ReM), r.plain = true → ∀ (n i j : Nat), Pth (bldM r n).2.2 l ((bldM r n).1 : Int) i ((bldM r n).2.1 : Int) j ↔ Mt l r i j
  | .eps, _, n, i, j => by
    constructor
    · intro h
      have key : ∀ q j, Pth (bldM .eps n).2.2 l (n : Int) i q j → i = j := by
        intro q j h
        induction h with
        | refl => rfl
        | sil _ _ _ _ ih => exact ih
        | eat _ h1 h2 => rcases List.mem_singleton.1 h1 with rfl; cases h2
      exact key _ _ h
    · intro h
      have h : i = j := h
      subst h
      exact Pth.one (List.mem_singleton.2 rfl)
  | .cls s, _, n, i, j => by
    constructor
    · intro h
      have key : ∀ q j, Pth (bldM (.cls s) n).2.2 l (n : Int) i q j → (q = (n : Int) ∧ j = i) ∨ (q = ((n + 1 : Nat) : Int) ∧ Mt l (.cls s) i j) := by
        intro q j h
        induction h with
        | refl => exact .inl ⟨rfl, rfl⟩
        | sil _ h1 h2 => rcases List.mem_singleton.1 h1 with rfl; cases h2
        | eat _ h1 h2 h3 h4 h5 ih =>
          rcases List.mem_singleton.1 h1 with rfl
          rcases ih with ⟨e1, rfl⟩ | ⟨e1, -⟩
          · exact .inr ⟨rfl, _, h4, h5, rfl⟩
          · rw [e1] at h3
            have h3 : (n : Int) = ((n + 1 : Nat) : Int) := h3
            omega
      rcases key _ _ h with ⟨e1, -⟩ | ⟨-, e2⟩
      · have e1 : ((n + 1 : Nat) : Int) = (n : Int) := e1
        omega
      · exact e2
    · rintro ⟨c, h1, h2, rfl⟩
      exact .eat (e := setE n (n + 1) s) .refl (List.mem_singleton.2 rfl) rfl rfl h1 h2
  | .cat a b, h, n, i, j => by
    simp only [ReM.plain, Bool.and_eq_true] at h
    have i1 := bldM_in a h.1 n
    have i2 := bldM_in b h.2 (n + stM a)
    have ta := thompson l a h.1 n
    have tb := thompson l b h.2 (n + stM a)
    have ea := bldM_edges a h.1 n
    have eb := bldM_edges b h.2 (n + stM a)
    have emem : ∀ e, e ∈ (bldM (.cat a b) n).2.2 ↔ (e ∈ (bldM a n).2.2 ∨ e ∈ (bldM b (n + stM a)).2.2 ∨ e = silE (bldM a n).2.1 (bldM b (n + stM a)).1) := fun e => by
      simp only [bldM, List.mem_append, List.mem_singleton, or_assoc]
    constructor
    · intro hp
      have key : ∀ q j, Pth (bldM (.cat a b) n).2.2 l ((bldM a n).1 : Int) i q j →
          (InS n (stM a) q ∧ Pth (bldM a n).2.2 l ((bldM a n).1 : Int) i q j) ∨ (InS (n + stM a) (stM b) q ∧ ∃ k, Mt l a i k ∧ Pth (bldM b (n + stM a)).2.2 l ((bldM b (n + stM a)).1 : Int) k q j) := by
        intro q j hp
        induction hp with
        | refl => exact .inl ⟨by unfold InS; omega, .refl⟩
        | @sil q j e _ h1 h2 h3 ih =>
          rcases (emem e).1 h1 with h1 | h1 | rfl
          · have e1 := ea e h1
            rcases ih with ⟨hq, ih⟩ | ⟨hq, -⟩
            · exact .inl ⟨⟨by omega, by omega⟩, .sil ih h1 h2 h3⟩
            · unfold InS at hq; omega
          · have e1 := eb e h1
            rcases ih with ⟨hq, -⟩ | ⟨hq, k, hk, ih⟩
            · unfold InS at hq; omega
            · exact .inr ⟨⟨by omega, by omega⟩, k, hk, .sil ih h1 h2 h3⟩
          · have h3 : ((bldM a n).2.1 : Int) = q := h3
            rcases ih with ⟨hq, ih⟩ | ⟨hq, -⟩
            · rw [← h3] at ih
              exact .inr ⟨⟨by show _ ≤ (((bldM b (n + stM a)).1 : Nat) : Int); omega, by show (((bldM b (n + stM a)).1 : Nat) : Int) < _; omega⟩, j, (ta i j).1 ih, .refl⟩
            · unfold InS at hq; omega
        | @eat q j c e _ h1 h2 h3 h4 h5 ih =>
          rcases (emem e).1 h1 with h1 | h1 | rfl
          · have e1 := ea e h1
            rcases ih with ⟨hq, ih⟩ | ⟨hq, -⟩
            · exact .inl ⟨⟨by omega, by omega⟩, .eat ih h1 h2 h3 h4 h5⟩
            · unfold InS at hq; omega
          · have e1 := eb e h1
            rcases ih with ⟨hq, -⟩ | ⟨hq, k, hk, ih⟩
            · unfold InS at hq; omega
            · exact .inr ⟨⟨by omega, by omega⟩, k, hk, .eat ih h1 h2 h3 h4 h5⟩
          · cases h2
      rcases key _ _ hp with ⟨hq, -⟩ | ⟨-, k, hk, hb⟩
      · have hq : InS n (stM a) ((bldM b (n + stM a)).2.1 : Int) := hq
        unfold InS at hq; omega
      · exact ⟨k, hk, (tb k j).1 hb⟩
    · rintro ⟨k, ha, hb⟩
      have pa := ((ta i k).2 ha).mono (es' := (bldM (.cat a b) n).2.2) fun e he => (emem e).2 (.inl he)
      have pb := ((tb k j).2 hb).mono (es' := (bldM (.cat a b) n).2.2) fun e he => (emem e).2 (.inr (.inl he))
      exact (pa.trans (Pth.one ((emem _).2 (.inr (.inr rfl))))).trans pb
  | .alt a b, h, n, i, j => by
    simp only [ReM.plain, Bool.and_eq_true] at h
    have i1 := bldM_in a h.1 (n + 1)
    have i2 := bldM_in b h.2 (n + 1 + stM a)
    have ta := thompson l a h.1 (n + 1)
    have tb := thompson l b h.2 (n + 1 + stM a)
    have ea := bldM_edges a h.1 (n + 1)
    have eb := bldM_edges b h.2 (n + 1 + stM a)
    have emem : ∀ e, e ∈ (bldM (.alt a b) n).2.2 ↔ (e ∈ (bldM a (n + 1)).2.2 ∨ e ∈ (bldM b (n + 1 + stM a)).2.2 ∨ e = silE n (bldM a (n + 1)).1 ∨ e = silE n (bldM b (n + 1 + stM a)).1 ∨ e = silE (bldM a (n + 1)).2.1 (n + 1 + stM a + stM b) ∨ e = silE (bldM b (n + 1 + stM a)).2.1 (n + 1 + stM a + stM b)) := fun e => by
      simp only [bldM, List.mem_append, List.mem_cons, List.not_mem_nil, or_false, or_assoc]
    constructor
    · intro hp
      have key : ∀ q j, Pth (bldM (.alt a b) n).2.2 l (n : Int) i q j →
          (q = (n : Int) ∧ i = j) ∨ (InS (n + 1) (stM a) q ∧ Pth (bldM a (n + 1)).2.2 l ((bldM a (n + 1)).1 : Int) i q j) ∨ (InS (n + 1 + stM a) (stM b) q ∧ Pth (bldM b (n + 1 + stM a)).2.2 l ((bldM b (n + 1 + stM a)).1 : Int) i q j) ∨ (q = ((n + 1 + stM a + stM b : Nat) : Int) ∧ Mt l (.alt a b) i j) := by
        intro q j hp
        induction hp with
        | refl => exact .inl ⟨rfl, rfl⟩
        | @sil q j e _ h1 h2 h3 ih =>
          rcases (emem e).1 h1 with h1 | h1 | rfl | rfl | rfl | rfl
          · have e1 := ea e h1
            rcases ih with ⟨hq, -⟩ | ⟨hq, ih⟩ | ⟨hq, -⟩ | ⟨hq, -⟩
            · omega
            · exact .inr (.inl ⟨⟨by omega, by omega⟩, .sil ih h1 h2 h3⟩)
            · unfold InS at hq; omega
            · omega
          · have e1 := eb e h1
            rcases ih with ⟨hq, -⟩ | ⟨hq, -⟩ | ⟨hq, ih⟩ | ⟨hq, -⟩
            · omega
            · unfold InS at hq; omega
            · exact .inr (.inr (.inl ⟨⟨by omega, by omega⟩, .sil ih h1 h2 h3⟩))
            · omega
          · have h3 : (n : Int) = q := h3
            rcases ih with ⟨hq, rfl⟩ | ⟨hq, -⟩ | ⟨hq, -⟩ | ⟨hq, -⟩
            · exact .inr (.inl ⟨⟨by show _ ≤ (((bldM a (n + 1)).1 : Nat) : Int); omega, by show (((bldM a (n + 1)).1 : Nat) : Int) < _; omega⟩, .refl⟩)
            · unfold InS at hq; omega
            · unfold InS at hq; omega
            · omega
          · have h3 : (n : Int) = q := h3
            rcases ih with ⟨hq, rfl⟩ | ⟨hq, -⟩ | ⟨hq, -⟩ | ⟨hq, -⟩
            · exact .inr (.inr (.inl ⟨⟨by show _ ≤ (((bldM b (n + 1 + stM a)).1 : Nat) : Int); omega, by show (((bldM b (n + 1 + stM a)).1 : Nat) : Int) < _; omega⟩, .refl⟩))
            · unfold InS at hq; omega
            · unfold InS at hq; omega
            · omega
          · have h3 : ((bldM a (n + 1)).2.1 : Int) = q := h3
            rcases ih with ⟨hq, -⟩ | ⟨hq, ih⟩ | ⟨hq, -⟩ | ⟨hq, -⟩
            · omega
            · rw [← h3] at ih
              exact .inr (.inr (.inr ⟨rfl, .inl ((ta i j).1 ih)⟩))
            · unfold InS at hq; omega
            · omega
          · have h3 : ((bldM b (n + 1 + stM a)).2.1 : Int) = q := h3
            rcases ih with ⟨hq, -⟩ | ⟨hq, -⟩ | ⟨hq, ih⟩ | ⟨hq, -⟩
            · omega
            · unfold InS at hq; omega
            · rw [← h3] at ih
              exact .inr (.inr (.inr ⟨rfl, .inr ((tb i j).1 ih)⟩))
            · omega
        | @eat q j c e _ h1 h2 h3 h4 h5 ih =>
          rcases (emem e).1 h1 with h1 | h1 | rfl | rfl | rfl | rfl
          · have e1 := ea e h1
            rcases ih with ⟨hq, -⟩ | ⟨hq, ih⟩ | ⟨hq, -⟩ | ⟨hq, -⟩
            · omega
            · exact .inr (.inl ⟨⟨by omega, by omega⟩, .eat ih h1 h2 h3 h4 h5⟩)
            · unfold InS at hq; omega
            · omega
          · have e1 := eb e h1
            rcases ih with ⟨hq, -⟩ | ⟨hq, -⟩ | ⟨hq, ih⟩ | ⟨hq, -⟩
            · omega
            · unfold InS at hq; omega
            · exact .inr (.inr (.inl ⟨⟨by omega, by omega⟩, .eat ih h1 h2 h3 h4 h5⟩))
            · omega
          all_goals cases h2
      rcases key _ _ hp with ⟨hq, -⟩ | ⟨hq, -⟩ | ⟨hq, -⟩ | ⟨-, hm⟩
      · have hq : ((n + 1 + stM a + stM b : Nat) : Int) = (n : Int) := hq
        omega
      · have hq : InS (n + 1) (stM a) ((n + 1 + stM a + stM b : Nat) : Int) := hq
        unfold InS at hq; omega
      · have hq : InS (n + 1 + stM a) (stM b) ((n + 1 + stM a + stM b : Nat) : Int) := hq
        unfold InS at hq; omega
      · exact hm
    · rintro (ha | hb)
      · have pa := ((ta i j).2 ha).mono (es' := (bldM (.alt a b) n).2.2) fun e he => (emem e).2 (.inl he)
        exact ((Pth.one (l := l) (i := i) ((emem _).2 (.inr (.inr (.inl rfl))))).trans pa).trans (Pth.one ((emem _).2 (.inr (.inr (.inr (.inr (.inl rfl)))))))
      · have pb := ((tb i j).2 hb).mono (es' := (bldM (.alt a b) n).2.2) fun e he => (emem e).2 (.inr (.inl he))
        exact ((Pth.one (l := l) (i := i) ((emem _).2 (.inr (.inr (.inr (.inl rfl)))))).trans pb).trans (Pth.one ((emem _).2 (.inr (.inr (.inr (.inr (.inr rfl)))))))
  | .star a, h, n, i, j => by
    have h1 : a.plain = true := h
    have i1 := bldM_in a h1 (n + 1)
    have ta := thompson l a h1 (n + 1)
    have ea := bldM_edges a h1 (n + 1)
    have emem : ∀ e, e ∈ (bldM (.star a) n).2.2 ↔ (e ∈ (bldM a (n + 1)).2.2 ∨ e = silE n (bldM a (n + 1)).1 ∨ e = silE n (n + 1 + stM a) ∨ e = silE (bldM a (n + 1)).2.1 (bldM a (n + 1)).1 ∨ e = silE (bldM a (n + 1)).2.1 (n + 1 + stM a)) := fun e => by
      simp only [bldM, List.mem_append, List.mem_cons, List.not_mem_nil, or_false, or_assoc]
    constructor
    · intro hp
      have key : ∀ q j, Pth (bldM (.star a) n).2.2 l (n : Int) i q j →
          (q = (n : Int) ∧ i = j) ∨ (InS (n + 1) (stM a) q ∧ ∃ k, StarR (Mt l a) i k ∧ Pth (bldM a (n + 1)).2.2 l ((bldM a (n + 1)).1 : Int) k q j) ∨ (q = ((n + 1 + stM a : Nat) : Int) ∧ StarR (Mt l a) i j) := by
        intro q j hp
        have hs : InS (n + 1) (stM a) ((bldM a (n + 1)).1 : Int) := by unfold InS; omega
        induction hp with
        | refl => exact .inl ⟨rfl, rfl⟩
        | @sil q j e _ h1 h2 h3 ih =>
          rcases (emem e).1 h1 with h1 | rfl | rfl | rfl | rfl
          · have e1 := ea e h1
            rcases ih with ⟨hq, -⟩ | ⟨hq, k, hk, ih⟩ | ⟨hq, -⟩
            · omega
            · exact .inr (.inl ⟨⟨by omega, by omega⟩, k, hk, .sil ih h1 h2 h3⟩)
            · omega
          · have h3 : (n : Int) = q := h3
            rcases ih with ⟨hq, rfl⟩ | ⟨hq, -⟩ | ⟨hq, -⟩
            · exact .inr (.inl ⟨hs, i, .refl, .refl⟩)
            · unfold InS at hq; omega
            · omega
          · have h3 : (n : Int) = q := h3
            rcases ih with ⟨hq, rfl⟩ | ⟨hq, -⟩ | ⟨hq, -⟩
            · exact .inr (.inr ⟨rfl, .refl⟩)
            · unfold InS at hq; omega
            · omega
          · have h3 : ((bldM a (n + 1)).2.1 : Int) = q := h3
            rcases ih with ⟨hq, -⟩ | ⟨hq, k, hk, ih⟩ | ⟨hq, -⟩
            · omega
            · rw [← h3] at ih
              exact .inr (.inl ⟨hs, j, .step hk ((ta k j).1 ih), .refl⟩)
            · omega
          · have h3 : ((bldM a (n + 1)).2.1 : Int) = q := h3
            rcases ih with ⟨hq, -⟩ | ⟨hq, k, hk, ih⟩ | ⟨hq, -⟩
            · omega
            · rw [← h3] at ih
              exact .inr (.inr ⟨rfl, .step hk ((ta k j).1 ih)⟩)
            · omega
        | @eat q j c e _ h1 h2 h3 h4 h5 ih =>
          rcases (emem e).1 h1 with h1 | rfl | rfl | rfl | rfl
          · have e1 := ea e h1
            rcases ih with ⟨hq, -⟩ | ⟨hq, k, hk, ih⟩ | ⟨hq, -⟩
            · omega
            · exact .inr (.inl ⟨⟨by omega, by omega⟩, k, hk, .eat ih h1 h2 h3 h4 h5⟩)
            · omega
          all_goals cases h2
      rcases key _ _ hp with ⟨hq, -⟩ | ⟨hq, -⟩ | ⟨-, hm⟩
      · have hq : ((n + 1 + stM a : Nat) : Int) = (n : Int) := hq
        omega
      · have hq : InS (n + 1) (stM a) ((n + 1 + stM a : Nat) : Int) := hq
        unfold InS at hq; omega
      · exact hm
    · intro hm
      have key : ∀ k, StarR (Mt l a) i k → k = i ∨ Pth (bldM (.star a) n).2.2 l (n : Int) i ((bldM a (n + 1)).2.1 : Int) k := by
        intro k hk
        induction hk with
        | refl => exact .inl rfl
        | @step k j hk hj ih =>
          have pa := ((ta k j).2 hj).mono (es' := (bldM (.star a) n).2.2) fun e he => (emem e).2 (.inl he)
          rcases ih with rfl | ih
          · exact .inr ((Pth.one (l := l) ((emem _).2 (.inr (.inl rfl)))).trans pa)
          · exact .inr ((ih.trans (Pth.one ((emem _).2 (.inr (.inr (.inr (.inl rfl))))))).trans pa)
      rcases key j hm with rfl | hp
      · exact Pth.one ((emem _).2 (.inr (.inr (.inl rfl))))
      · exact hp.trans (Pth.one ((emem _).2 (.inr (.inr (.inr (.inr rfl))))))
  | .and_ _ _, h, _, _, _ => by cases h
  | .minus _ _, h, _, _, _ => by cases h
/-! ### what the automaton's run reaches -/
theorem run_pth {a : NfM} {l : List Nat} (hs : a.has a.start = true) (ht : ∀ e ∈ a.edges, a.has e.to = true) {q : Int} {j : Nat} (h : Pth a.edges l a.start 0 q j) : j ≤ l.length ∧ rchS a (l.take j) q := by
  induction h with
  | refl => exact ⟨Nat.zero_le _, a.start, ⟨rfl, hs⟩, .refl _⟩
  | @sil q j e _ h1 h2 h3 ih => exact ⟨ih.1, rchS_shut a _ e h1 h2 (ht e h1) (by rw [h3]; exact ih.2)⟩
  | @eat q j c e _ h1 h2 h3 h4 h5 ih =>
    have hj := (List.getElem?_eq_some_iff.1 h4).1
    refine ⟨hj, ?_⟩
    have e1 : l.take (j + 1) = l.take j ++ [c] := by rw [List.take_add_one, h4]; rfl
    rw [e1, rchS_snoc]
    exact clS_in ⟨e, h1, h2, h5, by rw [h3]; exact ih.2, ht e h1, rfl⟩
theorem pth_run {a : NfM} {l : List Nat} : ∀ {j : Nat}, j ≤ l.length → ∀ q, rchS a (l.take j) q → Pth a.edges l a.start 0 q j
  | 0, _, q, h => by
    refine clS_least (Y := fun q => Pth a.edges l a.start 0 q 0) (fun q hq => ?_) (fun e h1 h2 h3 h4 => .sil h4 h1 h2 rfl) q h
    rw [hq.1]; exact .refl
  | j + 1, hj, q, h => by
    have hjl : j < l.length := hj
    have e1 : l.take (j + 1) = l.take j ++ [l[j]] := by rw [List.take_add_one, List.getElem?_eq_getElem hjl]; rfl
    rw [e1, rchS_snoc] at h
    refine clS_least (Y := fun q => Pth a.edges l a.start 0 q (j + 1)) (fun q hq => ?_) (fun e h1 h2 h3 h4 => .sil h4 h1 h2 rfl) q h
    obtain ⟨e, h1, h2, h3, h4, h5, rfl⟩ := hq
    exact .eat (pth_run (by omega) e.fr h4) h1 h2 rfl (List.getElem?_eq_getElem hjl) h3
theorem nfaOf_acc {r : ReM} (hpl : r.plain = true) (hst : stM r ≤ 65536) (l : List Nat) : accN (nfaOf r) l = true ↔ Mt l r 0 l.length := by
  have hin := bldM_in r hpl 0
  have hed := bldM_edges r hpl 0
  have hs : (nfaOf r).has (nfaOf r).start = true := NfM.has_iff.2 ⟨by show (0 : Int) ≤ (((bldM r 0).1 : Nat) : Int); omega, by show (((bldM r 0).1 : Nat) : Int) < ((stM r : Nat) : Int); omega, by show ((stM r : Nat) : Int) ≤ 65536; omega⟩
  have ht : ∀ e ∈ (nfaOf r).edges, (nfaOf r).has e.to = true := fun e he => by
    have := hed e he
    exact NfM.has_iff.2 ⟨by omega, by show e.to < ((stM r : Nat) : Int); omega, by show ((stM r : Nat) : Int) ≤ 65536; omega⟩
  rw [accN_iff, ← thompson l r hpl 0 0 l.length]
  constructor
  · intro h
    have := pth_run (a := nfaOf r) (l := l) (Nat.le_refl _) (nfaOf r).fin (by rw [List.take_length]; exact h)
    exact this
  · intro h
    have := (run_pth hs ht (l := l) (q := (nfaOf r).fin) (j := l.length) h).2
    rw [List.take_length] at this
    exact this
end Go.Proofs.YtlnmhfhdjnenoaaGreatDoor
/- louperef03: join: the walk. -/
set_option linter.unusedVariables false
set_option linter.unusedSimpArgs false
set_option maxRecDepth 100000
namespace Go.Proofs.YtlnmhfhdjnenoaaGreatDoor
open Go.VC Go.Lib
def orL (xs ys : List Bool) (k : Nat) : List Bool := (List.zipWith (· || ·) (xs.take k) (ys.take k)) ++ xs.drop k
theorem orL_len {xs ys : List Bool} (h : ys.length = xs.length) {k : Nat} (hk : k ≤ xs.length) : (orL xs ys k).length = xs.length := by unfold orL; simp [h]; omega
theorem orL_get {xs ys : List Bool} {k : Nat} {x : Bool} (h : ys.length = xs.length) (hx : xs[k]? = some x) : (orL xs ys k)[k]? = some x := by
  have hl := (List.getElem?_eq_some_iff.1 hx).1
  unfold orL
  rw [List.getElem?_append_right (by simp [h]; omega)]
  simp [h]
  rw [show min k xs.length = k by omega, Nat.sub_self, Nat.add_zero]; exact hx
theorem orL_next {xs ys : List Bool} {k : Nat} {x y : Bool} (h : ys.length = xs.length) (hx : xs[k]? = some x) (hy : ys[k]? = some y) : (orL xs ys k).set k (x || y) = orL xs ys (k + 1) := by
  have hl := (List.getElem?_eq_some_iff.1 hx).1
  have e1 : xs.drop k = x :: xs.drop (k + 1) := by rw [List.drop_eq_getElem_cons hl, (List.getElem?_eq_some_iff.1 hx).2]
  have e2 : xs.take (k + 1) = xs.take k ++ [x] := by rw [List.take_add_one, hx]; rfl
  have e3 : ys.take (k + 1) = ys.take k ++ [y] := by rw [List.take_add_one, hy]; rfl
  unfold orL
  rw [e1, e2, e3, List.zipWith_append (by simp [h])]
  rw [List.set_append_right _ _ (by simp [h]; omega)]
  simp [h]
  rw [show k - min k xs.length = 0 by omega]
  rfl
set_option maxHeartbeats 4000000 in
theorem join_b {B : Nat → Prop} {H0 H : Heap} {ps : List Pc} {k kb ob rb n : Nat} {xs ys : List Bool} {p : Pc} (st : StB B H0 H ps) (hp : ps[k]? = some (pS tBool 4 (some ⟨ob, 0, none⟩) n n xs)) (hpb : ps[kb]? = some p) (hkk : k ≠ kb)
    (hb : ∀ H', p.ok H' → Blk H' rb 4 (ys.map Value.bool)) (hl : ys.length = xs.length) (hm : n ≤ 4194304) :
    FnOk Tryz.prog 69 #[.slice (some ⟨ob, 0, none⟩) n n, .slice (some ⟨rb, 0, none⟩) n n] H (fun _ H' => StB B H0 H' (ps.set k (pS tBool 4 (some ⟨ob, 0, none⟩) n n (orL xs ys xs.length)))) := by
  have hn := st.len k hp
  refine FnOk.of_vc Tryz.func69 rfl (Tryz.call69 _) ?_
  (conv => whnf)
  refine VLoop.mk [4] (fun j : Nat => [.int .i64 (j : Int)]) (fun j G => j ≤ xs.length ∧ StB B H0 G (ps.set k (pS tBool 4 (some ⟨ob, 0, none⟩) n n (orL xs ys j)))) (fun j _ => xs.length - j) ?_ ?_
  · (conv => whnf)
    refine ⟨0, rfl, Nat.zero_le _, ?_⟩
    have e : orL xs ys 0 = xs := rfl
    rw [e, set_self hp]; exact st
  · rintro j G junk ⟨hj, stg⟩
    have hpg : (ps.set k (pS tBool 4 (some ⟨ob, 0, none⟩) n n (orL xs ys j)))[k]? = some (pS tBool 4 (some ⟨ob, 0, none⟩) n n (orL xs ys j)) := set_get hp
    have hpb' : (ps.set k (pS tBool 4 (some ⟨ob, 0, none⟩) n n (orL xs ys j)))[kb]? = some p := by rw [List.getElem?_set_ne hkk]; exact hpb
    (conv => whnf); refine VIte.mk (fun hz => ?_) (fun hz => ?_) <;> simp only [decide_eq_true_eq, decide_eq_false_iff_not] at hz
    · have hjl : j < xs.length := by omega
      obtain ⟨x, hx⟩ : ∃ x, xs[j]? = some x := ⟨_, List.getElem?_eq_getElem hjl⟩
      obtain ⟨y, hy⟩ : ∃ y, ys[j]? = some y := ⟨_, List.getElem?_eq_getElem (by omega)⟩
      have hlj := orL_len hl hj
      have fin : ∀ z : Bool, z = (x || y) → ∀ K : Heap → Prop, (∀ G', StB B H0 G' (ps.set k (pS tBool 4 (some ⟨ob, 0, none⟩) n n (orL xs ys (j + 1)))) → K G') → VEffU Tryz.prog (Instr.storeAt 4 (.pointer (some ⟨ob, j * tBool.size, none⟩)) (.bool z)) G K := fun z hz K kk => by
        refine st1O (T := tBool) (j := j) (x := z) stg k ct4 hpg rfl (Nat.mul_one _) (by omega) rfl (fun _ _ => rfl) fun G' st' => kk G' ?_
        rw [List.set_set, hz, orL_next hl hx hy] at st'
        exact st'
      (conv => whnf); try (refine VSeq.run ?_)
      (conv => whnf); refine ixO (j := j) (x := x) sl111 stg k hpg (orL_get hl hx) rfl fun b9 o9 cs9 hO9 hc9 hr9 => ?_
      obtain rfl := hr9
      (conv => whnf); refine ld1 ct4 hc9.one trivial ?_
      cases x with
      | true =>
        (conv => whnf); refine ixE (T := tBool) (j := j) sl111 stg k hpg (by omega) rfl ?_
        (conv => whnf); refine fin true rfl _ fun G' st' => ?_
        (conv => whnf); rw [w64 (x := (j : Int) + 1) (by omega) (by omega)]
        exact ⟨rfl, j + 1, rfl, ⟨hjl, st'⟩, by omega⟩
      | false =>
        have hbk := hb G (stg.at_ kb hpb')
        (conv => whnf); refine ix sl111 (by omega) (by omega) ?_
        (conv => whnf); refine ld1 (v := .bool y) ct4 (by rw [hbk.cell, Int.toNat_natCast, Nat.mul_one, Nat.zero_add, List.getElem?_map, hy]; rfl) trivial ?_
        (conv => whnf); refine ixE (T := tBool) (j := j) sl111 stg k hpg (by omega) rfl ?_
        (conv => whnf); refine fin y (by simp) _ fun G' st' => ?_
        (conv => whnf); rw [w64 (x := (j : Int) + 1) (by omega) (by omega)]
        exact ⟨rfl, j + 1, rfl, ⟨hjl, st'⟩, by omega⟩
    · obtain rfl : j = xs.length := by omega
      (conv => whnf)
      exact stg
end Go.Proofs.YtlnmhfhdjnenoaaGreatDoor
/- louperef03: the table of rows as1 a piece of the memory. -/
set_option linter.unusedVariables false
set_option linter.unusedSimpArgs false
set_option maxRecDepth 100000
namespace Go.Proofs.YtlnmhfhdjnenoaaGreatDoor
open Go.VC Go.Lib
def memC (m : Nat → Option Nat) (L : Nat) : List Value := (List.range (L + 1)).map fun i => match m i with | none => .slice none 0 0 | some rb => .slice (some ⟨rb, 0, none⟩) (L + 1) (L + 1)
/-- mb: the list of the nodes' lists (nbs); m j i: the block of the row of node j from place i, where it has been found; R: what a row holds. -/
structure MemoOk (mb : Nat) (nbs : List Nat) (L : Nat) (m : Nat → Nat → Option Nat) (R : Nat → Nat → List Bool) (H : Heap) : Prop where
  top : Blk H mb 159 (nbs.map fun nb => .slice (some ⟨nb, 0, none⟩) (L + 1) (L + 1))
  rows : ∀ (j nb : Nat), nbs[j]? = some nb → Blk H nb 111 (memC (m j) L)
  cont : ∀ (j i rb : Nat), m j i = some rb → Blk H rb 4 ((R j i).map Value.bool)
  nd : nbs.Nodup
  ntop : mb ∉ nbs
  nrow : ∀ (j i rb : Nat), m j i = some rb → rb ≠ mb ∧ rb ∉ nbs
  dom : ∀ (j i rb : Nat), m j i = some rb → j < nbs.length ∧ i ≤ L
def pMemo (mb : Nat) (nbs : List Nat) (L : Nat) (m : Nat → Nat → Option Nat) (R : Nat → Nat → List Bool) : Pc where
  foot k := k = mb ∨ k ∈ nbs ∨ ∃ j i, m j i = some k
  ok H := MemoOk mb nbs L m R H
  fr h hp := ⟨hp.top.agr h (.inl rfl), fun j nb hj => (hp.rows j nb hj).agr h (.inr (.inl (List.mem_of_getElem? hj))), fun j i rb hm => (hp.cont j i rb hm).agr h (.inr (.inr ⟨j, i, hm⟩)), hp.nd, hp.ntop, hp.nrow, hp.dom⟩
theorem memC_get {m : Nat → Option Nat} {L i : Nat} (hi : i ≤ L) : (memC m L)[i]? = some (match m i with | none => .slice none 0 0 | some rb => .slice (some ⟨rb, 0, none⟩) (L + 1) (L + 1)) := by
  unfold memC
  rw [List.getElem?_map, List.getElem?_range (by omega)]; rfl
theorem memC_len (m : Nat → Option Nat) (L : Nat) : (memC m L).length = L + 1 := by unfold memC; simp
def putM (m : Nat → Nat → Option Nat) (j i rb : Nat) : Nat → Nat → Option Nat := fun j' i' => if j' = j ∧ i' = i then some rb else m j' i'
theorem memC_put {m : Nat → Nat → Option Nat} {L j i rb : Nat} (hi : i ≤ L) : (memC (m j) L).set i (.slice (some ⟨rb, 0, none⟩) (L + 1) (L + 1)) = memC (putM m j i rb j) L := by
  apply List.ext_getElem?
  intro x
  by_cases hx : x ≤ L
  · rw [memC_get hx]
    by_cases hxi : x = i
    · subst hxi
      rw [List.getElem?_set_self (by rw [memC_len]; omega)]
      unfold putM; simp
    · rw [List.getElem?_set_ne (by omega), memC_get hx]
      unfold putM; simp [hxi]
  · rw [List.getElem?_eq_none (by rw [List.length_set, memC_len]; omega), List.getElem?_eq_none (by rw [memC_len]; omega)]
/-- The block of a row that is full. -/
theorem row_blk {B : Nat → Prop} {H0 H : Heap} {ps : List Pc} {k ob n : Nat} {xs : List Bool} (st : StB B H0 H ps) (hp : ps[k]? = some (pS tBool 4 (some ⟨ob, 0, none⟩) n n xs)) : Blk H ob 4 (xs.map Value.bool) := by
  have hn := st.len k hp
  obtain ⟨cs, ⟨h0, h1⟩, h2⟩ := (st.at_ k hp).1
  have hcs : ∀ (xs : List Bool) (cs : List Value), tBool.reps none_ H cs xs → cs = xs.map Value.bool := by
    intro xs
    induction xs with
    | nil => intro cs h; exact h
    | cons x xs ih =>
      rintro cs ⟨c, r, rfl, hc, hr⟩
      rw [show c = [Value.bool x] from hc, ih r hr]; rfl
  rcases h1 with ⟨h1, h3⟩ | ⟨b, cap', l, h1, h4, h5, h6, h7, h8, h9⟩
  · cases h1
  · cases h1
    have e : l = cs := by
      have h8' : l.length = xs.length := by rw [h8]; show _ * 1 = _; omega
      rw [← h9, List.take_of_length_le (by rw [h8']; show _ ≤ _ * 1; omega)]
    rw [← hcs xs cs h2, ← e]
    exact h5
/-- A finished row is kept. -/
theorem stMemo {B : Nat → Prop} {H0 H : Heap} {ps : List Pc} {mb nb j i ob L : Nat} {nbs : List Nat} {m : Nat → Nat → Option Nat} {R : Nat → Nat → List Bool} {xs : List Bool} {K : Heap → Prop}
    (st : StB B H0 H (pMemo mb nbs L m R :: (ps ++ [pS tBool 4 (some ⟨ob, 0, none⟩) (L + 1) (L + 1) xs]))) (hj : nbs[j]? = some nb) (hi : i ≤ L) (hR : R j i = xs)
    (k : ∀ H', StB B H0 H' (pMemo mb nbs L (putM m j i ob) R :: ps) → K H') : VEffU Tryz.prog (Instr.storeAt 111 (.pointer (some ⟨nb, i, none⟩)) (.slice (some ⟨ob, 0, none⟩) (L + 1) (L + 1))) H K := by
  have hok : MemoOk mb nbs L m R H := st.at_ 0 rfl
  have hlast : (pMemo mb nbs L m R :: (ps ++ [pS tBool 4 (some ⟨ob, 0, none⟩) (L + 1) (L + 1) xs]))[(pMemo mb nbs L m R :: ps).length + 0]? = some (pS tBool 4 (some ⟨ob, 0, none⟩) (L + 1) (L + 1) xs) := lgR (pMemo mb nbs L m R :: ps) [pS tBool 4 (some ⟨ob, 0, none⟩) (L + 1) (L + 1) xs] 0
  have hob := row_blk st hlast
  have hobf : (pS tBool 4 (some ⟨ob, 0, none⟩) (L + 1) (L + 1) xs).foot ob := .inl ⟨0, L + 1, L + 1, rfl⟩
  have hdis := st.apart2 (i := 0) (j := (pMemo mb nbs L m R :: ps).length + 0) rfl hlast (by simp)
  have hnob : ¬ (pMemo mb nbs L m R).foot ob := fun h => hdis ob h hobf
  have hnb : nb ∈ nbs := List.mem_of_getElem? hj
  have hblk := hok.rows j nb hj
  have hjl := (List.getElem?_eq_some_iff.1 hj).1
  refine VC.st1 ct111 hblk (by rw [memC_len]; omega) rfl ?_
  intro H' hb' ha' hs'
  have hne : ∀ b, b ≠ nb → H'[b]? = H[b]? := fun b hb => ha' b hb
  have hmb : mb ≠ nb := fun e => hok.ntop (e ▸ hnb)
  have hobn : ob ≠ nb := fun e => hnob (.inr (.inl (e ▸ hnb)))
  have hok' : MemoOk mb nbs L (putM m j i ob) R H' := by
    refine ⟨hok.top.agr ha' hmb, fun j' nb' hj' => ?_, fun j' i' rb hm' => ?_, hok.nd, hok.ntop, fun j' i' rb hm' => ?_, fun j' i' rb hm' => ?_⟩
    · by_cases hjj : j' = j
      · subst hjj
        rw [hj] at hj'
        cases hj'
        rw [memC_put hi] at hb'
        exact hb'
      · have hnn : nb' ≠ nb := fun e => hjj ((List.getElem?_inj (List.getElem?_eq_some_iff.1 hj').1 hok.nd).1 (by rw [hj', hj, e]))
        have e : putM m j i ob j' = m j' := by funext x; unfold putM; rw [if_neg (fun h => hjj h.1)]
        rw [e]
        exact (hok.rows j' nb' hj').agr ha' hnn
    · unfold putM at hm'
      split at hm'
      · rename_i h
        cases hm'
        rw [h.1, h.2, hR]
        exact hob.agr ha' hobn
      · exact (hok.cont j' i' rb hm').agr ha' (fun e => (hok.nrow j' i' rb hm').2 (e ▸ hnb))
    · unfold putM at hm'
      split at hm'
      · cases hm'
        exact ⟨fun e => hnob (.inl e), fun h => hnob (.inr (.inl h))⟩
      · exact hok.nrow j' i' rb hm'
    · unfold putM at hm'
      split at hm'
      · rename_i h
        rw [h.1, h.2]; exact ⟨hjl, hi⟩
      · exact hok.dom j' i' rb hm'
  refine k H' ?_
  have st2 : StB B H0 H (pMemo mb nbs L m R :: ps) := st.subl (List.Sublist.cons_cons _ (List.sublist_append_left _ _))
  have hr0 := st.rng _ List.mem_cons_self
  refine ⟨fun b hb => (hne b fun e => (hr0 nb (.inr (.inl hnb))).1 (e ▸ hb)).trans (st.old b hb), st.lt0, by have := st.size; omega, fun p hp => ?_, fun p hp b hb => ?_, ?_⟩
  · rcases List.mem_cons.1 hp with rfl | hp
    · exact hok'
    · refine p.fr (H := H) (fun b hb => hne b fun e => ?_) (st2.oks p (List.mem_cons_of_mem _ hp))
      exact (List.pairwise_cons.1 st2.dis).1 p hp nb (.inr (.inl hnb)) (e ▸ hb)
  · have hsz : ∀ b, b < H.size → b < H'.size := fun b hb => by omega
    rcases List.mem_cons.1 hp with rfl | hp
    · rcases hb with hb | hb | ⟨j', i', hb⟩
      · exact ⟨(hr0 b (.inl hb)).1, hsz _ (hr0 b (.inl hb)).2⟩
      · exact ⟨(hr0 b (.inr (.inl hb))).1, hsz _ (hr0 b (.inr (.inl hb))).2⟩
      · unfold putM at hb
        split at hb
        · cases hb
          have := st.in_ _ hlast hobf
          exact ⟨this.1, hsz _ this.2⟩
        · exact ⟨(hr0 b (.inr (.inr ⟨j', i', hb⟩))).1, hsz _ (hr0 b (.inr (.inr ⟨j', i', hb⟩))).2⟩
    · have := st2.rng p (List.mem_cons_of_mem _ hp) b hb
      exact ⟨this.1, hsz _ this.2⟩
  · refine List.pairwise_cons.2 ⟨fun p hp b hb hb2 => ?_, (List.pairwise_cons.1 st2.dis).2⟩
    have hd0 := (List.pairwise_cons.1 st2.dis).1 p hp
    rcases hb with hb | hb | ⟨j', i', hb⟩
    · exact hd0 b (.inl hb) hb2
    · exact hd0 b (.inr (.inl hb)) hb2
    · unfold putM at hb
      split at hb
      · cases hb
        obtain ⟨x, hx⟩ := List.getElem?_of_mem hp
        have hx' : (pMemo mb nbs L m R :: (ps ++ [pS tBool 4 (some ⟨ob, 0, none⟩) (L + 1) (L + 1) xs]))[x + 1]? = some p := by
          show (ps ++ [_])[x]? = some p
          exact lgL hx
        have hxl := (List.getElem?_eq_some_iff.1 hx).1
        exact st.apart2 (i := x + 1) (j := (pMemo mb nbs L m R :: ps).length + 0) hx' hlast (by simp only [List.length_cons]; omega) ob hb2 hobf
      · exact hd0 b (.inr (.inr ⟨j', i', hb⟩)) hb2
end Go.Proofs.YtlnmhfhdjnenoaaGreatDoor
/- Rows of membership; plain law. -/
set_option linter.unusedVariables false
set_option linter.unusedSimpArgs false
set_option maxRecDepth 100000
namespace Go.Proofs.YtlnmhfhdjnenoaaGreatDoor
open Go.VC Go.Lib
theorem TreeAt.inj {ns : List RnM} : ∀ {r r' : ReM} {i : Nat}, TreeAt ns r i → TreeAt ns r' i → r = r' := by
  have one : ∀ {i : Nat} {d d' : RnM}, ns[i]? = some d → ns[i]? = some d' → d = d' := fun h h' => Option.some.inj (h.symm.trans h')
  intro r
  induction r with
  | eps =>
    rintro r' i ⟨d, h1, h2⟩ h
    cases r' with
    | eps => rfl
    | cls s => obtain ⟨d', k1, k2, -⟩ := h; rw [one h1 k1, k2] at h2; cases h2
    | star a => obtain ⟨d', j, k1, k2, -⟩ := h; rw [one h1 k1, k2] at h2; cases h2
    | _ => obtain ⟨d', j, k, k1, k2, -⟩ := h; rw [one h1 k1, k2] at h2; cases h2
  | cls s =>
    rintro r' i ⟨d, h1, h2, h3⟩ h
    cases r' with
    | eps => obtain ⟨d', k1, k2⟩ := h; rw [one h1 k1, k2] at h2; cases h2
    | cls s' => obtain ⟨d', k1, k2, k3⟩ := h; rw [← h3, ← k3, one h1 k1]
    | star a => obtain ⟨d', j, k1, k2, -⟩ := h; rw [one h1 k1, k2] at h2; cases h2
    | _ => obtain ⟨d', j, k, k1, k2, -⟩ := h; rw [one h1 k1, k2] at h2; cases h2
  | star a ih =>
    rintro r' i ⟨d, j, h1, h2, h3, h4⟩ h
    cases r' with
    | eps => obtain ⟨d', k1, k2⟩ := h; rw [one h1 k1, k2] at h2; cases h2
    | cls s => obtain ⟨d', k1, k2, -⟩ := h; rw [one h1 k1, k2] at h2; cases h2
    | star a' =>
      obtain ⟨d', j', k1, k2, k3, k4⟩ := h
      have e := one h1 k1
      subst e
      have : j = j' := by omega
      subst this
      rw [ih h4 k4]
    | _ => obtain ⟨d', j', k', k1, k2, -⟩ := h; rw [one h1 k1, k2] at h2; cases h2
  | _ a b iha ihb =>
    rintro r' i ⟨d, j, k, h1, h2, h3, h4, h5, h6⟩ h
    cases r' with
    | eps => obtain ⟨d', k1, k2⟩ := h; rw [one h1 k1, k2] at h2; cases h2
    | cls s => obtain ⟨d', k1, k2, -⟩ := h; rw [one h1 k1, k2] at h2; cases h2
    | star a' => obtain ⟨d', j', k1, k2, -⟩ := h; rw [one h1 k1, k2] at h2; cases h2
    | _ a' b' =>
      obtain ⟨d', j', k', k1, k2, k3, k4, k5, k6⟩ := h
      have e := one h1 k1
      subst e
      first
        | (have e1 : j = j' := by omega
           have e2 : k = k' := by omega
           subst e1 e2
           rw [iha h5 k5, ihb h6 k6]
           done)
        | (rw [k2] at h2; cases h2)
theorem Mt_le {l : List Nat} : ∀ {r : ReM} {i j : Nat}, Mt l r i j → i ≤ j ∧ (i ≤ l.length → j ≤ l.length)
  | .eps, i, j, h => by rw [show i = j from h]; exact ⟨Nat.le_refl _, fun h => h⟩
  | .cls s, i, j, ⟨c, h1, _, h3⟩ => by have := (List.getElem?_eq_some_iff.1 h1).1; omega
  | .cat a b, i, j, ⟨k, h1, h2⟩ => by have := Mt_le h1; have := Mt_le h2; omega
  | .alt a b, i, j, h => by
    rcases h with h | h
    · exact Mt_le h
    · exact Mt_le h
  | .star a, i, j, h => by
    replace h : StarR (Mt l a) i j := h
    induction h with
    | refl => exact ⟨Nat.le_refl _, fun h => h⟩
    | step _ h2 ih => have := Mt_le h2; omega
  | .and_ a b, i, j, h => Mt_le h.1
  | .minus a b, i, j, h => Mt_le h.1
end Go.Proofs.YtlnmhfhdjnenoaaGreatDoor
/- Rows of membership: what the loops of louperef03's From keep; plain law. -/
set_option linter.unusedVariables false
set_option linter.unusedSimpArgs false
set_option maxRecDepth 100000
namespace Go.Proofs.YtlnmhfhdjnenoaaGreatDoor
open Go.VC Go.Lib
/-- The row of the places that are so. -/
noncomputable def rowP (L : Nat) (P : Nat → Prop) : List Bool := (List.range (L + 1)).map fun x => @decide (P x) (Classical.propDecidable _)
theorem rowP_len (L : Nat) (P : Nat → Prop) : (rowP L P).length = L + 1 := by unfold rowP; simp
theorem rowP_get {L x : Nat} (P : Nat → Prop) (h : x ≤ L) : (rowP L P)[x]? = some (@decide (P x) (Classical.propDecidable _)) := by
  unfold rowP
  rw [List.getElem?_map, List.getElem?_range (by omega)]; rfl
theorem rowP_ext {L : Nat} {xs : List Bool} {P : Nat → Prop} (hl : xs.length = L + 1) (h : ∀ x b, x ≤ L → xs[x]? = some b → (b = true ↔ P x)) : xs = rowP L P := by
  apply List.ext_getElem?
  intro x
  by_cases hx : x ≤ L
  · obtain ⟨b, hb⟩ : ∃ b, xs[x]? = some b := ⟨_, List.getElem?_eq_getElem (by omega)⟩
    rw [rowP_get P hx, hb]
    have := h x b hx hb
    by_cases hp : P x
    · rw [this.2 hp, @decide_eq_true (P x) (Classical.propDecidable _) hp]
    · rw [@decide_eq_false (P x) (Classical.propDecidable _) hp]
      cases b with
      | true => exact absurd (this.1 rfl) hp
      | false => rfl
  · rw [List.getElem?_eq_none (by omega), List.getElem?_eq_none (by rw [rowP_len]; omega)]
theorem rowP_is {L x : Nat} {P : Nat → Prop} {b : Bool} (hx : x ≤ L) (h : (rowP L P)[x]? = some b) : b = true ↔ P x := by
  rw [rowP_get P hx] at h
  cases h
  exact @decide_eq_true_iff (P x) (Classical.propDecidable _)
theorem rowP_congr {L : Nat} {P Q : Nat → Prop} (h : ∀ x, x ≤ L → (P x ↔ Q x)) : rowP L P = rowP L Q := rowP_ext (rowP_len L P) fun x b hx hb => (rowP_is hx hb).trans (h x hx)
theorem rowP_none (L : Nat) : List.replicate (L + 1) false = rowP L fun _ => False := rowP_ext (by simp) fun x b hx hb => by
  rw [List.getElem?_replicate, if_pos (by omega)] at hb
  cases hb; simp
theorem rowP_set {L k : Nat} {P : Nat → Prop} {b : Bool} (hk : k ≤ L) : (rowP L P).set k b = rowP L fun x => if x = k then b = true else P x := rowP_ext (by rw [List.length_set, rowP_len]) fun x c hx hc => by
  by_cases e : x = k
  · subst e
    rw [List.getElem?_set_self (by rw [rowP_len]; omega)] at hc
    cases hc
    rw [if_pos rfl]
  · rw [List.getElem?_set_ne (fun h => e h.symm)] at hc
    rw [if_neg e]
    exact rowP_is hx hc
theorem rowP_or {L : Nat} (P Q : Nat → Prop) : orL (rowP L P) (rowP L Q) (L + 1) = rowP L fun x => P x ∨ Q x := rowP_ext (by rw [orL_len (by rw [rowP_len, rowP_len]) (by rw [rowP_len]; omega), rowP_len]) fun x b hx hb => by
  unfold orL at hb
  rw [List.take_of_length_le (by rw [rowP_len]; omega), List.take_of_length_le (by rw [rowP_len]; omega), List.drop_eq_nil_of_le (by rw [rowP_len]; omega), List.append_nil, List.getElem?_zipWith, rowP_get P hx, rowP_get Q hx] at hb
  simp only [Option.some.injEq] at hb
  subst hb
  rw [Bool.or_eq_true, @decide_eq_true_iff (P x) (Classical.propDecidable _), @decide_eq_true_iff (Q x) (Classical.propDecidable _)]
/-- What the row of a node from a place is. -/
noncomputable def rowR (ns : List RnM) (l : List Nat) (j i : Nat) : List Bool := rowP l.length fun x => ∃ r, TreeAt ns r j ∧ Mt l r i x
theorem rowR_eq {ns : List RnM} {l : List Nat} {r : ReM} {j : Nat} (h : TreeAt ns r j) (i : Nat) : rowR ns l j i = rowP l.length fun x => Mt l r i x :=
  rowP_congr fun x _ => ⟨fun ⟨r', h1, h2⟩ => by rw [h.inj h1]; exact h2, fun h2 => ⟨r, h, h2⟩⟩
/-! ### the loops of From -/
def catP (l : List Nat) (a b : ReM) (i k x : Nat) : Prop := ∃ j, j < k ∧ Mt l a i j ∧ Mt l b j x
theorem catP_zero (l : List Nat) (a b : ReM) (i : Nat) : (rowP l.length fun _ => False) = rowP l.length (catP l a b i i) := rowP_congr fun x _ => ⟨fun h => h.elim, fun ⟨j, h1, h2, _⟩ => by have := (Mt_le h2).1; omega⟩
theorem catP_skip {l : List Nat} {a b : ReM} {i k : Nat} (h : ¬ Mt l a i k) : rowP l.length (catP l a b i k) = rowP l.length (catP l a b i (k + 1)) := rowP_congr fun x _ =>
  ⟨fun ⟨j, h1, h2, h3⟩ => ⟨j, by omega, h2, h3⟩, fun ⟨j, h1, h2, h3⟩ => ⟨j, by
    have : j ≠ k := fun e => h (e ▸ h2)
    omega, h2, h3⟩⟩
theorem catP_take {l : List Nat} {a b : ReM} {i k : Nat} (h : Mt l a i k) : orL (rowP l.length (catP l a b i k)) (rowP l.length fun x => Mt l b k x) (l.length + 1) = rowP l.length (catP l a b i (k + 1)) := by
  rw [rowP_or]
  refine rowP_congr fun x _ => ⟨fun hx => ?_, fun ⟨j, h1, h2, h3⟩ => ?_⟩
  · rcases hx with ⟨j, h1, h2, h3⟩ | h3
    · exact ⟨j, by omega, h2, h3⟩
    · exact ⟨k, by omega, h, h3⟩
  · by_cases e : j = k
    · exact .inr (e ▸ h3)
    · exact .inl ⟨j, by omega, h2, h3⟩
theorem catP_end {l : List Nat} {a b : ReM} {i : Nat} (hi : i ≤ l.length) : rowP l.length (catP l a b i (l.length + 1)) = rowP l.length fun x => Mt l (.cat a b) i x :=
  rowP_congr fun x _ => ⟨fun ⟨j, _, h2, h3⟩ => ⟨j, h2, h3⟩, fun ⟨j, h2, h3⟩ => ⟨j, by have := (Mt_le h2).2 hi; omega, h2, h3⟩⟩
def starP (l : List Nat) (a : ReM) (i k x : Nat) : Prop := x = i ∨ ∃ j, j < k ∧ StarR (Mt l a) i j ∧ Mt l a j x
theorem starP_zero {l : List Nat} {a : ReM} {i : Nat} (hi : i ≤ l.length) : (rowP l.length fun _ => False).set i true = rowP l.length (starP l a i i) := by
  rw [rowP_set hi]
  refine rowP_congr fun x _ => ⟨fun h => ?_, fun h => ?_⟩
  · split at h
    · rename_i e; exact .inl e
    · exact h.elim
  · rcases h with h | ⟨j, h1, h2, _⟩
    · rw [if_pos h]
    · have := (Mt_le (r := .star a) (l := l) (i := i) (j := j) h2).1; omega
theorem starP_here {l : List Nat} {a : ReM} {i k : Nat} : starP l a i k k ↔ StarR (Mt l a) i k := by
  constructor
  · rintro (h | ⟨j, h1, h2, h3⟩)
    · rw [h]; exact .refl
    · exact .step h2 h3
  · intro h
    induction h with
    | refl => exact .inl rfl
    | @step j k h1 h2 ih =>
      have := (Mt_le h2).1
      by_cases e : j = k
      · exact e ▸ ih
      · exact .inr ⟨j, by omega, h1, h2⟩
theorem starP_skip {l : List Nat} {a : ReM} {i k : Nat} (h : ¬ starP l a i k k) : rowP l.length (starP l a i k) = rowP l.length (starP l a i (k + 1)) := rowP_congr fun x _ => by
  rw [starP_here] at h
  constructor
  · rintro (h1 | ⟨j, h1, h2, h3⟩)
    · exact .inl h1
    · exact .inr ⟨j, by omega, h2, h3⟩
  · rintro (h1 | ⟨j, h1, h2, h3⟩)
    · exact .inl h1
    · have : j ≠ k := fun e => h (e ▸ h2)
      exact .inr ⟨j, by omega, h2, h3⟩
theorem starP_take {l : List Nat} {a : ReM} {i k : Nat} (h : starP l a i k k) : orL (rowP l.length (starP l a i k)) (rowP l.length fun x => Mt l a k x) (l.length + 1) = rowP l.length (starP l a i (k + 1)) := by
  rw [rowP_or]
  rw [starP_here] at h
  refine rowP_congr fun x _ => ⟨fun hx => ?_, fun hx => ?_⟩
  · rcases hx with (h1 | ⟨j, h1, h2, h3⟩) | h3
    · exact .inl h1
    · exact .inr ⟨j, by omega, h2, h3⟩
    · exact .inr ⟨k, by omega, h, h3⟩
  · rcases hx with h1 | ⟨j, h1, h2, h3⟩
    · exact .inl (.inl h1)
    · by_cases e : j = k
      · exact .inr (e ▸ h3)
      · exact .inl (.inr ⟨j, by omega, h2, h3⟩)
theorem starP_end {l : List Nat} {a : ReM} {i : Nat} (hi : i ≤ l.length) : rowP l.length (starP l a i (l.length + 1)) = rowP l.length fun x => Mt l (.star a) i x :=
  rowP_congr fun x _ => ⟨fun h => by
    rcases h with h | ⟨j, _, h2, h3⟩
    · rw [h]; exact .refl
    · exact .step h2 h3, fun h => by
    have h' : StarR (Mt l a) i x := h
    cases h' with
    | refl => exact .inl rfl
    | @step j _ h1 h2 => exact .inr ⟨j, by have := (Mt_le (r := .star a) (l := l) (i := i) (j := j) h1).2 hi; omega, h1, h2⟩⟩
/-- Two rows put together, place by place, below k. -/
def bothP (f : Bool → Bool → Bool) (xs ys : List Bool) (k x : Nat) : Prop := x < k ∧ ∃ a b, xs[x]? = some a ∧ ys[x]? = some b ∧ f a b = true
theorem bothP_next {L k : Nat} {f : Bool → Bool → Bool} {xs ys : List Bool} {a b : Bool} (hk : k ≤ L) (ha : xs[k]? = some a) (hb : ys[k]? = some b) : (rowP L (bothP f xs ys k)).set k (f a b) = rowP L (bothP f xs ys (k + 1)) := by
  rw [rowP_set hk]
  refine rowP_congr fun x _ => ?_
  by_cases e : x = k
  · subst e
    rw [if_pos rfl]
    exact ⟨fun h => ⟨by omega, a, b, ha, hb, h⟩, fun ⟨_, a', b', h1, h2, h3⟩ => by rw [ha] at h1; rw [hb] at h2; cases h1; cases h2; exact h3⟩
  · rw [if_neg e]
    exact ⟨fun ⟨h1, h2⟩ => ⟨by omega, h2⟩, fun ⟨h1, h2⟩ => ⟨by omega, h2⟩⟩
theorem bothP_zero {l : List Nat} {a b : ReM} {i : Nat} (f : Bool → Bool → Bool) (hf : f false false = false) : (rowP l.length fun _ => False) = rowP l.length (bothP f (rowP l.length fun x => Mt l a i x) (rowP l.length fun x => Mt l b i x) i) :=
  rowP_congr fun x hx => ⟨fun h => h.elim, fun ⟨h1, p, q, h2, h3, h4⟩ => by
    have e1 : p = false := by
      cases p with
      | false => rfl
      | true => have := (Mt_le ((rowP_is hx h2).1 rfl)).1; omega
    have e2 : q = false := by
      cases q with
      | false => rfl
      | true => have := (Mt_le ((rowP_is hx h3).1 rfl)).1; omega
    rw [e1, e2, hf] at h4; cases h4⟩
theorem bothP_end {l : List Nat} {a b r : ReM} {i : Nat} (f : Bool → Bool → Bool) (hr : ∀ x p q, (p = true ↔ Mt l a i x) → (q = true ↔ Mt l b i x) → (f p q = true ↔ Mt l r i x)) : rowP l.length (bothP f (rowP l.length fun x => Mt l a i x) (rowP l.length fun x => Mt l b i x) (l.length + 1)) = rowP l.length fun x => Mt l r i x :=
  rowP_congr fun x hx => ⟨fun ⟨_, p, q, h2, h3, h4⟩ => (hr x p q (rowP_is hx h2) (rowP_is hx h3)).1 h4, fun h => by
    refine ⟨by omega, _, _, rowP_get _ hx, rowP_get _ hx, (hr x _ _ ?_ ?_).2 h⟩
    · exact @decide_eq_true_iff _ (Classical.propDecidable _)
    · exact @decide_eq_true_iff _ (Classical.propDecidable _)⟩
theorem both_alt {l : List Nat} {a b : ReM} {i : Nat} : ∀ x p q, (p = true ↔ Mt l a i x) → (q = true ↔ Mt l b i x) → ((p || q) = true ↔ Mt l (.alt a b) i x) := fun x p q hp hq => by
  rw [Bool.or_eq_true, hp, hq]; exact Iff.rfl
theorem both_and {l : List Nat} {a b : ReM} {i : Nat} : ∀ x p q, (p = true ↔ Mt l a i x) → (q = true ↔ Mt l b i x) → ((p && q) = true ↔ Mt l (.and_ a b) i x) := fun x p q hp hq => by
  rw [Bool.and_eq_true, hp, hq]; exact Iff.rfl
theorem both_minus {l : List Nat} {a b : ReM} {i : Nat} : ∀ x p q, (p = true ↔ Mt l a i x) → (q = true ↔ Mt l b i x) → ((p && !q) = true ↔ Mt l (.minus a b) i x) := fun x p q hp hq => by
  rw [Bool.and_eq_true, hp, Bool.not_eq_true', ← Bool.not_eq_true, hq]; exact Iff.rfl
theorem epsP {l : List Nat} {i : Nat} (hi : i ≤ l.length) : (rowP l.length fun _ => False).set i true = rowP l.length fun x => Mt l .eps i x := by
  rw [rowP_set hi]
  refine rowP_congr fun x _ => ?_
  show (if x = i then true = true else False) ↔ i = x
  split
  · rename_i e; simp [e]
  · rename_i e; simp; omega
theorem clsP_no {l : List Nat} {s : BitVec 256} {i : Nat} (h : ∀ c, l[i]? = some c → s.getLsbD c = false) : (rowP l.length fun _ => False) = rowP l.length fun x => Mt l (.cls s) i x :=
  rowP_congr fun x _ => ⟨fun h => h.elim, fun ⟨c, h1, h2, _⟩ => by rw [h c h1] at h2; cases h2⟩
theorem clsP_yes {l : List Nat} {s : BitVec 256} {i c : Nat} (h1 : l[i]? = some c) (h : s.getLsbD c = true) : (rowP l.length fun _ => False).set (i + 1) true = rowP l.length fun x => Mt l (.cls s) i x := by
  have hl := (List.getElem?_eq_some_iff.1 h1).1
  rw [rowP_set (by omega)]
  refine rowP_congr fun x _ => ?_
  split
  · rename_i e; exact ⟨fun _ => ⟨c, h1, h, e⟩, fun _ => rfl⟩
  · rename_i e; exact ⟨fun h => h.elim, fun ⟨_, _, _, h3⟩ => absurd h3 e⟩
end Go.Proofs.YtlnmhfhdjnenoaaGreatDoor
/- louperef03: New; louperef02: Plain: the walks. -/
set_option linter.unusedVariables false
set_option linter.unusedSimpArgs false
set_option maxRecDepth 100000
namespace Go.Proofs.YtlnmhfhdjnenoaaGreatDoor
open Go.VC Go.Lib
def tbL (na : Option Addr) (n nc : Nat) (root : Int) (s : ByteArray) (m : Value) : List Value := [.slice na n nc, .int .i64 root, .string s, m]
theorem tb_z : (Tryz.prog.info? 158).bind (·.zero) = some (.agg (tbL none 0 0 0 (⟨#[]⟩) (.slice none 0 0)).toArray) := by kernel_rfl
abbrev rowV (nb L : Nat) : Value := .slice (some ⟨nb, 0, none⟩) (L + 1) (L + 1)
/-- The table of rows while it is made. -/
structure MkOk (mb : Nat) (nbs : List Nat) (L N : Nat) (H : Heap) : Prop where
  top : Blk H mb 159 (nbs.map (rowV · L) ++ List.replicate (N - nbs.length) (.slice none 0 0))
  rows : ∀ nb ∈ nbs, Blk H nb 111 (List.replicate (L + 1) (.slice none 0 0))
  nd : nbs.Nodup
  ntop : mb ∉ nbs
def pMk (mb : Nat) (nbs : List Nat) (L N : Nat) : Pc where
  foot k := k = mb ∨ k ∈ nbs
  ok H := MkOk mb nbs L N H
  fr h hp := ⟨hp.top.agr h (.inl rfl), fun nb hn => (hp.rows nb hn).agr h (.inr hn), hp.nd, hp.ntop⟩
theorem mk_put {nbs : List Nat} {L N nb : Nat} (h : nbs.length < N) : (nbs.map (rowV · L) ++ List.replicate (N - nbs.length) (Value.slice none 0 0)).set nbs.length (rowV nb L) = (nbs ++ [nb]).map (rowV · L) ++ List.replicate (N - (nbs ++ [nb]).length) (.slice none 0 0) := by
  rw [List.set_append_right _ _ (by simp)]
  obtain ⟨d, hd⟩ : ∃ d, N - nbs.length = d + 1 := ⟨N - nbs.length - 1, by omega⟩
  rw [hd]
  have e : N - (nbs ++ [nb]).length = d := by simp; omega
  rw [e]
  simp [List.replicate_succ]
theorem memC_none (L : Nat) : memC (fun _ => none) L = List.replicate (L + 1) (Value.slice none 0 0) := by
  apply List.ext_getElem?
  intro x
  by_cases hx : x ≤ L
  · rw [memC_get hx, List.getElem?_replicate, if_pos (by omega)]
  · rw [List.getElem?_eq_none (by rw [memC_len]; omega), List.getElem?_eq_none (by simp; omega)]
theorem MkOk.done {mb L N : Nat} {nbs : List Nat} {H : Heap} {R : Nat → Nat → List Bool} (h : MkOk mb nbs L N H) (hl : nbs.length = N) : MemoOk mb nbs L (fun _ _ => none) R H := by
  refine ⟨?_, fun j nb hj => ?_, fun j i rb hm => (by cases hm), h.nd, h.ntop, fun j i rb hm => (by cases hm), fun j i rb hm => (by cases hm)⟩
  · have := h.top
    rw [hl, Nat.sub_self, List.replicate_zero, List.append_nil] at this
    exact this
  · show Blk H nb _ (memC (fun _ => none) L)
    rw [memC_none]
    exact h.rows nb (List.mem_of_getElem? hj)
theorem StB.mkRow {B : Nat → Prop} {H0 H H1 H2 : Heap} {ps : List Pc} {k mb nb L N : Nat} {nbs : List Nat} (st : StB B H0 H ps) (hp : ps[k]? = some (pMk mb nbs L N)) (hn : nbs.length < N) (hnb : nb = H.size) (ha1 : Agr (fun b => b < nb) H H1)
    (hb1 : Blk H1 nb 111 (List.replicate (L + 1) (.slice none 0 0))) (hb2 : Blk H2 mb 159 ((nbs.map (rowV · L) ++ List.replicate (N - nbs.length) (Value.slice none 0 0)).set nbs.length (rowV nb L))) (ha2 : ∀ b, b ≠ mb → H2[b]? = H1[b]?) : StB B H0 H2 (ps.set k (pMk mb (nbs ++ [nb]) L N)) := by
  have hok : MkOk mb nbs L N H := st.at_ k hp
  have hmb := (st.in_ k hp (k := mb) (.inl rfl)).2
  have hin : ∀ b ∈ nbs, b < H.size := fun b hb => (st.in_ k hp (k := b) (.inr hb)).2
  have hmn : mb ≠ nb := by omega
  have hb3 : Blk H2 nb 111 (List.replicate (L + 1) (.slice none 0 0)) := hb1.agr (S := fun b => b ≠ mb) (fun b hb => ha2 b hb) (fun e => hmn e.symm)
  have hsz : H.size ≤ H2.size := by have := hb3.lt; omega
  refine st.upd k hp (fun b hb => (ha2 b fun e => hb.2 (.inl e)).trans (ha1 b (by have := hb.1; omega))) _ ?_ (fun b hb => ?_) (fun b hb => ?_) hsz
  · rw [mk_put hn] at hb2
    refine ⟨hb2, fun b hb => ?_, ?_, ?_⟩
    · rcases List.mem_append.1 hb with hb | hb
      · have h1 : b ≠ mb := fun e => hok.ntop (e ▸ hb)
        have h2 := hin b hb
        exact ((hok.rows b hb).agr ha1 (by omega)).agr (S := fun b => b ≠ mb) (fun b hb => ha2 b hb) h1
      · rw [List.mem_singleton] at hb; subst hb; exact hb3
    · refine List.nodup_append.2 ⟨hok.nd, List.nodup_cons.2 ⟨by simp, List.nodup_nil⟩, fun a ha b hb => ?_⟩
      rw [List.mem_singleton] at hb; subst hb
      have := hin a ha; omega
    · intro h
      rcases List.mem_append.1 h with h | h
      · exact hok.ntop h
      · rw [List.mem_singleton] at h; omega
  · rcases hb with hb | hb
    · exact .inl (.inl hb)
    · rcases List.mem_append.1 hb with hb | hb
      · exact .inl (.inr hb)
      · rw [List.mem_singleton] at hb; right; omega
  · rcases hb with hb | hb
    · subst hb; exact hb2.lt
    · rcases List.mem_append.1 hb with hb | hb
      · have := hin b hb; omega
      · rw [List.mem_singleton] at hb; subst hb; exact hb3.lt
set_option maxHeartbeats 4000000 in
theorem new3_c {S : Nat → Prop} {H : Heap} {v : Value} {ns : List RnM} {root : Int} {s : ByteArray} (R : Nat → Nat → List Bool) (hS : ∀ k, S k → k < H.size) (hv : ReV S H v ns root) (hs : s.size ≤ 4194303) :
    FnOk Tryz.prog 42 #[v, .string s] H fun r H' => ∃ tb mb nbs na nc, r = .pointer (some ⟨tb, 0, none⟩) ∧ SlD tRn S H na nc ns ∧ nbs.length = ns.length ∧
      St H H' [pMemo mb nbs s.size (fun _ _ => none) R, pB 158 tb (tbL na ns.length nc root s (.slice (some ⟨mb, 0, none⟩) ns.length ns.length))] := by
  have hlen : ns.length ≤ 4194304 := hv.1
  refine FnOk.of_vc Tryz.func42 rfl (Tryz.call42 _) ?_
  (conv => whnf); refine re_box hv fun na nc hv' hD => ?_
  intro b0 H1 hq1 hs1 hb1 ha1
  have st1 := (St.nil H).box hq1 hs1 hb1 ha1
  (conv => whnf); refine ldN (cs := reL (.slice na ns.length nc) root) ag32 (hb1.cells fun j v hv => by rw [Nat.zero_add]; exact hv) trivial ?_
  (conv => whnf); refine vbuildS Tryz.underlying158 rfl _ tb_z (tbL na ns.length nc root s (.slice none 0 0)) rfl ?_
  (conv => whnf); refine vbox (tbL na ns.length nc root s (.slice none 0 0)) rfl ?_
  intro tb H2 hq2 hs2 hb2 ha2
  have st2 := st1.box hq2 hs2 hb2 ha2
  (conv => whnf); refine VC.fa fl32_0 ?_
  (conv => whnf); refine ld1 (v := .slice na ns.length nc) ct30 (by rw [(st2.blk 0 rfl).cell]; rfl) trivial ?_
  (conv => whnf); refine vmake1 sl156 rfl (by omega) (by omega) (by omega) (by omega) ?_
  intro mb H3 hq3 hs3 hb3 ha3
  rw [Int.toNat_natCast] at hb3 ⊢
  have st3 := st2.add (H' := H3) (fun k hk => ha3 k (by rw [hq3]; exact hk)) (pMk mb [] s.size ns.length) ⟨hb3, fun _ h => (by cases h), List.nodup_nil, (fun h => by cases h)⟩ fun k hk => by
    rcases hk with hk | hk
    · rw [hk]; omega
    · cases hk
  replace st3 : St H H3 [pB 32 b0 (reL (.slice na ns.length nc) root), pB 158 tb (tbL na ns.length nc root s (.slice none 0 0)), pMk mb [] s.size ns.length] := st3
  (conv => whnf); refine VC.fa fl158_2 ?_
  (conv => whnf); refine st1B st3 1 ct156 rfl (by show _ < 4; decide) rfl fun H4 st4 => ?_
  replace st4 : St H H4 [pB 32 b0 (reL (.slice na ns.length nc) root), pB 158 tb (tbL na ns.length nc root s (.slice (some ⟨mb, 0, none⟩) ns.length ns.length)), pMk mb [] s.size ns.length] := st4
  clear st1 st2 st3
  (conv => whnf)
  refine VLoop.mk [6] (fun k : Nat => [.int .i64 (k : Int)]) (fun k G => k ≤ ns.length ∧ ∃ nbs : List Nat, nbs.length = k ∧ St H G [pB 32 b0 (reL (.slice na ns.length nc) root), pB 158 tb (tbL na ns.length nc root s (.slice (some ⟨mb, 0, none⟩) ns.length ns.length)), pMk mb nbs s.size ns.length]) (fun k _ => ns.length - k) ?_ ?_
  · (conv => whnf)
    exact ⟨0, rfl, Nat.zero_le _, [], rfl, st4⟩
  · rintro k G junk ⟨hk, nbs, hnl, sg⟩
    (conv => whnf); refine VC.fa fl32_0 ?_
    (conv => whnf); refine ld1 (v := .slice na ns.length nc) ct30 (by rw [(sg.blk 0 rfl).cell]; rfl) trivial ?_
    (conv => whnf); refine VIte.mk (fun hz => ?_) (fun hz => ?_) <;> simp only [decide_eq_true_eq, decide_eq_false_iff_not] at hz
    · have hkl : k < ns.length := by omega
      (conv => whnf); refine VDraw.heldZ (Old G) [10] (sq [0,1,2,3,4,5,6,7] (.f 8 (sq [9] (.f 10 .e)))) rfl (by kernel_rfl) ?_
      (conv => whnf); refine VC.fa fl158_2 ?_
      (conv => whnf); refine ld1 (v := .slice (some ⟨mb, 0, none⟩) ns.length ns.length) ct156 (by rw [(sg.blk 1 rfl).cell]; rfl) (sg.blk 1 rfl).lt ?_
      (conv => whnf); rw [w64 (x := (s.size : Int) + 1) (by omega) (by omega)]
      (conv => whnf); refine vmake1 sl159 rfl (by omega) (by omega) (by omega) (by omega) ?_
      intro nb G1 hq hs1' hb1' ha1'
      rw [show ((s.size : Int) + 1).toNat = s.size + 1 by omega] at hb1' ⊢
      refine ⟨fun k hk => ha1' k (by rw [hq]; exact hk), ?_⟩
      (conv => whnf); refine VC.ix sl156 (by omega) (by omega) ?_
      have hok : MkOk mb nbs s.size ns.length G := sg.at_ 2 rfl
      have hmb := (sg.in_ 2 rfl (k := mb) (.inl rfl)).2
      (conv => whnf); rw [show 0 + (k : Int).toNat * 1 = k by omega]
      refine VC.st1 (o := k) (v := rowV nb s.size) ct159 (hok.top.agr ha1' (by rw [hq]; exact hmb)) (by simp; omega) rfl ?_
      intro G2 hb2' ha2' hs2'
      have sg2 := StB.mkRow sg (k := 2) (H2 := G2) rfl (by omega) hq ha1' hb1' (Eq.mp (by rw [hnl]) hb2') (fun b hb => ha2' b hb)
      (conv => whnf); rw [w64 (x := (k : Int) + 1) (by omega) (by omega)]
      exact ⟨rfl, k + 1, rfl, ⟨by omega, nbs ++ [nb], by simp [hnl], sg2⟩, by omega⟩
    · obtain rfl : k = ns.length := by omega
      (conv => whnf)
      refine ⟨tb, mb, nbs, na, nc, rfl, hD, hnl, ?_⟩
      have sg2 := sg.say 2 rfl (pMemo mb nbs s.size (fun _ _ => none) R) (MkOk.done (sg.at_ 2 rfl) hnl) (fun b hb => by
        rcases hb with hb | hb | ⟨j, i, hb⟩
        · exact .inl hb
        · exact .inr hb
        · cases hb)
      exact sg2.pick [2, 1] (by decide)
set_option maxHeartbeats 4000000 in
/-- Whether a tree has no signs. -/
theorem plain2_p {S : Nat → Prop} {H : Heap} {v : Value} {ns : List RnM} {root : Int} (hS : ∀ k, S k → k < H.size) (hv : ReV S H v ns root) : Pure Tryz.prog 12 #[v] H (.bool (ns.all fun d => !(d.op == 5 || d.op == 6))) := by
  have hlen : ns.length ≤ 4194304 := hv.1
  refine FnOk.of_vc Tryz.func12 rfl (Tryz.call12 _) ?_
  (conv => whnf); refine re_box hv fun na nc hv' hD => ?_
  intro b0 H1 hq1 hs1 hb1 ha1
  have st1 := (St.nil H).box hq1 hs1 hb1 ha1
  (conv => whnf)
  refine VLoop.mk [3] (fun k : Nat => [.int .i64 (k : Int)]) (fun k G => k ≤ ns.length ∧ G = H1 ∧ ((ns.take k).all fun d => !(d.op == 5 || d.op == 6)) = true) (fun k _ => ns.length - k) ?_ ?_
  · (conv => whnf)
    exact ⟨0, rfl, Nat.zero_le _, rfl, rfl⟩
  · rintro k G junk ⟨hk, rfl, hall⟩
    (conv => whnf); refine VC.fa fl32_0 ?_
    (conv => whnf); refine ld1 (v := .slice na ns.length nc) ct30 (by rw [(st1.blk 0 rfl).cell]; rfl) trivial ?_
    (conv => whnf); refine VIte.mk (fun hz => ?_) (fun hz => ?_) <;> simp only [decide_eq_true_eq, decide_eq_false_iff_not] at hz
    · have hkl : k < ns.length := by omega
      obtain ⟨d, hd⟩ : ∃ d, ns[k]? = some d := ⟨_, List.getElem?_eq_getElem hkl⟩
      have hD' := hD.frame (st1.old.mono hS)
      have hnext : (ns.take (k + 1)).all (fun d => !(d.op == 5 || d.op == 6)) = !(d.op == 5 || d.op == 6) := by
        rw [List.take_add_one, hd, List.all_append, hall, Bool.true_and]
        simp
      have hmem : d ∈ ns := List.mem_of_getElem? hd
      have hno : (d.op == 5 || d.op == 6) = true → ns.all (fun d => !(d.op == 5 || d.op == 6)) = false := fun h => by
        rw [List.all_eq_false]
        exact ⟨d, hmem, by simp [h]⟩
      (conv => whnf); try (refine VSeq.run ?_)
      (conv => whnf); refine VC.fa fl32_0 ?_
      (conv => whnf); refine ld1 (v := .slice na ns.length nc) ct30 (by rw [(st1.blk 0 rfl).cell]; rfl) trivial ?_
      (conv => whnf); refine ixr (i := k) sl30 hD' hd rfl ?_
      rintro b2 o2 c2 hS2 hc2 ⟨rfl, hok⟩
      (conv => whnf); refine VC.fa fl94_0 ?_
      (conv => whnf); refine ld1 (v := .int .i64 d.op) ct3 (hc2 0 _ (rn_op d)) trivial ?_
      by_cases h5 : d.op = 5
      · (conv => whnf); rw [show (d.op == 5) = true from by simp [h5]]
        (conv => whnf)
        exact ⟨by rw [hno (by simp [h5])], st1.old⟩
      · (conv => whnf); rw [show (d.op == 5) = false from by simp [h5]]
        (conv => whnf); refine VC.fa fl32_0 ?_
        (conv => whnf); refine ld1 (v := .slice na ns.length nc) ct30 (by rw [(st1.blk 0 rfl).cell]; rfl) trivial ?_
        (conv => whnf); refine ixr (i := k) sl30 hD' hd rfl ?_
        rintro b3 o3 c3 hS3 hc3 ⟨rfl, hok3⟩
        (conv => whnf); refine VC.fa fl94_0 ?_
        (conv => whnf); refine ld1 (v := .int .i64 d.op) ct3 (hc3 0 _ (rn_op d)) trivial ?_
        by_cases h6 : d.op = 6
        · (conv => whnf); rw [show (d.op == 6) = true from by simp [h6]]
          (conv => whnf)
          exact ⟨by rw [hno (by simp [h6])], st1.old⟩
        · (conv => whnf); rw [show (d.op == 6) = false from by simp [h6]]
          (conv => whnf); rw [w64 (x := (k : Int) + 1) (by omega) (by omega)]
          refine ⟨rfl, k + 1, rfl, ⟨hkl, rfl, ?_⟩, by omega⟩
          rw [hnext]
          simp [h5, h6]
    · obtain rfl : k = ns.length := by omega
      (conv => whnf)
      rw [List.take_of_length_le (Nat.le_refl _)] at hall
      exact ⟨by rw [hall], st1.old⟩
end Go.Proofs.YtlnmhfhdjnenoaaGreatDoor
