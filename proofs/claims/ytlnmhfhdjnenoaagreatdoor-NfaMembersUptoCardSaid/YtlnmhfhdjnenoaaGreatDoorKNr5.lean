/- Parts of the proof: PDp4, PDp5, PDp6, PRd2, PRd3, VHeldT, PPa8, PDp7, PDp8 -/
import Derived.Test.YtlnmhfhdjnenoaaGreatDoorKNr4
import Derived.Test.YtlnmhfhdjnenoaaGreatDoorKNr3
import Derived.Test.YtlnmhfhdjnenoaaGreatDoorKNr2
/- The document's parser: braces: the walk. -/
set_option linter.unusedVariables false
set_option linter.unusedSimpArgs false
set_option maxRecDepth 100000
namespace Go.Proofs.YtlnmhfhdjnenoaaGreatDoor
open Go.VC Go.Lib
/-- What braces answers. -/
def BrD (t : ByteArray) (i : Nat) (v : Value) : Prop := match bracesM t i with
  | .inl (c, p) => v = .tuple #[.int .i64 0, .int .i64 0, .int .i64 0, .int .i64 (c : Int), .int .i64 (p : Int)]
  | .inr (m, n, j) => v = .tuple #[.int .i64 (m : Int), .int .i64 n, .int .i64 (j : Int), .int .i64 0, .int .i64 0]
abbrev pA2 (q : Nat) (x y : Int) : Pc := pB 136 q [.int .i64 x, .int .i64 y]
theorem a2_z : (Tryz.prog.info? 136).bind (·.zero) = some (.agg #[.int .i64 0, .int .i64 0]) := by kernel_rfl
theorem num_off {t : ByteArray} {e w : Nat} (h : digB t e = false) : ∀ k, numM t k e w = (w, e)
  | 0 => rfl
  | k + 1 => by unfold numM; rw [h]; rfl
/-- Where the loop over the numbers stands. -/
structure BrI (t : ByteArray) (i k e : Nat) (x0 x1 : Int) : Prop where
  le : e ≤ t.size
  z : k = 0 → e = i + 1 ∧ x0 = 0 ∧ x1 = 0
  one : k = 1 → digB t (i + 1) = true ∧ x0 = ((numM t 3 (i + 1) 0).1 : Int) ∧ x1 = 0 ∧ e = (numM t 3 (i + 1) 0).2 + 1 ∧ bt t (numM t 3 (i + 1) 0).2 = 44 ∧ bt t e ≠ 125
  two : k = 2 → digB t (i + 1) = true ∧ x0 = ((numM t 3 (i + 1) 0).1 : Int) ∧ x1 = -1 ∧ upM t (numM t 3 (i + 1) 0).1 (numM t 3 (i + 1) 0).2 = .inr (-1, e)
  le2 : k ≤ 2
theorem br_eq {t : ByteArray} {i : Nat} (hd : digB t (i + 1) = true) {n : Int} {e : Nat} (hu : upM t (numM t 3 (i + 1) 0).1 (numM t 3 (i + 1) 0).2 = .inr (n, e)) : bracesM t i = endM t i (numM t 3 (i + 1) 0).1 n e := by
  unfold bracesM; rw [if_pos hd, hu]
theorem br_no {t : ByteArray} {i : Nat} (hd : digB t (i + 1) = false) : bracesM t i = .inl (20, i + 1) := by
  unfold bracesM; rw [hd]; rfl
set_option maxHeartbeats 16000000 in
theorem dbraces_c {t : ByteArray} {i : Nat} {H : Heap} (ht : t.size ≤ 1048576) (hi : i < t.size) :
    FnOk Tryz.prog 30 #[.string t, .int .i64 (i : Int)] H fun v H' => Agr (Old H) H H' ∧ BrD t i v := by
  refine FnOk.of_vcL Tryz.func30 rfl (Tryz.call30 _) ?_
  (conv => whnf); rw [w64 (x := (i : Int) + 1) (by omega) (by omega)]
  (conv => whnf); refine valloc (.agg #[.int .i64 0, .int .i64 0]) [.int .i64 0, .int .i64 0] a2_z rfl ?_
  intro q H1 hq1 hs1 hb1 ha1
  have st1 := (St.nil H).box hq1 hs1 hb1 ha1
  (conv => whnf)
  refine VSeq.cut [11, 9] (fun x : Nat × Nat × Int × Int => match x with | (k, e, _, _) => [.int .i64 (k : Int), .int .i64 (e : Int)]) (fun x G => match x with | (k, e, x0, x1) => ((k = 1 ∨ k = 2) ∧ e ≤ t.size ∧ digB t (i + 1) = true ∧ x0 = ((numM t 3 (i + 1) 0).1 : Int) ∧ (∃ n : Int, upM t (numM t 3 (i + 1) 0).1 (numM t 3 (i + 1) 0).2 = .inr (n, e) ∧ -1 ≤ n ∧ n < 1000 ∧ (k = 1 → n = x0) ∧ (k = 2 → n = x1))) ∧ St H G [pA2 q x0 x1]) ?_ ?_
  · (conv => whnf)
    refine VLoop.mk [11, 9] (fun x : Nat × Nat × Int × Int => match x with | (k, e, _, _) => [.int .i64 (k : Int), .int .i64 (e : Int)]) (fun x G => match x with | (k, e, x0, x1) => BrI t i k e x0 x1 ∧ St H G [pA2 q x0 x1]) (fun x _ => match x with | (k, _, _, _) => 2 - k) ?_ ?_
    · (conv => whnf)
      exact ⟨(0, i + 1, 0, 0), rfl, ⟨hi, fun _ => ⟨rfl, rfl, rfl⟩, fun h => absurd h (by decide), fun h => absurd h (by decide), by omega⟩, st1⟩
    · rintro ⟨k, e, x0, x1⟩ G junk ⟨hI, stg⟩
      have hle := hI.le
      (conv => whnf); refine VIte.mk (fun hz => ?_) (fun hz => ?_) <;> simp only [decide_eq_true_eq, decide_eq_false_iff_not] at hz
      · have hk2 : k < 2 := by omega
        rcases (show k = 0 ∨ k = 1 by omega) with rfl | rfl
        · (conv => whnf); try (refine VSeq.run ?_)
          obtain ⟨rfl, rfl, rfl⟩ := hI.z rfl
          (conv => whnf); refine pures (digit_p (i := (i + 1)) G) fun G1 hg1 => ?_
          have sg1 := stg.call hg1
          cases hd : digB t (i + 1) with
          | false =>
            (conv => whnf)
            refine ⟨sg1.old, ?_⟩
            unfold BrD
            rw [br_no hd]
            rfl
          | true =>
            (conv => whnf)
            have hdi := hd
            (conv => whnf)
            refine VLoop.mk [12, 9] (fun x : Nat × Nat => match x with | (jn, _) => [.int .i64 (jn : Int), .int .i64 (((i + 1) + jn : Nat) : Int)]) (fun x G => match x with | (jn, v) => jn ≤ 3 ∧ v < 10 ^ jn ∧ (i + 1) + jn ≤ t.size ∧ numM t 3 (i + 1) 0 = numM t (3 - jn) ((i + 1) + jn) v ∧ St H G [pA2 q (v : Int) 0]) (fun x _ => match x with | (jn, _) => 3 - jn) ?_ ?_
            · (conv => whnf)
              exact ⟨(0, 0), rfl, by omega, by decide, hle, rfl, sg1⟩
            · rintro ⟨jn, v⟩ G2 junk2 ⟨hjn, hv, hje, hvn, stj⟩
              have hv1 : v < 1000 := Nat.lt_of_lt_of_le hv (Nat.pow_le_pow_right (by omega) hjn)
              have hout : (jn = 3 ∨ digB t ((i + 1) + jn) = false) → numM t 3 (i + 1) 0 = (v, (i + 1) + jn) := fun h => by
                rw [hvn]
                rcases h with rfl | h
                · rfl
                · exact num_off h _
              clear hI
              by_cases hj3 : jn < 3
              · have d2 : decide ((jn : Int) < 3) = true := decide_eq_true (by omega)
                (conv => whnf); rw [d2]
                (conv => whnf); refine pures (digit_p (i := (i + 1) + jn) G2) fun G3 hg3 => ?_
                replace stj := stj.call hg3
                cases hdj : digB t ((i + 1) + jn) with
                | true =>
                  have hlt : (i + 1) + jn < t.size := by
                    unfold digB at hdj
                    have := of_decide_eq_true hdj
                    exact bt_lt (by omega)
                  have hdr : 48 ≤ bt t ((i + 1) + jn) ∧ bt t ((i + 1) + jn) ≤ 57 := by unfold digB at hdj; exact of_decide_eq_true hdj
                  (conv => whnf); try (refine VSeq.run ?_)
                  (conv => whnf); refine VDraw.heldZ (fun k => k = q) [12] (sq [0,1,2,3,4,5,6,7,8,9,10,11] (.f 12 .e)) rfl (by kernel_rfl) ?_
                  (conv => whnf); refine ixa ar136 (by decide) (by decide) ?_
                  (conv => whnf); refine ld1 (v := .int .i64 (v : Int)) ct3 (by rw [(stj.blk 0 rfl).cell]; rfl) rfl ?_
                  (conv => whnf); rw [w64 (x := 10 * (v : Int)) (by omega) (by omega)]
                  refine vbt hlt ?_
                  (conv => whnf); rw [w8 (x := ((bt t ((i + 1) + jn) : Nat) : Int) - 48) (by omega) (by omega)]
                  (conv => whnf); rw [w64 (x := ((bt t ((i + 1) + jn) : Nat) : Int) - 48) (by omega) (by omega)]
                  (conv => whnf); rw [w64 (x := 10 * (v : Int) + (((bt t ((i + 1) + jn) : Nat) : Int) - 48)) (by omega) (by omega)]
                  (conv => whnf); refine ixa ar136 (by decide) (by decide) ?_
                  (conv => whnf); refine st1B stj 0 ct3 rfl (by show _ < (2 : Nat); decide) rfl fun G5 sg5 => ?_
                  (conv => whnf); rw [w64 (x := (((i + 1) + jn : Nat) : Int) + 1) (by omega) (by omega)]
                  (conv => whnf); rw [w64 (x := (jn : Int) + 1) (by omega) (by omega)]
                  have ev : 10 * (v : Int) + (((bt t ((i + 1) + jn) : Nat) : Int) - 48) = ((10 * v + (bt t ((i + 1) + jn) - 48) : Nat) : Int) := by omega
                  rw [ev] at sg5
                  refine ⟨rfl, (jn + 1, 10 * v + (bt t ((i + 1) + jn) - 48)), rfl, ⟨by omega, by rw [Nat.pow_succ]; omega, by omega, ?_, sg5⟩, by show 3 - (jn + 1) < 3 - jn; omega⟩
                  rw [hvn, show 3 - jn = (3 - (jn + 1)) + 1 by omega, numM, hdj]; rfl
                | false =>
                  (conv => whnf); try (refine VSeq.run ?_)
                  (conv => whnf)
                  have hv3 : numM t 3 (i + 1) 0 = (v, (i + 1) + jn) := hout (.inr hdj)
                  have hnm : numM t 3 (i + 1) 0 = (v, (i + 1) + jn) := hv3
                  by_cases h0 : (i + 1) + jn < t.size
                  · have d5 : decide ((t.size : Int) ≤ (((i + 1) + jn : Nat) : Int)) = false := decide_eq_false (by omega)
                    (conv => whnf); rw [d5]
                    (conv => whnf); refine vbt h0 ?_
                    by_cases h44 : bt t ((i + 1) + jn) = 44
                    · have d6 : (((bt t ((i + 1) + jn) : Nat) : Int) != 44) = false := by rw [h44]; rfl
                      (conv => whnf); rw [d6]
                      (conv => whnf); rw [w64 (x := (((i + 1) + jn : Nat) : Int) + 1) (by omega) (by omega)]
                      (conv => whnf); try (refine VSeq.run ?_)
                      (conv => whnf)
                      by_cases h1 : (i + 1) + jn + 1 < t.size
                      · have d7 : decide ((((i + 1) + jn : Nat) : Int) + 1 < (t.size : Int)) = true := decide_eq_true (by omega)
                        (conv => whnf); rw [d7]
                        (conv => whnf); refine vbt (i := (i + 1) + jn + 1) h1 ?_
                        by_cases h125 : bt t ((i + 1) + jn + 1) = 125
                        · have d8 : (((bt t ((i + 1) + jn + 1) : Nat) : Int) == 125) = true := by rw [h125]; rfl
                          (conv => whnf); rw [d8]
                          (conv => whnf); refine ixa ar136 (by decide) (by decide) ?_
                          (conv => whnf); refine st1B stj 0 ct3 rfl (by show _ < (2 : Nat); decide) rfl fun G7 sg7 => ?_
                          replace sg7 : St H G7 [pA2 q (v : Int) (-1)] := sg7
                          (conv => whnf)
                          exact ⟨rfl, (2, (i + 1) + jn + 1, (v : Int), -1), rfl, ⟨⟨by omega, fun h => absurd h (by decide), fun h => absurd h (by decide), fun _ => ⟨hdi, by rw [hnm], rfl, by rw [hnm]; unfold upM; rw [if_pos h44, if_pos h125]⟩, by omega⟩, sg7⟩, by show 2 - 2 < 2 - 0; omega⟩
                        · have d8 : (((bt t ((i + 1) + jn + 1) : Nat) : Int) == 125) = false := nofl h125
                          (conv => whnf); rw [d8]
                          (conv => whnf)
                          exact ⟨rfl, (1, (i + 1) + jn + 1, (v : Int), 0), rfl, ⟨⟨by omega, fun h => absurd h (by decide), fun _ => ⟨hdi, by rw [hnm], rfl, by rw [hnm], by rw [hnm]; exact h44, h125⟩, fun h => absurd h (by decide), by omega⟩, stj⟩, by show 2 - 1 < 2 - 0; omega⟩
                      · have d7 : decide ((((i + 1) + jn : Nat) : Int) + 1 < (t.size : Int)) = false := decide_eq_false (by omega)
                        (conv => whnf); rw [d7]
                        (conv => whnf)
                        exact ⟨rfl, (1, (i + 1) + jn + 1, (v : Int), 0), rfl, ⟨⟨by omega, fun h => absurd h (by decide), fun _ => ⟨hdi, by rw [hnm], rfl, by rw [hnm], by rw [hnm]; exact h44, by rw [bt_out h1]; decide⟩, fun h => absurd h (by decide), by omega⟩, stj⟩, by show 2 - 1 < 2 - 0; omega⟩
                    · have d6 : (((bt t ((i + 1) + jn) : Nat) : Int) != 44) = true := bne_iff_ne.2 (by omega)
                      (conv => whnf); rw [d6]
                      (conv => whnf)
                      exact ⟨rfl, (1, (i + 1) + jn, (v : Int), 0), rfl, ⟨⟨.inl rfl, hje, (by first | exact hdi | rfl), by rw [hnm], (v : Int), by rw [hnm]; unfold upM; rw [if_neg h44], by omega, by omega, fun _ => rfl, fun h => absurd h (by decide)⟩, stj⟩⟩
                  · have d5 : decide ((t.size : Int) ≤ (((i + 1) + jn : Nat) : Int)) = true := decide_eq_true (by omega)
                    (conv => whnf); rw [d5]
                    (conv => whnf)
                    exact ⟨rfl, (1, (i + 1) + jn, (v : Int), 0), rfl, ⟨⟨.inl rfl, hje, (by first | exact hdi | rfl), by rw [hnm], (v : Int), by rw [hnm]; unfold upM; rw [if_neg (by rw [bt_out h0]; omega)], by omega, by omega, fun _ => rfl, fun h => absurd h (by decide)⟩, stj⟩⟩
              · have d2 : decide ((jn : Int) < 3) = false := decide_eq_false (by omega)
                (conv => whnf); rw [d2]
                (conv => whnf); try (refine VSeq.run ?_)
                (conv => whnf)
                have hv3 : numM t 3 (i + 1) 0 = (v, (i + 1) + jn) := hout (.inl (by omega))
                have hnm : numM t 3 (i + 1) 0 = (v, (i + 1) + jn) := hv3
                by_cases h0 : (i + 1) + jn < t.size
                · have d5 : decide ((t.size : Int) ≤ (((i + 1) + jn : Nat) : Int)) = false := decide_eq_false (by omega)
                  (conv => whnf); rw [d5]
                  (conv => whnf); refine vbt h0 ?_
                  by_cases h44 : bt t ((i + 1) + jn) = 44
                  · have d6 : (((bt t ((i + 1) + jn) : Nat) : Int) != 44) = false := by rw [h44]; rfl
                    (conv => whnf); rw [d6]
                    (conv => whnf); rw [w64 (x := (((i + 1) + jn : Nat) : Int) + 1) (by omega) (by omega)]
                    (conv => whnf); try (refine VSeq.run ?_)
                    (conv => whnf)
                    by_cases h1 : (i + 1) + jn + 1 < t.size
                    · have d7 : decide ((((i + 1) + jn : Nat) : Int) + 1 < (t.size : Int)) = true := decide_eq_true (by omega)
                      (conv => whnf); rw [d7]
                      (conv => whnf); refine vbt (i := (i + 1) + jn + 1) h1 ?_
                      by_cases h125 : bt t ((i + 1) + jn + 1) = 125
                      · have d8 : (((bt t ((i + 1) + jn + 1) : Nat) : Int) == 125) = true := by rw [h125]; rfl
                        (conv => whnf); rw [d8]
                        (conv => whnf); refine ixa ar136 (by decide) (by decide) ?_
                        (conv => whnf); refine st1B stj 0 ct3 rfl (by show _ < (2 : Nat); decide) rfl fun G7 sg7 => ?_
                        replace sg7 : St H G7 [pA2 q (v : Int) (-1)] := sg7
                        (conv => whnf)
                        exact ⟨rfl, (2, (i + 1) + jn + 1, (v : Int), -1), rfl, ⟨⟨by omega, fun h => absurd h (by decide), fun h => absurd h (by decide), fun _ => ⟨hdi, by rw [hnm], rfl, by rw [hnm]; unfold upM; rw [if_pos h44, if_pos h125]⟩, by omega⟩, sg7⟩, by show 2 - 2 < 2 - 0; omega⟩
                      · have d8 : (((bt t ((i + 1) + jn + 1) : Nat) : Int) == 125) = false := nofl h125
                        (conv => whnf); rw [d8]
                        (conv => whnf)
                        exact ⟨rfl, (1, (i + 1) + jn + 1, (v : Int), 0), rfl, ⟨⟨by omega, fun h => absurd h (by decide), fun _ => ⟨hdi, by rw [hnm], rfl, by rw [hnm], by rw [hnm]; exact h44, h125⟩, fun h => absurd h (by decide), by omega⟩, stj⟩, by show 2 - 1 < 2 - 0; omega⟩
                    · have d7 : decide ((((i + 1) + jn : Nat) : Int) + 1 < (t.size : Int)) = false := decide_eq_false (by omega)
                      (conv => whnf); rw [d7]
                      (conv => whnf)
                      exact ⟨rfl, (1, (i + 1) + jn + 1, (v : Int), 0), rfl, ⟨⟨by omega, fun h => absurd h (by decide), fun _ => ⟨hdi, by rw [hnm], rfl, by rw [hnm], by rw [hnm]; exact h44, by rw [bt_out h1]; decide⟩, fun h => absurd h (by decide), by omega⟩, stj⟩, by show 2 - 1 < 2 - 0; omega⟩
                  · have d6 : (((bt t ((i + 1) + jn) : Nat) : Int) != 44) = true := bne_iff_ne.2 (by omega)
                    (conv => whnf); rw [d6]
                    (conv => whnf)
                    exact ⟨rfl, (1, (i + 1) + jn, (v : Int), 0), rfl, ⟨⟨.inl rfl, hje, (by first | exact hdi | rfl), by rw [hnm], (v : Int), by rw [hnm]; unfold upM; rw [if_neg h44], by omega, by omega, fun _ => rfl, fun h => absurd h (by decide)⟩, stj⟩⟩
                · have d5 : decide ((t.size : Int) ≤ (((i + 1) + jn : Nat) : Int)) = true := decide_eq_true (by omega)
                  (conv => whnf); rw [d5]
                  (conv => whnf)
                  exact ⟨rfl, (1, (i + 1) + jn, (v : Int), 0), rfl, ⟨⟨.inl rfl, hje, (by first | exact hdi | rfl), by rw [hnm], (v : Int), by rw [hnm]; unfold upM; rw [if_neg (by rw [bt_out h0]; omega)], by omega, by omega, fun _ => rfl, fun h => absurd h (by decide)⟩, stj⟩⟩
        · (conv => whnf); try (refine VSeq.run ?_)
          obtain ⟨hdi, hx0, rfl, hej, h44, h125⟩ := hI.one rfl
          (conv => whnf); refine pures (digit_p (i := e) G) fun G1 hg1 => ?_
          have sg1 := stg.call hg1
          cases hd : digB t e with
          | false =>
            (conv => whnf)
            refine ⟨sg1.old, ?_⟩
            unfold BrD
            have hu : upM t (numM t 3 (i + 1) 0).1 (numM t 3 (i + 1) 0).2 = .inl (20, e) := by
              unfold upM
              rw [if_pos h44, ← hej, if_neg h125, hd]; rfl
            have hb : bracesM t i = .inl (20, e) := by unfold bracesM; rw [if_pos hdi, hu]
            rw [hb]
            rfl
          | true =>
            (conv => whnf)
            (conv => whnf)
            refine VLoop.mk [12, 9] (fun x : Nat × Nat => match x with | (jn, _) => [.int .i64 (jn : Int), .int .i64 ((e + jn : Nat) : Int)]) (fun x G => match x with | (jn, v) => jn ≤ 3 ∧ v < 10 ^ jn ∧ e + jn ≤ t.size ∧ numM t 3 e 0 = numM t (3 - jn) (e + jn) v ∧ St H G [pA2 q x0 (v : Int)]) (fun x _ => match x with | (jn, _) => 3 - jn) ?_ ?_
            · (conv => whnf)
              exact ⟨(0, 0), rfl, by omega, by decide, hle, rfl, sg1⟩
            · rintro ⟨jn, v⟩ G2 junk2 ⟨hjn, hv, hje, hvn, stj⟩
              have hv1 : v < 1000 := Nat.lt_of_lt_of_le hv (Nat.pow_le_pow_right (by omega) hjn)
              have hout : (jn = 3 ∨ digB t (e + jn) = false) → numM t 3 e 0 = (v, e + jn) := fun h => by
                rw [hvn]
                rcases h with rfl | h
                · rfl
                · exact num_off h _
              clear hI
              by_cases hj3 : jn < 3
              · have d2 : decide ((jn : Int) < 3) = true := decide_eq_true (by omega)
                (conv => whnf); rw [d2]
                (conv => whnf); refine pures (digit_p (i := e + jn) G2) fun G3 hg3 => ?_
                replace stj := stj.call hg3
                cases hdj : digB t (e + jn) with
                | true =>
                  have hlt : e + jn < t.size := by
                    unfold digB at hdj
                    have := of_decide_eq_true hdj
                    exact bt_lt (by omega)
                  have hdr : 48 ≤ bt t (e + jn) ∧ bt t (e + jn) ≤ 57 := by unfold digB at hdj; exact of_decide_eq_true hdj
                  (conv => whnf); try (refine VSeq.run ?_)
                  (conv => whnf); refine VDraw.heldZ (fun k => k = q) [12] (sq [0,1,2,3,4,5,6,7,8,9,10,11] (.f 12 .e)) rfl (by kernel_rfl) ?_
                  (conv => whnf); refine ixa ar136 (by decide) (by decide) ?_
                  (conv => whnf); refine ld1 (v := .int .i64 (v : Int)) ct3 (by rw [(stj.blk 0 rfl).cell]; rfl) rfl ?_
                  (conv => whnf); rw [w64 (x := 10 * (v : Int)) (by omega) (by omega)]
                  refine vbt hlt ?_
                  (conv => whnf); rw [w8 (x := ((bt t (e + jn) : Nat) : Int) - 48) (by omega) (by omega)]
                  (conv => whnf); rw [w64 (x := ((bt t (e + jn) : Nat) : Int) - 48) (by omega) (by omega)]
                  (conv => whnf); rw [w64 (x := 10 * (v : Int) + (((bt t (e + jn) : Nat) : Int) - 48)) (by omega) (by omega)]
                  (conv => whnf); refine ixa ar136 (by decide) (by decide) ?_
                  (conv => whnf); refine st1B stj 0 ct3 rfl (by show _ < (2 : Nat); decide) rfl fun G5 sg5 => ?_
                  (conv => whnf); rw [w64 (x := ((e + jn : Nat) : Int) + 1) (by omega) (by omega)]
                  (conv => whnf); rw [w64 (x := (jn : Int) + 1) (by omega) (by omega)]
                  have ev : 10 * (v : Int) + (((bt t (e + jn) : Nat) : Int) - 48) = ((10 * v + (bt t (e + jn) - 48) : Nat) : Int) := by omega
                  rw [ev] at sg5
                  refine ⟨rfl, (jn + 1, 10 * v + (bt t (e + jn) - 48)), rfl, ⟨by omega, by rw [Nat.pow_succ]; omega, by omega, ?_, sg5⟩, by show 3 - (jn + 1) < 3 - jn; omega⟩
                  rw [hvn, show 3 - jn = (3 - (jn + 1)) + 1 by omega, numM, hdj]; rfl
                | false =>
                  (conv => whnf); try (refine VSeq.run ?_)
                  (conv => whnf)
                  have hv3 : numM t 3 e 0 = (v, e + jn) := hout (.inr hdj)
                  exact ⟨rfl, (2, e + jn, x0, (v : Int)), rfl, ⟨⟨.inr rfl, hje, hdi, hx0, (v : Int), by unfold upM; rw [if_pos h44, ← hej, if_neg h125, hd]; show (if true = true then _ else _) = _; rw [if_pos rfl, hv3], by omega, by omega, fun h => absurd h (by decide), fun _ => rfl⟩, stj⟩⟩
              · have d2 : decide ((jn : Int) < 3) = false := decide_eq_false (by omega)
                (conv => whnf); rw [d2]
                (conv => whnf); try (refine VSeq.run ?_)
                (conv => whnf)
                have hv3 : numM t 3 e 0 = (v, e + jn) := hout (.inl (by omega))
                exact ⟨rfl, (2, e + jn, x0, (v : Int)), rfl, ⟨⟨.inr rfl, hje, hdi, hx0, (v : Int), by unfold upM; rw [if_pos h44, ← hej, if_neg h125, hd]; show (if true = true then _ else _) = _; rw [if_pos rfl, hv3], by omega, by omega, fun h => absurd h (by decide), fun _ => rfl⟩, stj⟩⟩
      · have hk : k = 2 := by have := hI.le2; omega
        subst hk
        obtain ⟨h1, h2, h3, h4⟩ := hI.two rfl
        (conv => whnf)
        exact ⟨rfl, (2, e, x0, x1), rfl, ⟨⟨.inr rfl, hle, h1, h2, -1, h4, by omega, by omega, fun h => absurd h (by decide), fun _ => h3.symm⟩, stg⟩⟩
  · rintro ⟨k, e, x0, x1⟩ G junk ⟨⟨hk, he, hd, hx0, n, hu, hn1, hn2, h1n, h2n⟩, stg⟩
    have hbr := br_eq hd hu
    obtain ⟨m, hm⟩ : ∃ m, m = (numM t 3 (i + 1) 0).1 := ⟨_, rfl⟩
    rw [← hm] at hbr hx0
    clear hu hm st1
    rcases hk with rfl | rfl
    · have hnx := h1n rfl
      (conv => whnf); refine VSeq.run ?_
      (conv => whnf); refine ixa ar136 (by decide) (by decide) ?_
      (conv => whnf); refine ld1 (v := .int .i64 (x0)) ct3 (by rw [(stg.blk 0 rfl).cell]; rfl) trivial ?_
      (conv => whnf); refine ixa ar136 (by decide) (by decide) ?_
      (conv => whnf); refine st1B stg 0 ct3 rfl (by show _ < (2 : Nat); decide) rfl fun G2 sg2 => ?_
      replace sg2 : St H G2 [pA2 q x0 x0] := sg2
      (conv => whnf); try (refine VSeq.run ?_)
      (conv => whnf)
      by_cases he2 : e < t.size
      · have d1 : decide ((t.size : Int) ≤ (e : Int)) = false := decide_eq_false (by omega)
        (conv => whnf); rw [d1]
        (conv => whnf); refine vbt he2 ?_
        by_cases h125 : bt t e = 125
        · have d2 : (((bt t e : Nat) : Int) != 125) = false := by rw [h125]; rfl
          have hen : endM t i m n e = (if 255 < m ∨ 255 < n ∨ (0 ≤ n ∧ n < (m : Int)) then .inl (22, i) else .inr (m, n, e + 1)) := by unfold endM; rw [if_pos h125]
          (conv => whnf); rw [d2]
          (conv => whnf); refine ixa ar136 (by decide) (by decide) ?_
          (conv => whnf); refine ld1 (v := .int .i64 (x0)) ct3 (by rw [(sg2.blk 0 rfl).cell]; rfl) trivial ?_
          by_cases c1 : 255 < x0
          · have d3 : decide (255 < x0) = true := decide_eq_true c1
            (conv => whnf); rw [d3]
            (conv => whnf)
            refine ⟨sg2.old, ?_⟩
            unfold BrD
            rw [hbr, hen, if_pos (.inl (by omega))]
            rfl
          · have d3 : decide (255 < x0) = false := decide_eq_false c1
            (conv => whnf); rw [d3]
            (conv => whnf); refine ixa ar136 (by decide) (by decide) ?_
            (conv => whnf); refine ld1 (v := .int .i64 (x0)) ct3 (by rw [(sg2.blk 0 rfl).cell]; rfl) trivial ?_
            by_cases c2 : 255 < n
            · have d4 : decide (255 < x0) = true := decide_eq_true (by omega)
              (conv => whnf); rw [d4]
              (conv => whnf)
              refine ⟨sg2.old, ?_⟩
              unfold BrD
              rw [hbr, hen, if_pos (.inr (.inl c2))]
              rfl
            · have d4 : decide (255 < x0) = false := decide_eq_false (by omega)
              (conv => whnf); rw [d4]
              (conv => whnf); refine ixa ar136 (by decide) (by decide) ?_
              (conv => whnf); refine ld1 (v := .int .i64 (x0)) ct3 (by rw [(sg2.blk 0 rfl).cell]; rfl) trivial ?_
              by_cases c3 : 0 ≤ n
              · have d5 : decide (0 ≤ x0) = true := decide_eq_true (by omega)
                (conv => whnf); rw [d5]
                (conv => whnf); refine ixa ar136 (by decide) (by decide) ?_
                (conv => whnf); refine ld1 (v := .int .i64 (x0)) ct3 (by rw [(sg2.blk 0 rfl).cell]; rfl) trivial ?_
                (conv => whnf); refine ixa ar136 (by decide) (by decide) ?_
                (conv => whnf); refine ld1 (v := .int .i64 (x0)) ct3 (by rw [(sg2.blk 0 rfl).cell]; rfl) trivial ?_
                by_cases c4 : n < (m : Int)
                · have d6 : decide (x0 < x0) = true := decide_eq_true (by omega)
                  (conv => whnf); rw [d6]
                  (conv => whnf)
                  refine ⟨sg2.old, ?_⟩
                  unfold BrD
                  rw [hbr, hen, if_pos (.inr (.inr ⟨c3, c4⟩))]
                  rfl
                · have d6 : decide (x0 < x0) = false := decide_eq_false (by omega)
                  (conv => whnf); rw [d6]
                  (conv => whnf); refine VDraw.lex rfl (by kernel_rfl) ?_
                  (conv => whnf); refine ixa ar136 (by decide) (by decide) ?_
                  (conv => whnf); refine ld1 (v := .int .i64 (x0)) ct3 (by rw [(sg2.blk 0 rfl).cell]; rfl) trivial ?_
                  (conv => whnf); refine ixa ar136 (by decide) (by decide) ?_
                  (conv => whnf); refine ld1 (v := .int .i64 (x0)) ct3 (by rw [(sg2.blk 0 rfl).cell]; rfl) trivial ?_
                  (conv => whnf); rw [w64 (x := (e : Int) + 1) (by omega) (by omega)]
                  (conv => whnf)
                  refine ⟨sg2.old, ?_⟩
                  unfold BrD
                  rw [hbr, hen, if_neg (by omega), hnx, hx0]
                  rfl
              · have d5 : decide (0 ≤ x0) = false := decide_eq_false (by omega)
                (conv => whnf); rw [d5]
                (conv => whnf); refine VDraw.lex rfl (by kernel_rfl) ?_
                (conv => whnf); refine ixa ar136 (by decide) (by decide) ?_
                (conv => whnf); refine ld1 (v := .int .i64 (x0)) ct3 (by rw [(sg2.blk 0 rfl).cell]; rfl) trivial ?_
                (conv => whnf); refine ixa ar136 (by decide) (by decide) ?_
                (conv => whnf); refine ld1 (v := .int .i64 (x0)) ct3 (by rw [(sg2.blk 0 rfl).cell]; rfl) trivial ?_
                (conv => whnf); rw [w64 (x := (e : Int) + 1) (by omega) (by omega)]
                (conv => whnf)
                refine ⟨sg2.old, ?_⟩
                unfold BrD
                rw [hbr, hen, if_neg (by omega), hnx, hx0]
                rfl
        · have d2 : (((bt t e : Nat) : Int) != 125) = true := bne_iff_ne.2 (by omega)
          have hen : endM t i m n e = .inl (20, e) := by unfold endM; rw [if_neg h125]
          (conv => whnf); rw [d2]
          (conv => whnf)
          refine ⟨sg2.old, ?_⟩
          unfold BrD
          rw [hbr, hen]
          rfl
      · have d1 : decide ((t.size : Int) ≤ (e : Int)) = true := decide_eq_true (by omega)
        have hen : endM t i m n e = .inl (20, e) := by unfold endM; rw [if_neg (by rw [bt_out he2]; omega)]
        (conv => whnf); rw [d1]
        (conv => whnf)
        refine ⟨sg2.old, ?_⟩
        unfold BrD
        rw [hbr, hen]
        rfl
    · have hnx := h2n rfl
      (conv => whnf); refine VSeq.run ?_
      (conv => whnf); try (refine VSeq.run ?_)
      (conv => whnf)
      by_cases he2 : e < t.size
      · have d1 : decide ((t.size : Int) ≤ (e : Int)) = false := decide_eq_false (by omega)
        (conv => whnf); rw [d1]
        (conv => whnf); refine vbt he2 ?_
        by_cases h125 : bt t e = 125
        · have d2 : (((bt t e : Nat) : Int) != 125) = false := by rw [h125]; rfl
          have hen : endM t i m n e = (if 255 < m ∨ 255 < n ∨ (0 ≤ n ∧ n < (m : Int)) then .inl (22, i) else .inr (m, n, e + 1)) := by unfold endM; rw [if_pos h125]
          (conv => whnf); rw [d2]
          (conv => whnf); refine ixa ar136 (by decide) (by decide) ?_
          (conv => whnf); refine ld1 (v := .int .i64 (x0)) ct3 (by rw [(stg.blk 0 rfl).cell]; rfl) trivial ?_
          by_cases c1 : 255 < x0
          · have d3 : decide (255 < x0) = true := decide_eq_true c1
            (conv => whnf); rw [d3]
            (conv => whnf)
            refine ⟨stg.old, ?_⟩
            unfold BrD
            rw [hbr, hen, if_pos (.inl (by omega))]
            rfl
          · have d3 : decide (255 < x0) = false := decide_eq_false c1
            (conv => whnf); rw [d3]
            (conv => whnf); refine ixa ar136 (by decide) (by decide) ?_
            (conv => whnf); refine ld1 (v := .int .i64 (x1)) ct3 (by rw [(stg.blk 0 rfl).cell]; rfl) trivial ?_
            by_cases c2 : 255 < n
            · have d4 : decide (255 < x1) = true := decide_eq_true (by omega)
              (conv => whnf); rw [d4]
              (conv => whnf)
              refine ⟨stg.old, ?_⟩
              unfold BrD
              rw [hbr, hen, if_pos (.inr (.inl c2))]
              rfl
            · have d4 : decide (255 < x1) = false := decide_eq_false (by omega)
              (conv => whnf); rw [d4]
              (conv => whnf); refine ixa ar136 (by decide) (by decide) ?_
              (conv => whnf); refine ld1 (v := .int .i64 (x1)) ct3 (by rw [(stg.blk 0 rfl).cell]; rfl) trivial ?_
              by_cases c3 : 0 ≤ n
              · have d5 : decide (0 ≤ x1) = true := decide_eq_true (by omega)
                (conv => whnf); rw [d5]
                (conv => whnf); refine ixa ar136 (by decide) (by decide) ?_
                (conv => whnf); refine ld1 (v := .int .i64 (x1)) ct3 (by rw [(stg.blk 0 rfl).cell]; rfl) trivial ?_
                (conv => whnf); refine ixa ar136 (by decide) (by decide) ?_
                (conv => whnf); refine ld1 (v := .int .i64 (x0)) ct3 (by rw [(stg.blk 0 rfl).cell]; rfl) trivial ?_
                by_cases c4 : n < (m : Int)
                · have d6 : decide (x1 < x0) = true := decide_eq_true (by omega)
                  (conv => whnf); rw [d6]
                  (conv => whnf)
                  refine ⟨stg.old, ?_⟩
                  unfold BrD
                  rw [hbr, hen, if_pos (.inr (.inr ⟨c3, c4⟩))]
                  rfl
                · have d6 : decide (x1 < x0) = false := decide_eq_false (by omega)
                  (conv => whnf); rw [d6]
                  (conv => whnf); refine VDraw.lex rfl (by kernel_rfl) ?_
                  (conv => whnf); refine ixa ar136 (by decide) (by decide) ?_
                  (conv => whnf); refine ld1 (v := .int .i64 (x0)) ct3 (by rw [(stg.blk 0 rfl).cell]; rfl) trivial ?_
                  (conv => whnf); refine ixa ar136 (by decide) (by decide) ?_
                  (conv => whnf); refine ld1 (v := .int .i64 (x1)) ct3 (by rw [(stg.blk 0 rfl).cell]; rfl) trivial ?_
                  (conv => whnf); rw [w64 (x := (e : Int) + 1) (by omega) (by omega)]
                  (conv => whnf)
                  refine ⟨stg.old, ?_⟩
                  unfold BrD
                  rw [hbr, hen, if_neg (by omega), hnx, hx0]
                  rfl
              · have d5 : decide (0 ≤ x1) = false := decide_eq_false (by omega)
                (conv => whnf); rw [d5]
                (conv => whnf); refine VDraw.lex rfl (by kernel_rfl) ?_
                (conv => whnf); refine ixa ar136 (by decide) (by decide) ?_
                (conv => whnf); refine ld1 (v := .int .i64 (x0)) ct3 (by rw [(stg.blk 0 rfl).cell]; rfl) trivial ?_
                (conv => whnf); refine ixa ar136 (by decide) (by decide) ?_
                (conv => whnf); refine ld1 (v := .int .i64 (x1)) ct3 (by rw [(stg.blk 0 rfl).cell]; rfl) trivial ?_
                (conv => whnf); rw [w64 (x := (e : Int) + 1) (by omega) (by omega)]
                (conv => whnf)
                refine ⟨stg.old, ?_⟩
                unfold BrD
                rw [hbr, hen, if_neg (by omega), hnx, hx0]
                rfl
        · have d2 : (((bt t e : Nat) : Int) != 125) = true := bne_iff_ne.2 (by omega)
          have hen : endM t i m n e = .inl (20, e) := by unfold endM; rw [if_neg h125]
          (conv => whnf); rw [d2]
          (conv => whnf)
          refine ⟨stg.old, ?_⟩
          unfold BrD
          rw [hbr, hen]
          rfl
      · have d1 : decide ((t.size : Int) ≤ (e : Int)) = true := decide_eq_true (by omega)
        have hen : endM t i m n e = .inl (20, e) := by unfold endM; rw [if_neg (by rw [bt_out he2]; omega)]
        (conv => whnf); rw [d1]
        (conv => whnf)
        refine ⟨stg.old, ?_⟩
        unfold BrD
        rw [hbr, hen]
        rfl
end Go.Proofs.YtlnmhfhdjnenoaaGreatDoor
/- The document's parser: times, sizes. -/
set_option linter.unusedVariables false
set_option linter.unusedSimpArgs false
set_option maxRecDepth 100000
namespace Go.Proofs.YtlnmhfhdjnenoaaGreatDoor
open Go.VC Go.Lib
/-! ### how many nodes a repeat has -/
def repC (c m : Nat) (n : Int) : Nat :=
  if n < 0 then (if m = 0 then c + 1 else m * c + m + c + 1) else if n = 0 then 1 else if m = 0 then n.toNat * (c + 2) + n.toNat - 1 else m * c + m - 1 + (n.toNat - m) * (c + 3)
theorem repO_nodes (a : ReM) (m : Nat) : ∀ k, 1 ≤ k → ((repO a m k).getD .eps).nodes + 1 = min k m * (a.nodes + 1) + (k - m) * (a.nodes + 3)
  | 0, h => absurd h (by decide)
  | 1, _ => by
    rw [repO_one]
    by_cases hm : 0 < m
    · rw [if_pos hm, show min 1 m = 1 by omega, show 1 - m = 0 by omega]; simp
    · rw [if_neg hm, show min 1 m = 0 by omega, show 1 - m = 1 by omega]
      show 1 + a.nodes + 1 + 1 = _
      omega
  | k + 2, _ => by
    have ih := repO_nodes a m (k + 1) (by omega)
    rw [repO_next a m (k + 1) (by omega)]
    show 1 + _ + (if k + 1 < m then a else maybeR a).nodes + 1 = _
    by_cases hm : k + 1 < m
    · rw [if_pos hm]
      rw [show min (k + 1) m = k + 1 by omega, show k + 1 - m = 0 by omega] at ih
      rw [show min (k + 2) m = k + 1 + 1 by omega, show k + 2 - m = 0 by omega, Nat.add_mul (k + 1) 1]
      omega
    · rw [if_neg hm]
      rw [show min (k + 1) m = m by omega] at ih
      rw [show min (k + 2) m = m by omega, show k + 2 - m = (k + 1 - m) + 1 by omega, Nat.add_mul (k + 1 - m) 1]
      show 1 + _ + (1 + a.nodes + 1) + 1 = _
      omega
theorem repR_nodes (a : ReM) (m : Nat) (n : Int) (hmn : 0 ≤ n → (m : Int) ≤ n) : (repR a m n).nodes = repC a.nodes m n := by
  unfold repR repC
  by_cases hn : n < 0
  · rw [if_pos hn, if_pos hn]
    by_cases hm : m = 0
    · rw [if_pos hm, if_pos hm]; show 1 + a.nodes = _; omega
    · rw [if_neg hm, if_neg hm]
      have h := repO_nodes a m m (by omega)
      rw [Nat.min_self, Nat.sub_self, Nat.zero_mul, Nat.mul_add] at h
      show 1 + ((repO a m m).getD .eps).nodes + (1 + a.nodes) = _
      omega
  · rw [if_neg hn, if_neg hn]
    by_cases h0 : n = 0
    · rw [if_pos h0, if_pos h0]; rfl
    · rw [if_neg h0, if_neg h0]
      obtain ⟨k, rfl⟩ := Int.eq_ofNat_of_zero_le (show 0 ≤ n by omega)
      have hmk : m ≤ k := by have := hmn (by omega); omega
      have h := repO_nodes a m k (by omega)
      rw [Int.toNat_natCast]
      rw [show min k m = m by omega] at h
      by_cases hm : m = 0
      · rw [if_pos hm]
        subst hm
        have e1 : k * (a.nodes + 3) = k * (a.nodes + 2) + k := by rw [show a.nodes + 3 = a.nodes + 2 + 1 by omega, Nat.mul_add (k) (a.nodes + 2) 1, Nat.mul_one]
        simp only [Nat.zero_mul, Nat.zero_add, Nat.sub_zero] at h
        omega
      · rw [if_neg hm]
        rw [Nat.mul_add, Nat.mul_one] at h
        have : 1 ≤ m * a.nodes + m := by omega
        omega
theorem repC_cap (c m : Nat) (n : Int) (hmn : 0 ≤ n → (m : Int) ≤ n) : min (repC (min c 2001) m n) 2001 = min (repC c m n) 2001 := by
  by_cases hc : c ≤ 2001
  · rw [Nat.min_eq_left hc]
  · have h1 : repC 2001 m n ≤ repC c m n := by
      unfold repC
      split
      · split
        · omega
        · have := Nat.mul_le_mul_left m (show 2001 ≤ c by omega); omega
      · split
        · omega
        · split
          · have := Nat.mul_le_mul_left n.toNat (show 2001 + 2 ≤ c + 2 by omega); omega
          · have h1 := Nat.mul_le_mul_left m (show 2001 ≤ c by omega)
            have h2 := Nat.mul_le_mul_left (n.toNat - m) (show 2001 + 3 ≤ c + 3 by omega)
            omega
    have h2 : n ≠ 0 → 2001 ≤ repC 2001 m n := by
      intro hn
      unfold repC
      split
      · split
        · omega
        · have := Nat.mul_le_mul_right 2001 (show 1 ≤ m by omega); omega
      · have hk : 1 ≤ n.toNat := by omega
        split
        · have := Nat.mul_le_mul_right (2001 + 2) hk; omega
        · have := Nat.mul_le_mul_right 2001 (show 1 ≤ m by omega)
          have := Nat.zero_le ((n.toNat - m) * (2001 + 3))
          omega
    rw [Nat.min_eq_right (show 2001 ≤ c by omega)]
    by_cases hn : n = 0
    · subst hn; rfl
    · have := h2 hn; omega
theorem szR_rep (a : ReM) (m : Nat) (n : Int) (hmn : 0 ≤ n → (m : Int) ≤ n) : szR (repR a m n) = min (repC (szR a) m n) 2001 := by
  unfold szR
  rw [repR_nodes a m n hmn, repC_cap _ _ _ hmn]
theorem szR_bin (op : ROp) (a b : ReM) : szR (opR op a b) = min (1 + szR a + szR b) 2001 := by unfold szR; rw [opR_nodes]; omega
end Go.Proofs.YtlnmhfhdjnenoaaGreatDoor
/- The document's parser: times, sizes: the walks. -/
set_option linter.unusedVariables false
set_option linter.unusedSimpArgs false
set_option maxRecDepth 100000
namespace Go.Proofs.YtlnmhfhdjnenoaaGreatDoor
open Go.VC Go.Lib
set_option maxHeartbeats 4000000 in
theorem times_p {c : Nat} {m n : Int} (hc : c ≤ 2001) (h : RepOk m n) (H : Heap) : Pure Tryz.prog 57 #[.int .i64 (c : Int), .int .i64 m, .int .i64 n] H (.int .i64 ((repC c (lowM m) n : Nat) : Int)) := by
  refine FnOk.of_vc Tryz.func57 rfl (Tryz.call57 _) ?_
  by_cases h2 : m = -2
  · have hn : n = -1 := by rcases h with h | h; exact h.2; omega
    subst h2 hn
    (conv => whnf)
    refine ⟨?_, Agr.refl _ _⟩
    congr 1
    rw [w64 (x := (c : Int) + 1) (by omega) (by omega)]
    rw [w64 (x := (c : Int) + 1 + (c : Int)) (by omega) (by omega)]
    rw [w64 (x := (c : Int) + 1 + (c : Int) + 1) (by omega) (by omega)]
    show _ = ((1 * c + 1 + c + 1 : Nat) : Int)
    omega
  · obtain ⟨hm0, hm1, hn0, hn1, hmn⟩ : 0 ≤ m ∧ m ≤ 255 ∧ -1 ≤ n ∧ n ≤ 255 ∧ (0 ≤ n → m ≤ n) := by rcases h with h | h; exact absurd h.1 h2; exact h
    obtain ⟨k, rfl⟩ := Int.eq_ofNat_of_zero_le hm0
    have hlow : lowM (k : Int) = k := by unfold lowM; rw [if_neg h2]; rfl
    have d1 : ((k : Int) == -2) = false := beq_eq_false_iff_ne.2 h2
    have hp : k * c ≤ 255 * 2001 := Nat.mul_le_mul (by omega) hc
    rw [hlow]
    unfold repC
    (conv => whnf); try rw [d1]
    (conv => whnf); try (refine VSeq.run ?_)
    (conv => whnf)
    by_cases hneg : n < 0
    · have d2 : decide (n < 0) = true := decide_eq_true hneg
      rw [if_pos hneg]
      rw [d2]
      by_cases hk : k = 0
      · subst hk
        (conv => whnf)
        refine ⟨?_, Agr.refl _ _⟩
        congr 1
        rw [w64 (x := (c : Int) + 1) (by omega) (by omega)]
        rfl
      · have d3 : ((k : Int) == 0) = false := beq_eq_false_iff_ne.2 (by omega)
        rw [if_neg hk]
        (conv => whnf); try rw [d3]
        (conv => whnf); try (refine VSeq.run ?_)
        (conv => whnf); try rw [d2]
        (conv => whnf)
        refine ⟨?_, Agr.refl _ _⟩
        congr 1
        have ep : (k : Int) * (c : Int) = ((k * c : Nat) : Int) := (Int.natCast_mul k c).symm
        rw [ep]
        generalize k * c = p at *
        rw [w64 (x := (p : Int)) (by omega) (by omega)]
        rw [w64 (x := (p : Int) + k) (by omega) (by omega)]
        rw [w64 (x := (p : Int) + k - 1) (by omega) (by omega)]
        rw [w64 (x := (p : Int) + k - 1 + 1) (by omega) (by omega)]
        rw [w64 (x := (p : Int) + k - 1 + 1 + c) (by omega) (by omega)]
        rw [w64 (x := (p : Int) + k - 1 + 1 + c + 1) (by omega) (by omega)]
        omega
    · have d2 : decide (n < 0) = false := decide_eq_false hneg
      rw [if_neg hneg]
      try rw [d2]
      (conv => whnf); try (refine VSeq.run ?_)
      (conv => whnf); try rw [d2]
      (conv => whnf); try (refine VSeq.run ?_)
      (conv => whnf)
      obtain ⟨j, rfl⟩ := Int.eq_ofNat_of_zero_le (show 0 ≤ n by omega)
      have hq : j * (c + 2) ≤ 255 * 2003 := Nat.mul_le_mul (by omega) (by omega)
      have hr : (j - k) * (c + 3) ≤ 255 * 2004 := Nat.mul_le_mul (by omega) (by omega)
      rw [Int.toNat_natCast]
      by_cases h0 : j = 0
      · subst h0
        (conv => whnf)
        exact ⟨by rw [if_pos (show ((0 : Nat) : Int) = 0 from rfl)]; rfl, Agr.refl _ _⟩
      · have d3 : ((j : Int) == 0) = false := beq_eq_false_iff_ne.2 (by omega)
        rw [if_neg (show ¬ (j : Int) = 0 by omega)]
        try rw [d3]
        (conv => whnf); try (refine VSeq.run ?_)
        (conv => whnf)
        by_cases hk : k = 0
        · subst hk
          (conv => whnf)
          refine ⟨?_, Agr.refl _ _⟩
          congr 1
          rw [if_pos (show (0 : Nat) = 0 from rfl)]
          rw [w64 (x := (c : Int) + 2) (by omega) (by omega)]
          have ep : (j : Int) * ((c : Int) + 2) = ((j * (c + 2) : Nat) : Int) := by rw [Int.natCast_mul]; rfl
          rw [ep]
          have hj1 : 1 ≤ j * (c + 2) := Nat.le_trans (by omega) (Nat.mul_le_mul (show 1 ≤ j by omega) (show 2 ≤ c + 2 by omega))
          generalize j * (c + 2) = p at *
          rw [w64 (x := (p : Int)) (by omega) (by omega)]
          rw [w64 (x := (p : Int) + j) (by omega) (by omega)]
          rw [w64 (x := (p : Int) + j - 1) (by omega) (by omega)]
          omega
        · have d4 : ((k : Int) == 0) = false := beq_eq_false_iff_ne.2 (by omega)
          rw [if_neg hk]
          try rw [d4]
          (conv => whnf)
          refine ⟨?_, Agr.refl _ _⟩
          congr 1
          rw [w64 (x := (c : Int) + 2) (by omega) (by omega)]
          rw [w64 (x := (c : Int) + 2 + 1) (by omega) (by omega)]
          rw [w64 (x := (j : Int) - (k : Int)) (by omega) (by omega)]
          have ep : (k : Int) * (c : Int) = ((k * c : Nat) : Int) := (Int.natCast_mul k c).symm
          have eq : ((j : Int) - (k : Int)) * ((c : Int) + 2 + 1) = (((j - k) * (c + 3) : Nat) : Int) := by
            rw [Int.natCast_mul, show ((j - k : Nat) : Int) = (j : Int) - k by have := hmn (by omega); omega, show (c : Int) + 2 + 1 = ((c + 3 : Nat) : Int) by omega]
          rw [ep, eq]
          have hmn' := hmn (by omega)
          generalize k * c = p at *
          generalize (j - k) * (c + 3) = r at *
          rw [w64 (x := (p : Int)) (by omega) (by omega)]
          rw [w64 (x := (p : Int) + k) (by omega) (by omega)]
          rw [w64 (x := (p : Int) + k - 1) (by omega) (by omega)]
          rw [w64 (x := (r : Int)) (by omega) (by omega)]
          rw [w64 (x := (p : Int) + k - 1 + r) (by omega) (by omega)]
          omega
end Go.Proofs.YtlnmhfhdjnenoaaGreatDoor
/- class.reader's members, item; class.Read: the walks. -/
set_option linter.unusedVariables false
set_option linter.unusedSimpArgs false
set_option maxRecDepth 100000
namespace Go.Proofs.YtlnmhfhdjnenoaaGreatDoor
open Go.VC Go.Lib
/-- The pieces while brackets are read. -/
def memP (ps : List Pc) (k r : Nat) (t : ByteArray) (q2 q3 i : Nat) (x : BitVec 256) : List Pc := ps.set k (pRd r t i) ++ [pB 102 q2 (setL 0), pB 102 q3 (setL x)]
theorem memP_r {ps : List Pc} {k r q2 q3 i : Nat} {t : ByteArray} {x : BitVec 256} {p : Pc} (hp : ps[k]? = some p) : (memP ps k r t q2 q3 i x)[k]? = some (pRd r t i) := lgL (lgS hp)
theorem memP_set {ps : List Pc} {k r q2 q3 i j : Nat} {t : ByteArray} {x : BitVec 256} {p : Pc} (hp : ps[k]? = some p) : (memP ps k r t q2 q3 i x).set k (pRd r t j) = memP ps k r t q2 q3 j x := by
  unfold memP
  rw [lsL (lgS hp), List.set_set]
theorem memP_3 {ps : List Pc} {k r q2 q3 i : Nat} {t : ByteArray} {x : BitVec 256} : (memP ps k r t q2 q3 i x)[(ps.set k (pRd r t i)).length + 1]? = some (pB 102 q3 (setL x)) := lgR _ _ 1
theorem memP_2 {ps : List Pc} {k r q2 q3 i : Nat} {t : ByteArray} {x : BitVec 256} : (memP ps k r t q2 q3 i x)[(ps.set k (pRd r t i)).length + 0]? = some (pB 102 q2 (setL 0)) := lgR _ _ 0
theorem ld_set {H : Heap} {b : Nat} {x : BitVec 256} (h : Blk H b 102 (setL x)) : Cells H b 0 (setL x) := h.cells (fun j v hv => by rw [Nat.zero_add]; exact hv)
structure MemI (B : Nat → Prop) (H0 : Heap) (ps : List Pc) (k r : Nat) (t : ByteArray) (q2 q3 : Nat) (M : Sum Nat (BitVec 256 × Nat)) (y : Nat × Nat × BitVec 256) (G : Heap) : Prop where
  le : y.1 ≤ t.size
  fuel : t.size < y.2.1 + y.1
  eq : memM t y.2.1 y.1 y.2.2 = M
  st : StB B H0 G (memP ps k r t q2 q3 y.1 y.2.2)
set_option maxHeartbeats 16000000 in
theorem members_c {B : Nat → Prop} {H0 H : Heap} {ps : List Pc} {k r i : Nat} {t : ByteArray} (hE : EscH H0) (hEB : B 0) (ht : t.size ≤ 1152921504606846976) (st : StB B H0 H ps) (hp : ps[k]? = some (pRd r t i)) (hi : i ≤ t.size) :
    FnOkP Tryz.prog 135 #[.pointer (some ⟨r, 0, none⟩)] H (fun v H' => ∃ (x : BitVec 256) (j : Nat), bracM t i = .inr (x, j) ∧ v = setV x ∧ StB B H0 H' (ps.set k (pRd r t j)))
      (fun x H' => ∃ e j : Nat, bracM t i = .inl e ∧ x = faultV 10 e ∧ StB B H0 H' (ps.set k (pRd r t j))) := by
  refine FnOkP.of_vc Tryz.func135 rfl (Tryz.call135 _) ?_
  (conv => whnf); refine valloc (setV 0) (setL 0) rfl rfl ?_
  intro q2 H2 hq2 hs2 hb2 ha2
  have st2 := st.box hq2 hs2 hb2 ha2
  (conv => whnf); refine valloc (setV 0) (setL 0) rfl rfl ?_
  intro q3 H3 hq3 hs3 hb3 ha3
  have st3 := st2.box hq3 hs3 hb3 ha3
  rw [List.append_assoc] at st3
  replace st3 : StB B H0 H3 (memP ps k r t q2 q3 i 0#256) := by
    unfold memP
    rw [lset hp]
    exact st3
  (conv => whnf); refine VCallP.of (pures (peek_p (st3.blk k (memP_r hp))) fun H4 ha4 => ?_)
  have st4 := st3.call ha4
  obtain ⟨nt, hnt⟩ : ∃ nt : Bool, nt = decide (bt t i = 94) := ⟨_, rfl⟩
  have hbr : bracM t i = match memM t (t.size + 1) (if nt then i + 1 else i) 0#256 with | .inl e => .inl e | .inr (x, k) => .inr (if nt then ~~~x else x, k) := by
    unfold bracM
    rw [hnt]
    by_cases h : bt t i = 94
    · simp only [h, if_true, decide_true]
      cases memM t (t.size + 1) (i + 1) 0#256 <;> rfl
    · simp only [h, if_false, decide_false, Bool.false_eq_true]
      cases memM t (t.size + 1) i 0#256 <;> rfl
  obtain ⟨M, hM⟩ : ∃ M, M = memM t (t.size + 1) (if nt then i + 1 else i) 0#256 := ⟨_, rfl⟩
  rw [← hM] at hbr
  have hle : (if nt then i + 1 else i) ≤ t.size := by
    cases hn : nt with
    | false => exact hi
    | true =>
      rw [hn] at hnt
      have h94 := of_decide_eq_true hnt.symm
      exact bt_lt (by omega)
  by_cases h0 : bt t i = 256
  · have hn0 : nt = false := by rw [hnt, decide_eq_false]; omega
    rw [if_pos h0, decide_eq_false (by omega)]
    (conv => whnf)
    refine VSeqP.cut [] (fun _ : Unit => []) (fun _ G => StB B H0 G (memP ps k r t q2 q3 (if nt then i + 1 else i) 0#256)) ?_ ?_
    · (conv => whnf)
      exact ⟨rfl, (), rfl, by rw [hn0]; exact st4⟩
    · rintro ⟨⟩ G junk0 stg
      (conv => whnf)
      refine VLoopP.mk [] (fun _ : Nat × Nat × BitVec 256 => []) (fun y G => MemI B H0 ps k r t q2 q3 M y G) (fun y _ => t.size - y.1) ?_ ?_
      · (conv => whnf)
        exact ⟨((if nt then i + 1 else i), t.size + 1, 0#256), rfl, ⟨hle, by simp only; omega, hM.symm, stg⟩⟩
      · rintro ⟨j, n, x⟩ J0 junk1 ⟨hj, hfu, heq, stl⟩
        simp only at hj hfu heq stl
        obtain ⟨n, rfl⟩ : ∃ m, n = m + 1 := ⟨n - 1, by omega⟩
        (conv => whnf); try (refine VSeqP.run ?_)
        (conv => whnf); refine VCallP.of (pures (peek_p (stl.blk k (memP_r hp))) fun J1 ja1 => ?_)
        have stl1 := stl.call ja1
        by_cases hj0 : bt t j = 256
        · rw [if_pos hj0, decide_eq_false (by omega)]
          have hmn : memM t (n + 1) j x = .inl j := by
            unfold memM
            rw [if_neg (by omega)]
            have : oneM t innS j = .inl j := by unfold oneM; rw [hj0, if_neg (by decide), if_pos (.inr (.inl (by decide)))]
            rw [this]
          (conv => whnf); try (refine VSeqP.run ?_)
          (conv => whnf); refine VCallP.mk (one_c (s := innS) hE hEB ht stl1 (memP_r hp)) ?_ ?_
          · rintro _ J2 ⟨lo, j1, hlo, rfl, stl2⟩
            exfalso
            have : oneM t innS j = .inl j := by unfold oneM; rw [hj0, if_neg (by decide), if_pos (.inr (.inl (by decide)))]
            rw [this] at hlo; cases hlo
          · rintro _ J2 ⟨e, j1, hlo, rfl, stl2⟩
            rw [memP_set hp] at stl2
            refine ⟨e, j1, ?_, rfl, stl2.lft⟩
            have : oneM t innS j = .inl j := by unfold oneM; rw [hj0, if_neg (by decide), if_pos (.inr (.inl (by decide)))]
            rw [this] at hlo
            cases hlo
            rw [hbr, ← heq, hmn]
        · have hjl := bt_lt hj0
          obtain ⟨b1, hb1, hb2, hb3⟩ := bt_in hjl
          rw [if_neg hj0, decide_eq_true (by omega)]
          by_cases h93 : bt t j = 93
          · have d2 : ((bt t j : Int) == (93 : Int)) = true := by rw [h93]; rfl
            have hmn : M = .inr (x, j + 1) := by rw [← heq]; unfold memM; rw [if_pos h93]
            (conv => whnf); try (refine VSeqP.run ?_)
            (conv => whnf); rw [d2]
            (conv => whnf); refine VC.fa fl206_1 ?_
            (conv => whnf); refine ld1 (v := .int .i64 ((j : Nat) : Int)) ct3 (by rw [(stl1.blk k (memP_r hp)).cell]; rfl) trivial ?_
            (conv => whnf); rw [w64 (x := ((j : Nat) : Int) + 1) (by omega) (by omega)]
            (conv => whnf); refine VC.fa fl206_1 ?_
            (conv => whnf); refine st1B stl1 k ct3 (memP_r hp) (by simp) rfl fun J2 stl2 => ?_
            replace stl2 : StB B H0 J2 ((memP ps k r t q2 q3 j x).set k (pRd r t (j + 1))) := stl2
            rw [memP_set hp] at stl2
            rw [hmn] at hbr
            · (conv => whnf); refine ldN (cs := setL x) ag102 (ld_set (stl2.blk _ memP_3)) trivial ?_
              (conv => whnf); refine stNB (cs := setL x) stl2 _ rfl memP_2 (Nat.le_refl _) rfl fun J4 stl4 => ?_
              have hb4 : Blk J4 q2 102 (setL x) := by
                have := stl4.blk _ (lgS memP_2)
                rwa [splAll (by rfl)] at this
              unfold memP at stl4
              rw [lsR] at stl4
              (conv => whnf); refine ldN (cs := setL x) ag102 (ld_set hb4) trivial ?_
              exact ⟨x, j + 1, by rw [hbr, hn0]; rfl, rfl, stl4.lft⟩
          · have d2 : ((bt t j : Int) == (93 : Int)) = false := beq_eq_false_iff_ne.2 (by omega)
            (conv => whnf); try (refine VSeqP.run ?_)
            (conv => whnf); rw [d2]
            (conv => whnf); refine VCallP.mk (one_c (s := innS) hE hEB ht stl1 (memP_r hp)) ?_ ?_
            · rintro _ J2 ⟨lo, j1, hlo, rfl, stl2⟩
              rw [memP_set hp] at stl2
              have hok := oneM_ok hlo
              have hmn : memM t (n + 1) j x = dashM t lo j1 x (memM t n) := by
                rw [memM, if_neg h93, hlo]
              rw [heq] at hmn
              (conv => whnf); try (refine VSeqP.run ?_)
              (conv => whnf); refine VCallP.of (pures (peek_p (stl2.blk k (memP_r hp))) fun J3 ja3 => ?_)
              have stl3 := stl2.call ja3
              by_cases h45 : bt t j1 = 45
              · have hj1l : j1 < t.size := bt_lt (by omega)
                rw [if_neg (by omega), decide_eq_true (by omega)]
                unfold dashM at hmn
                rw [if_pos h45] at hmn
                have d3 : ((bt t j1 : Int) == (45 : Int)) = true := by rw [h45]; rfl
                (conv => whnf); try (refine VSeqP.run ?_)
                (conv => whnf); rw [d3]
                (conv => whnf); refine VC.fa fl206_1 ?_
                (conv => whnf); refine ld1 (v := .int .i64 ((j1 : Nat) : Int)) ct3 (by rw [(stl3.blk k (memP_r hp)).cell]; rfl) trivial ?_
                (conv => whnf); rw [w64 (x := ((j1 : Nat) : Int) + 1) (by omega) (by omega)]
                (conv => whnf); refine VC.fa fl206_1 ?_
                (conv => whnf); refine st1B stl3 k ct3 (memP_r hp) (by simp) rfl fun J4 stl4 => ?_
                replace stl4 : StB B H0 J4 ((memP ps k r t q2 q3 j1 x).set k (pRd r t (j1 + 1))) := stl4
                rw [memP_set hp] at stl4
                (conv => whnf); refine VC.fa fl206_1 ?_
                (conv => whnf); refine ld1 (v := .int .i64 ((j1 + 1 : Nat) : Int)) ct3 (by rw [(stl4.blk k (memP_r hp)).cell]; rfl) trivial ?_
                (conv => whnf); refine VCallP.mk (one_c (s := innS) hE hEB ht stl4 (memP_r hp)) ?_ ?_
                · rintro _ J5 ⟨hi2, j2, hhi, rfl, stl5⟩
                  rw [memP_set hp] at stl5
                  have hok2 := oneM_ok hhi
                  rw [hhi] at hmn
                  by_cases hlt : hi2 < lo
                  · have d4 : decide ((hi2 : Int) < (lo : Int)) = true := decide_eq_true (by omega)
                    simp only [if_pos hlt] at hmn
                    (conv => whnf); rw [d4]
                    (conv => whnf); refine VCallP.mk rfail_p (fun _ _ h => h.elim) ?_
                    rintro _ _ ⟨rfl, rfl⟩
                    exact ⟨j1 + 1, j2, by rw [hbr, hmn], rfl, stl5.lft⟩
                  · have d4 : decide ((hi2 : Int) < (lo : Int)) = false := decide_eq_false (by omega)
                    simp only [if_neg hlt] at hmn
                    (conv => whnf); rw [d4]
                    (conv => whnf); refine VDrawP.held (Old J5) [5] (sq [0,1,2] (.f 3 (.f 4 (.f 5 .e)))) (blind_all _ _) rfl (by kernel_rfl) ?_
                    (conv => whnf); refine ldN (cs := setL x) ag102 (ld_set (stl5.blk _ memP_3)) ((stl5.in_ _ memP_3 (k := q3) rfl).2) ?_
                    (conv => whnf); refine VCallP.of (pures (span_p lo hi2 (by omega) (by omega) J5) fun J1 ja1 => ?_)
                    refine ⟨ja1, ?_⟩
                    (conv => whnf); refine VCallP.of (pures (union_c x (spanS lo hi2) J1) fun J2 ja2 => ?_)
                    have ja3 := ja1.trans (ja2.mono fun k hk => old_lt ja1 hk)
                    refine ⟨ja3, ?_⟩
                    have stj := stl5.call ja3
                    (conv => whnf); refine stNB (cs := setL (x ||| spanS lo hi2)) stj _ rfl memP_3 (Nat.le_refl _) rfl fun J4 stj4 => ?_
                    rw [splAll (by rfl)] at stj4
                    replace stj4 : StB B H0 J4 (memP ps k r t q2 q3 j2 (x ||| spanS lo hi2)) := by
                      unfold memP at stj4 ⊢
                      rw [lsR] at stj4
                      exact stj4
                    (conv => whnf)
                    exact ⟨rfl, (j2, n, x ||| spanS lo hi2), rfl, ⟨by simp only; omega, by simp only; omega, hmn.symm, stj4⟩, by simp only; omega⟩
                · rintro _ J5 ⟨e, j2, hhi, rfl, stl5⟩
                  rw [memP_set hp] at stl5
                  rw [hhi] at hmn
                  exact ⟨e, j2, by rw [hbr, hmn], rfl, stl5.lft⟩
              · unfold dashM at hmn
                rw [if_neg h45] at hmn
                by_cases hj1 : bt t j1 = 256
                · rw [if_pos hj1, decide_eq_false (by omega)]
                  (conv => whnf); try (refine VSeqP.run ?_)
                  (conv => whnf); refine VDrawP.held (Old J3) [5] (sq [0,1,2] (.f 3 (.f 4 (.f 5 .e)))) (blind_all _ _) rfl (by kernel_rfl) ?_
                  (conv => whnf); refine ldN (cs := setL x) ag102 (ld_set (stl3.blk _ memP_3)) ((stl3.in_ _ memP_3 (k := q3) rfl).2) ?_
                  (conv => whnf); refine VCallP.of (pures (span_p lo lo (by omega) (by omega) J3) fun J1 ja1 => ?_)
                  refine ⟨ja1, ?_⟩
                  (conv => whnf); refine VCallP.of (pures (union_c x (spanS lo lo) J1) fun J2 ja2 => ?_)
                  have ja3 := ja1.trans (ja2.mono fun k hk => old_lt ja1 hk)
                  refine ⟨ja3, ?_⟩
                  have stj := stl3.call ja3
                  (conv => whnf); refine stNB (cs := setL (x ||| spanS lo lo)) stj _ rfl memP_3 (Nat.le_refl _) rfl fun J4 stj4 => ?_
                  rw [splAll (by rfl)] at stj4
                  replace stj4 : StB B H0 J4 (memP ps k r t q2 q3 j1 (x ||| spanS lo lo)) := by
                    unfold memP at stj4 ⊢
                    rw [lsR] at stj4
                    exact stj4
                  (conv => whnf)
                  exact ⟨rfl, (j1, n, x ||| spanS lo lo), rfl, ⟨by simp only; omega, by simp only; omega, hmn.symm, stj4⟩, by simp only; omega⟩
                · have hb4 := bt_in (bt_lt hj1)
                  rw [if_neg hj1, decide_eq_true (by omega)]
                  have d3 : ((bt t j1 : Int) == (45 : Int)) = false := beq_eq_false_iff_ne.2 (by omega)
                  (conv => whnf); try (refine VSeqP.run ?_)
                  (conv => whnf); rw [d3]
                  (conv => whnf); refine VDrawP.held (Old J3) [5] (sq [0,1,2] (.f 3 (.f 4 (.f 5 .e)))) (blind_all _ _) rfl (by kernel_rfl) ?_
                  (conv => whnf); refine ldN (cs := setL x) ag102 (ld_set (stl3.blk _ memP_3)) ((stl3.in_ _ memP_3 (k := q3) rfl).2) ?_
                  (conv => whnf); refine VCallP.of (pures (span_p lo lo (by omega) (by omega) J3) fun J1 ja1 => ?_)
                  refine ⟨ja1, ?_⟩
                  (conv => whnf); refine VCallP.of (pures (union_c x (spanS lo lo) J1) fun J2 ja2 => ?_)
                  have ja3 := ja1.trans (ja2.mono fun k hk => old_lt ja1 hk)
                  refine ⟨ja3, ?_⟩
                  have stj := stl3.call ja3
                  (conv => whnf); refine stNB (cs := setL (x ||| spanS lo lo)) stj _ rfl memP_3 (Nat.le_refl _) rfl fun J4 stj4 => ?_
                  rw [splAll (by rfl)] at stj4
                  replace stj4 : StB B H0 J4 (memP ps k r t q2 q3 j1 (x ||| spanS lo lo)) := by
                    unfold memP at stj4 ⊢
                    rw [lsR] at stj4
                    exact stj4
                  (conv => whnf)
                  exact ⟨rfl, (j1, n, x ||| spanS lo lo), rfl, ⟨by simp only; omega, by simp only; omega, hmn.symm, stj4⟩, by simp only; omega⟩
            · rintro _ J2 ⟨e, j1, hlo, rfl, stl2⟩
              rw [memP_set hp] at stl2
              refine ⟨e, j1, ?_, rfl, stl2.lft⟩
              rw [hbr, ← heq]
              unfold memM
              rw [if_neg h93, hlo]
  · have d1 : ((bt t i : Int) == (94 : Int)) = nt := by
      rw [hnt]
      by_cases h : bt t i = 94
      · rw [h]; rfl
      · rw [decide_eq_false h]; exact beq_eq_false_iff_ne.2 (by omega)
    rw [if_neg h0, decide_eq_true (by omega)]
    (conv => whnf); rw [d1]
    (conv => whnf)
    refine VSeqP.cut [] (fun _ : Unit => []) (fun _ G => StB B H0 G (memP ps k r t q2 q3 (if nt then i + 1 else i) 0#256)) ?_ ?_
    · (conv => whnf); refine VIte.mk (fun hn => ?_) (fun hn => ?_)
      · (conv => whnf)
        (conv => whnf); refine VC.fa fl206_1 ?_
        (conv => whnf); refine ld1 (v := .int .i64 ((i : Nat) : Int)) ct3 (by rw [(st4.blk k (memP_r hp)).cell]; rfl) trivial ?_
        (conv => whnf); rw [w64 (x := ((i : Nat) : Int) + 1) (by omega) (by omega)]
        (conv => whnf); refine VC.fa fl206_1 ?_
        (conv => whnf); refine st1B st4 k ct3 (memP_r hp) (by simp) rfl fun H5 st5 => ?_
        replace st5 : StB B H0 H5 ((memP ps k r t q2 q3 i 0#256).set k (pRd r t (i + 1))) := st5
        rw [memP_set hp] at st5
        exact ⟨rfl, (), rfl, by rw [hn]; exact st5⟩
      · (conv => whnf)
        exact ⟨rfl, (), rfl, by rw [hn]; exact st4⟩
    · rintro ⟨⟩ G junk0 stg
      (conv => whnf)
      refine VLoopP.mk [] (fun _ : Nat × Nat × BitVec 256 => []) (fun y G => MemI B H0 ps k r t q2 q3 M y G) (fun y _ => t.size - y.1) ?_ ?_
      · (conv => whnf)
        exact ⟨((if nt then i + 1 else i), t.size + 1, 0#256), rfl, ⟨hle, by simp only; omega, hM.symm, stg⟩⟩
      · rintro ⟨j, n, x⟩ J0 junk1 ⟨hj, hfu, heq, stl⟩
        simp only at hj hfu heq stl
        obtain ⟨n, rfl⟩ : ∃ m, n = m + 1 := ⟨n - 1, by omega⟩
        (conv => whnf); try (refine VSeqP.run ?_)
        (conv => whnf); refine VCallP.of (pures (peek_p (stl.blk k (memP_r hp))) fun J1 ja1 => ?_)
        have stl1 := stl.call ja1
        by_cases hj0 : bt t j = 256
        · rw [if_pos hj0, decide_eq_false (by omega)]
          have hmn : memM t (n + 1) j x = .inl j := by
            unfold memM
            rw [if_neg (by omega)]
            have : oneM t innS j = .inl j := by unfold oneM; rw [hj0, if_neg (by decide), if_pos (.inr (.inl (by decide)))]
            rw [this]
          (conv => whnf); try (refine VSeqP.run ?_)
          (conv => whnf); refine VCallP.mk (one_c (s := innS) hE hEB ht stl1 (memP_r hp)) ?_ ?_
          · rintro _ J2 ⟨lo, j1, hlo, rfl, stl2⟩
            exfalso
            have : oneM t innS j = .inl j := by unfold oneM; rw [hj0, if_neg (by decide), if_pos (.inr (.inl (by decide)))]
            rw [this] at hlo; cases hlo
          · rintro _ J2 ⟨e, j1, hlo, rfl, stl2⟩
            rw [memP_set hp] at stl2
            refine ⟨e, j1, ?_, rfl, stl2.lft⟩
            have : oneM t innS j = .inl j := by unfold oneM; rw [hj0, if_neg (by decide), if_pos (.inr (.inl (by decide)))]
            rw [this] at hlo
            cases hlo
            rw [hbr, ← heq, hmn]
        · have hjl := bt_lt hj0
          obtain ⟨b1, hb1, hb2, hb3⟩ := bt_in hjl
          rw [if_neg hj0, decide_eq_true (by omega)]
          by_cases h93 : bt t j = 93
          · have d2 : ((bt t j : Int) == (93 : Int)) = true := by rw [h93]; rfl
            have hmn : M = .inr (x, j + 1) := by rw [← heq]; unfold memM; rw [if_pos h93]
            (conv => whnf); try (refine VSeqP.run ?_)
            (conv => whnf); rw [d2]
            (conv => whnf); refine VC.fa fl206_1 ?_
            (conv => whnf); refine ld1 (v := .int .i64 ((j : Nat) : Int)) ct3 (by rw [(stl1.blk k (memP_r hp)).cell]; rfl) trivial ?_
            (conv => whnf); rw [w64 (x := ((j : Nat) : Int) + 1) (by omega) (by omega)]
            (conv => whnf); refine VC.fa fl206_1 ?_
            (conv => whnf); refine st1B stl1 k ct3 (memP_r hp) (by simp) rfl fun J2 stl2 => ?_
            replace stl2 : StB B H0 J2 ((memP ps k r t q2 q3 j x).set k (pRd r t (j + 1))) := stl2
            rw [memP_set hp] at stl2
            rw [hmn] at hbr
            (conv => whnf); refine VIte.mk (fun hn => ?_) (fun hn => ?_)
            · (conv => whnf); refine ldN (cs := setL x) ag102 (ld_set (stl2.blk _ memP_3)) trivial ?_
              (conv => whnf); refine VCallP.of (pures (not_c x J2) fun J3 ja3 => ?_)
              have stl3 := stl2.call ja3
              (conv => whnf); refine stNB (cs := setL (~~~x)) stl3 _ rfl memP_2 (Nat.le_refl _) rfl fun J4 stl4 => ?_
              have hb4 : Blk J4 q2 102 (setL (~~~x)) := by
                have := stl4.blk _ (lgS memP_2)
                rwa [splAll (by rfl)] at this
              unfold memP at stl4
              rw [lsR] at stl4
              (conv => whnf); refine ldN (cs := setL (~~~x)) ag102 (ld_set hb4) trivial ?_
              exact ⟨~~~x, j + 1, by rw [hbr, hn]; rfl, rfl, stl4.lft⟩
            · (conv => whnf); refine ldN (cs := setL x) ag102 (ld_set (stl2.blk _ memP_3)) trivial ?_
              (conv => whnf); refine stNB (cs := setL x) stl2 _ rfl memP_2 (Nat.le_refl _) rfl fun J4 stl4 => ?_
              have hb4 : Blk J4 q2 102 (setL x) := by
                have := stl4.blk _ (lgS memP_2)
                rwa [splAll (by rfl)] at this
              unfold memP at stl4
              rw [lsR] at stl4
              (conv => whnf); refine ldN (cs := setL x) ag102 (ld_set hb4) trivial ?_
              exact ⟨x, j + 1, by rw [hbr, hn]; rfl, rfl, stl4.lft⟩
          · have d2 : ((bt t j : Int) == (93 : Int)) = false := beq_eq_false_iff_ne.2 (by omega)
            (conv => whnf); try (refine VSeqP.run ?_)
            (conv => whnf); rw [d2]
            (conv => whnf); refine VCallP.mk (one_c (s := innS) hE hEB ht stl1 (memP_r hp)) ?_ ?_
            · rintro _ J2 ⟨lo, j1, hlo, rfl, stl2⟩
              rw [memP_set hp] at stl2
              have hok := oneM_ok hlo
              have hmn : memM t (n + 1) j x = dashM t lo j1 x (memM t n) := by
                rw [memM, if_neg h93, hlo]
              rw [heq] at hmn
              (conv => whnf); try (refine VSeqP.run ?_)
              (conv => whnf); refine VCallP.of (pures (peek_p (stl2.blk k (memP_r hp))) fun J3 ja3 => ?_)
              have stl3 := stl2.call ja3
              by_cases h45 : bt t j1 = 45
              · have hj1l : j1 < t.size := bt_lt (by omega)
                rw [if_neg (by omega), decide_eq_true (by omega)]
                unfold dashM at hmn
                rw [if_pos h45] at hmn
                have d3 : ((bt t j1 : Int) == (45 : Int)) = true := by rw [h45]; rfl
                (conv => whnf); try (refine VSeqP.run ?_)
                (conv => whnf); rw [d3]
                (conv => whnf); refine VC.fa fl206_1 ?_
                (conv => whnf); refine ld1 (v := .int .i64 ((j1 : Nat) : Int)) ct3 (by rw [(stl3.blk k (memP_r hp)).cell]; rfl) trivial ?_
                (conv => whnf); rw [w64 (x := ((j1 : Nat) : Int) + 1) (by omega) (by omega)]
                (conv => whnf); refine VC.fa fl206_1 ?_
                (conv => whnf); refine st1B stl3 k ct3 (memP_r hp) (by simp) rfl fun J4 stl4 => ?_
                replace stl4 : StB B H0 J4 ((memP ps k r t q2 q3 j1 x).set k (pRd r t (j1 + 1))) := stl4
                rw [memP_set hp] at stl4
                (conv => whnf); refine VC.fa fl206_1 ?_
                (conv => whnf); refine ld1 (v := .int .i64 ((j1 + 1 : Nat) : Int)) ct3 (by rw [(stl4.blk k (memP_r hp)).cell]; rfl) trivial ?_
                (conv => whnf); refine VCallP.mk (one_c (s := innS) hE hEB ht stl4 (memP_r hp)) ?_ ?_
                · rintro _ J5 ⟨hi2, j2, hhi, rfl, stl5⟩
                  rw [memP_set hp] at stl5
                  have hok2 := oneM_ok hhi
                  rw [hhi] at hmn
                  by_cases hlt : hi2 < lo
                  · have d4 : decide ((hi2 : Int) < (lo : Int)) = true := decide_eq_true (by omega)
                    simp only [if_pos hlt] at hmn
                    (conv => whnf); rw [d4]
                    (conv => whnf); refine VCallP.mk rfail_p (fun _ _ h => h.elim) ?_
                    rintro _ _ ⟨rfl, rfl⟩
                    exact ⟨j1 + 1, j2, by rw [hbr, hmn], rfl, stl5.lft⟩
                  · have d4 : decide ((hi2 : Int) < (lo : Int)) = false := decide_eq_false (by omega)
                    simp only [if_neg hlt] at hmn
                    (conv => whnf); rw [d4]
                    (conv => whnf); refine VDrawP.held (Old J5) [5] (sq [0,1,2] (.f 3 (.f 4 (.f 5 .e)))) (blind_all _ _) rfl (by kernel_rfl) ?_
                    (conv => whnf); refine ldN (cs := setL x) ag102 (ld_set (stl5.blk _ memP_3)) ((stl5.in_ _ memP_3 (k := q3) rfl).2) ?_
                    (conv => whnf); refine VCallP.of (pures (span_p lo hi2 (by omega) (by omega) J5) fun J1 ja1 => ?_)
                    refine ⟨ja1, ?_⟩
                    (conv => whnf); refine VCallP.of (pures (union_c x (spanS lo hi2) J1) fun J2 ja2 => ?_)
                    have ja3 := ja1.trans (ja2.mono fun k hk => old_lt ja1 hk)
                    refine ⟨ja3, ?_⟩
                    have stj := stl5.call ja3
                    (conv => whnf); refine stNB (cs := setL (x ||| spanS lo hi2)) stj _ rfl memP_3 (Nat.le_refl _) rfl fun J4 stj4 => ?_
                    rw [splAll (by rfl)] at stj4
                    replace stj4 : StB B H0 J4 (memP ps k r t q2 q3 j2 (x ||| spanS lo hi2)) := by
                      unfold memP at stj4 ⊢
                      rw [lsR] at stj4
                      exact stj4
                    (conv => whnf)
                    exact ⟨rfl, (j2, n, x ||| spanS lo hi2), rfl, ⟨by simp only; omega, by simp only; omega, hmn.symm, stj4⟩, by simp only; omega⟩
                · rintro _ J5 ⟨e, j2, hhi, rfl, stl5⟩
                  rw [memP_set hp] at stl5
                  rw [hhi] at hmn
                  exact ⟨e, j2, by rw [hbr, hmn], rfl, stl5.lft⟩
              · unfold dashM at hmn
                rw [if_neg h45] at hmn
                by_cases hj1 : bt t j1 = 256
                · rw [if_pos hj1, decide_eq_false (by omega)]
                  (conv => whnf); try (refine VSeqP.run ?_)
                  (conv => whnf); refine VDrawP.held (Old J3) [5] (sq [0,1,2] (.f 3 (.f 4 (.f 5 .e)))) (blind_all _ _) rfl (by kernel_rfl) ?_
                  (conv => whnf); refine ldN (cs := setL x) ag102 (ld_set (stl3.blk _ memP_3)) ((stl3.in_ _ memP_3 (k := q3) rfl).2) ?_
                  (conv => whnf); refine VCallP.of (pures (span_p lo lo (by omega) (by omega) J3) fun J1 ja1 => ?_)
                  refine ⟨ja1, ?_⟩
                  (conv => whnf); refine VCallP.of (pures (union_c x (spanS lo lo) J1) fun J2 ja2 => ?_)
                  have ja3 := ja1.trans (ja2.mono fun k hk => old_lt ja1 hk)
                  refine ⟨ja3, ?_⟩
                  have stj := stl3.call ja3
                  (conv => whnf); refine stNB (cs := setL (x ||| spanS lo lo)) stj _ rfl memP_3 (Nat.le_refl _) rfl fun J4 stj4 => ?_
                  rw [splAll (by rfl)] at stj4
                  replace stj4 : StB B H0 J4 (memP ps k r t q2 q3 j1 (x ||| spanS lo lo)) := by
                    unfold memP at stj4 ⊢
                    rw [lsR] at stj4
                    exact stj4
                  (conv => whnf)
                  exact ⟨rfl, (j1, n, x ||| spanS lo lo), rfl, ⟨by simp only; omega, by simp only; omega, hmn.symm, stj4⟩, by simp only; omega⟩
                · have hb4 := bt_in (bt_lt hj1)
                  rw [if_neg hj1, decide_eq_true (by omega)]
                  have d3 : ((bt t j1 : Int) == (45 : Int)) = false := beq_eq_false_iff_ne.2 (by omega)
                  (conv => whnf); try (refine VSeqP.run ?_)
                  (conv => whnf); rw [d3]
                  (conv => whnf); refine VDrawP.held (Old J3) [5] (sq [0,1,2] (.f 3 (.f 4 (.f 5 .e)))) (blind_all _ _) rfl (by kernel_rfl) ?_
                  (conv => whnf); refine ldN (cs := setL x) ag102 (ld_set (stl3.blk _ memP_3)) ((stl3.in_ _ memP_3 (k := q3) rfl).2) ?_
                  (conv => whnf); refine VCallP.of (pures (span_p lo lo (by omega) (by omega) J3) fun J1 ja1 => ?_)
                  refine ⟨ja1, ?_⟩
                  (conv => whnf); refine VCallP.of (pures (union_c x (spanS lo lo) J1) fun J2 ja2 => ?_)
                  have ja3 := ja1.trans (ja2.mono fun k hk => old_lt ja1 hk)
                  refine ⟨ja3, ?_⟩
                  have stj := stl3.call ja3
                  (conv => whnf); refine stNB (cs := setL (x ||| spanS lo lo)) stj _ rfl memP_3 (Nat.le_refl _) rfl fun J4 stj4 => ?_
                  rw [splAll (by rfl)] at stj4
                  replace stj4 : StB B H0 J4 (memP ps k r t q2 q3 j1 (x ||| spanS lo lo)) := by
                    unfold memP at stj4 ⊢
                    rw [lsR] at stj4
                    exact stj4
                  (conv => whnf)
                  exact ⟨rfl, (j1, n, x ||| spanS lo lo), rfl, ⟨by simp only; omega, by simp only; omega, hmn.symm, stj4⟩, by simp only; omega⟩
            · rintro _ J2 ⟨e, j1, hlo, rfl, stl2⟩
              rw [memP_set hp] at stl2
              refine ⟨e, j1, ?_, rfl, stl2.lft⟩
              rw [hbr, ← heq]
              unfold memM
              rw [if_neg h93, hlo]
end Go.Proofs.YtlnmhfhdjnenoaaGreatDoor
/- class.reader's item; class.Read: the walks. -/
set_option linter.unusedVariables false
set_option linter.unusedSimpArgs false
set_option maxRecDepth 100000
namespace Go.VC
theorem vta_sure {P : Program} {t A : TypeId} {S : Nat → Prop} {H : Heap} {K : Value → Prop} {v : Value} {d : TypeDesc} (hd : P.underlying A = some d) (hn : ∀ ms, d ≠ .interface ms) (k : K v) : VDet P (Instr.typeAssert (.iface A v) t A false) S H K := by
  refine VDet.mk _ (fun w _ => ?_) k
  unfold Instr.typeAssert
  simp only [Sem.run_bind, run_underlying hd, Result.andThen_ok]
  cases d <;> first | (exact absurd rfl (hn _)) | simp
end Go.VC
namespace Go.Proofs.YtlnmhfhdjnenoaaGreatDoor
open Go.VC Go.Lib
theorem of_nl : ofB 0#256 (byN ⟨#[10]⟩) = spanS 10 10 := by decide +kernel
set_option maxHeartbeats 16000000 in
theorem item_c {B : Nat → Prop} {H0 H : Heap} {ps : List Pc} {k r i : Nat} {t : ByteArray} (hE : EscH H0) (hEB : B 0) (ht : t.size ≤ 1152921504606846976) (st : StB B H0 H ps) (hp : ps[k]? = some (pRd r t i)) (hi : i < t.size) :
    FnOkP Tryz.prog 128 #[.pointer (some ⟨r, 0, none⟩)] H (fun v H' => ∃ (x : BitVec 256) (j : Nat), readSet t i = .inr (x, j) ∧ v = setV x ∧ StB B H0 H' (ps.set k (pRd r t j)))
      (fun x H' => ∃ e j : Nat, readSet t i = .inl e ∧ x = faultV 10 e ∧ StB B H0 H' (ps.set k (pRd r t j))) := by
  refine FnOkP.of_vc Tryz.func128 rfl (Tryz.call128 _) ?_
  obtain ⟨b, hb1, hb2, hb3⟩ := bt_in hi
  (conv => whnf); refine valloc (setV 0) (setL 0) rfl rfl ?_
  intro q2 H2 hq2 hs2 hb2' ha2
  have st2 := st.box hq2 hs2 hb2' ha2
  have hp2 : (ps ++ [pB 102 q2 (setL 0)])[k]? = some (pRd r t i) := lgL hp
  have hset : ∀ (j : Nat), (ps ++ [pB 102 q2 (setL 0)]).set k (pRd r t j) = ps.set k (pRd r t j) ++ [pB 102 q2 (setL 0)] := fun j => lsL hp
  have hl : ∀ (j : Nat), (ps.set k (pRd r t j) ++ [pB 102 q2 (setL 0)])[(ps.set k (pRd r t j)).length]? = some (pB 102 q2 (setL 0)) := fun j => lgR0 _ _
  have hbr := st2.blk k hp2
  (conv => whnf); refine VDrawP.of (VDraw.lex rfl (by kernel_rfl) ?_)
  (conv => whnf); refine VC.fa fl206_0 ?_
  (conv => whnf); refine ld1 (v := .string t) ct9 (by rw [hbr.cell]; rfl) trivial ?_
  (conv => whnf); refine VC.fa fl206_1 ?_
  (conv => whnf); refine ld1 (v := .int .i64 (i : Int)) ct3 (by rw [hbr.cell]; rfl) trivial ?_
  (conv => whnf); refine vidxs rstrT rfl hb1 ?_
  rw [← hb2]
  have fin : ∀ (x : BitVec 256) (j : Nat) (G : Heap), readSet t i = .inr (x, j) → StB B H0 G (ps.set k (pRd r t j) ++ [pB 102 q2 (setL 0)]) → True := fun _ _ _ _ _ => trivial
  by_cases h46 : bt t i = 46
  · have d1 : ((bt t i : Int) == (46 : Int)) = true := by rw [h46]; rfl
    (conv => whnf); try (refine VSeqP.run ?_)
    (conv => whnf); rw [d1]
    (conv => whnf); refine VC.fa fl206_1 ?_
    (conv => whnf); refine ld1 (v := .int .i64 ((i : Nat) : Int)) ct3 (by rw [(st2.blk k hp2).cell]; rfl) trivial ?_
    (conv => whnf); rw [w64 (x := ((i : Nat) : Int) + 1) (by omega) (by omega)]
    (conv => whnf); refine VC.fa fl206_1 ?_
    (conv => whnf); refine st1B st2 k ct3 hp2 (by simp) rfl fun H4 st4 => ?_
    replace st4 : StB B H0 H4 ((ps ++ [pB 102 q2 (setL 0)]).set k (pRd r t (i + 1))) := st4
    rw [hset] at st4
    (conv => whnf); refine VCallP.of (pures (of_p ⟨#[10]⟩ (by decide) H4) fun H5 ha5 => ?_)
    have st5 := st4.call ha5
    rw [of_nl]
    (conv => whnf); refine VCallP.of (pures (not_c (spanS 10 10) H5) fun H6 ha6 => ?_)
    have st6 := st5.call ha6
    (conv => whnf); refine stNB (cs := setL (~~~(spanS 10 10))) st6 _ rfl (hl _) (Nat.le_refl _) rfl fun H7 st7 => ?_
    have hb7 : Blk H7 q2 102 (setL (~~~(spanS 10 10))) := by
      have := st7.blk _ (lgS (hl _))
      rwa [splAll (by rfl)] at this
    rw [lsR0] at st7
    (conv => whnf); refine ldN (cs := setL (~~~(spanS 10 10))) ag102 (ld_set hb7) trivial ?_
    exact ⟨_, i + 1, by unfold readSet; rw [if_pos h46], rfl, st7.lft⟩
  have d1 : ((bt t i : Int) == (46 : Int)) = false := beq_eq_false_iff_ne.2 (by omega)
  by_cases h91 : bt t i = 91
  · have d2 : ((bt t i : Int) == (91 : Int)) = true := by rw [h91]; rfl
    have hrs : readSet t i = bracM t (i + 1) := by unfold readSet; rw [if_neg h46, if_pos h91]
    (conv => whnf); try (refine VSeqP.run ?_)
    (conv => whnf); rw [d1]
    (conv => whnf); rw [d2]
    (conv => whnf); refine VC.fa fl206_1 ?_
    (conv => whnf); refine ld1 (v := .int .i64 ((i : Nat) : Int)) ct3 (by rw [(st2.blk k hp2).cell]; rfl) trivial ?_
    (conv => whnf); rw [w64 (x := ((i : Nat) : Int) + 1) (by omega) (by omega)]
    (conv => whnf); refine VC.fa fl206_1 ?_
    (conv => whnf); refine st1B st2 k ct3 hp2 (by simp) rfl fun H4 st4 => ?_
    replace st4 : StB B H0 H4 ((ps ++ [pB 102 q2 (setL 0)]).set k (pRd r t (i + 1))) := st4
    (conv => whnf); refine VCallP.mk (members_c hE hEB ht st4 (lgS hp2) (by omega)) ?_ ?_
    · rintro _ H5 ⟨x, j, hx, rfl, st5⟩
      rw [List.set_set, hset] at st5
      (conv => whnf); refine stNB (cs := setL x) st5 _ rfl (hl _) (Nat.le_refl _) rfl fun H7 st7 => ?_
      have hb7 : Blk H7 q2 102 (setL x) := by
        have := st7.blk _ (lgS (hl _))
        rwa [splAll (by rfl)] at this
      rw [lsR0] at st7
      (conv => whnf); refine ldN (cs := setL x) ag102 (ld_set hb7) trivial ?_
      exact ⟨x, j, by rw [hrs, hx], rfl, st7.lft⟩
    · rintro _ H5 ⟨e, j, hx, rfl, st5⟩
      rw [List.set_set, hset] at st5
      exact ⟨e, j, by rw [hrs, hx], rfl, st5.lft⟩
  have d2 : ((bt t i : Int) == (91 : Int)) = false := beq_eq_false_iff_ne.2 (by omega)
  have hrs : readSet t i = match oneM t specS i with | .inl e => .inl e | .inr (b, k) => .inr (spanS b b, k) := by unfold readSet; rw [if_neg h46, if_neg h91]; rfl
  (conv => whnf); try (refine VSeqP.run ?_)
  (conv => whnf); rw [d1]
  (conv => whnf); rw [d2]
  (conv => whnf); refine VCallP.mk (one_c (s := specS) hE hEB ht st2 hp2) ?_ ?_
  · rintro _ H5 ⟨c, j, hx, rfl, st5⟩
    have hok := oneM_ok hx
    rw [hset] at st5
    rw [hx] at hrs
    (conv => whnf); refine VCallP.of (pures (span_p c c (by omega) (by omega) H5) fun H6 ha6 => ?_)
    have st6 := st5.call ha6
    (conv => whnf); refine stNB (cs := setL (spanS c c)) st6 _ rfl (hl _) (Nat.le_refl _) rfl fun H7 st7 => ?_
    have hb7 : Blk H7 q2 102 (setL (spanS c c)) := by
      have := st7.blk _ (lgS (hl _))
      rwa [splAll (by rfl)] at this
    rw [lsR0] at st7
    (conv => whnf); refine ldN (cs := setL (spanS c c)) ag102 (ld_set hb7) trivial ?_
    exact ⟨_, j, hrs, rfl, st7.lft⟩
  · rintro _ H5 ⟨e, j, hx, rfl, st5⟩
    rw [hset] at st5
    rw [hx] at hrs
    exact ⟨e, j, hrs, rfl, st5.lft⟩
/-! ### class.Read -/
def faultA (c i : Nat) : Value := .agg #[.int .i64 (c : Int), .int .i64 (i : Int), .string ⟨#[]⟩]
def faultL (c i : Nat) : List Value := [.int .i64 (c : Int), .int .i64 (i : Int), .string ⟨#[]⟩]
def rdRes (q4 q5 q6 : Nat) (x : BitVec 256) (j c e : Nat) : List Pc := [pB 102 q4 (setL x), pB 3 q5 [.int .i64 (j : Int)], pB 27 q6 (faultL c e)]
theorem rdclosR {H : Heap} {q4 q5 q6 : Nat} {K : Heap → Prop} (k : K H) : VClos Tryz.prog 127 #[.pointer (some ⟨q4, 0, none⟩), .pointer (some ⟨q5, 0, none⟩), .pointer (some ⟨q6, 0, none⟩)] .returning .returning H K := by
  refine VClos.mk (R := fun H' => H' = H) (callsD_rec (R := fun H' => H' = H) Tryz.func127 rfl ⟨⟨_, rfl⟩, rfl, rfl, rfl, rfl, rfl⟩ .ret rfl ?_) (fun H' h => by rw [h]; exact k)
  (conv => whnf)
  refine ⟨rfl, ?_⟩
  (conv => whnf); refine ifneqN Tryz.underlying20 ?_
  (conv => whnf)
theorem rdclosP {B : Nat → Prop} {H0 H : Heap} {q4 q5 q6 e j c0 e0 : Nat} {x : BitVec 256} {ps : List Pc} {K : Heap → Prop} (st : StB B H0 H (rdRes q4 q5 q6 x j c0 e0 ++ ps)) (k : ∀ H', StB B H0 H' (rdRes q4 q5 q6 0 0 10 e ++ ps) → K H') :
    VClos Tryz.prog 127 #[.pointer (some ⟨q4, 0, none⟩), .pointer (some ⟨q5, 0, none⟩), .pointer (some ⟨q6, 0, none⟩)] (.panicking (pe (faultV 10 e))) (.panicking [{ v := faultV 10 e, recovered := true }]) H K := by
  refine VClos.mk (R := fun H' => StB B H0 H' (rdRes q4 q5 q6 0 0 10 e ++ ps)) (callsD_rec (R := fun H' => StB B H0 H' (rdRes q4 q5 q6 0 0 10 e ++ ps)) Tryz.func127 rfl ⟨⟨_, rfl⟩, rfl, rfl, rfl, rfl, rfl⟩ (.pan _) rfl ?_) k
  (conv => whnf)
  refine ⟨rfl, ?_⟩
  (conv => whnf); refine ifneq Tryz.underlying20 ?_
  (conv => whnf); refine VDraw.held (fun _ => False) 6 (sq [0,1,2] (.f 3 (.f 4 (.f 5 .e)))) rfl (by kernel_rfl) ?_
  (conv => whnf); refine vbuildA ar102 (setV 0) rfl (setL 0) rfl ?_
  (conv => whnf); refine vta_sure Tryz.underlying27 (fun ms h => by cases h) ?_
  (conv => whnf); refine stNB (cs := setL 0) st 0 rfl rfl (Nat.le_refl _) rfl fun H1 st1 => ?_
  refine ⟨fun k hk => hk.elim, ?_⟩
  (conv => whnf); refine st1B st1 1 ct3 rfl (by simp) rfl fun H2 st2 => ?_
  refine ⟨fun k hk => hk.elim, ?_⟩
  (conv => whnf); refine stNB (cs := faultL 10 e) st2 2 rfl rfl (Nat.le_refl _) rfl fun H3 st3 => ?_
  refine ⟨fun k hk => hk.elim, ?_⟩
  (conv => whnf)
  have e1 : splice (setL x) 0 (setL 0) = setL 0 := splAll rfl
  have e2 : splice (faultL c0 e0) 0 (faultL 10 e) = faultL 10 e := splAll rfl
  rw [e2] at st3
  rw [e1] at st3
  exact st3
/-- What Read answers. -/
def RdAns (t : ByteArray) (i : Nat) (v : Value) : Prop := match readSet t i with
  | .inl e => v = .tuple #[setV 0, .int .i64 0, faultA 10 e]
  | .inr (x, j) => v = .tuple #[setV x, .int .i64 (j : Int), faultA 0 0]
set_option maxHeartbeats 16000000 in
theorem classRead_c {H : Heap} {t : ByteArray} {i : Nat} (hE : EscH H) (ht : t.size ≤ 1152921504606846976) (hi : i < t.size) :
    FnOk Tryz.prog 112 #[.string t, .int .i64 (i : Int)] H fun v H' => Agr (Old H) H H' ∧ RdAns t i v := by
  refine FnOk.of_defer Tryz.func112 rfl (Tryz.call112 _) ⟨rfl, rfl, rfl, ⟨_, rfl⟩, rfl, rfl⟩ (fun vs w => Tryz.call127 _ w) ?_
  (conv => whnf); refine valloc (setV 0) (setL 0) rfl rfl ?_
  intro q4 H1 hq1 hs1 hb1 ha1
  have st1 := (St.nil H).box hq1 hs1 hb1 ha1
  (conv => whnf); refine valloc (.int .i64 0) [.int .i64 0] rfl rfl ?_
  intro q5 H2 hq2 hs2 hb2 ha2
  have st2 := st1.box hq2 hs2 hb2 ha2
  (conv => whnf); refine valloc (faultA 0 0) (faultL 0 0) rfl rfl ?_
  intro q6 H3 hq3 hs3 hb3 ha3
  have st3 := st2.box hq3 hs3 hb3 ha3
  have d1 : decide ((i : Int) < 0) = false := decide_eq_false (by omega)
  have d2 : decide ((i : Int) ≥ (t.size : Int)) = false := decide_eq_false (by omega)
  (conv => whnf); rw [d1]
  (conv => whnf); rw [d2]
  (conv => whnf)
  refine ⟨rfl, ?_⟩
  (conv => whnf); refine vbuildS Tryz.underlying206 rfl _ rfl (rdL t i) rfl ?_
  (conv => whnf); refine vbox (rdL t i) rfl ?_
  intro r H4 hq4 hs4 hb4 ha4
  have st4 := st3.box hq4 hs4 hb4 ha4
  have o3 : q4 < q5 := by have : q5 = H1.size := hq2; omega
  have o4 : q5 < q6 := by have : q6 = H2.size := hq3; omega
  have o5 : q6 < r := by have : r = H3.size := hq4; omega
  (conv => whnf); refine VCallP.mk (item_c (k := 3) hE hE.2 ht st4 rfl hi) ?_ ?_
  · rintro _ H5 ⟨x, j, hx, rfl, st5⟩
    (conv => whnf); refine stNB (cs := setL x) st5 0 rfl rfl (Nat.le_refl _) rfl fun H6 st6 => ?_
    have e1 : splice (setL 0) 0 (setL x) = setL x := splAll rfl
    rw [e1] at st6
    have b4 := st6.blk 0 rfl
    have br : Blk H6 r 206 (rdL t j) := st6.blk 3 rfl
    (conv => whnf); refine VDrawP.held (fun k => k = q4 ∨ k = r) [] (sq [0,1,2,3,4,5] (.f 6 (.f 7 (.f 8 .e)))) (blind_clos (R := fun v H5 => Agr (Old H) H H5 ∧ RdAns t i v) (by kernel_rfl)) rfl (by kernel_rfl) ?_
    (conv => whnf); refine ldN (cs := setL x) ag102 (ld_set b4) (.inl rfl) ?_
    (conv => whnf); refine VC.fa fl206_1 ?_
    (conv => whnf); refine ld1 (v := .int .i64 (j : Int)) ct3 (by rw [br.cell]; rfl) (.inr rfl) ?_
    (conv => whnf); refine vbuildS Tryz.underlying27 rfl _ rfl (faultL 0 0) rfl ?_
    (conv => whnf); refine stNBa (cs := setL x) st6 0 rfl rfl (Nat.le_refl _) rfl fun H7 st7 ha7 hs7 => ?_
    have e2 : splice (setL x) 0 (setL x) = setL x := splAll rfl
    rw [e2] at st7
    have a7 : Agr (fun k => k = q4 ∨ k = r) H6 H7 := fun k hk => by
      rcases hk with h | h
      · rw [h]; exact (st7.blk 0 rfl).trans b4.symm
      · exact ha7 _ (show k ≠ q4 by omega)
    refine ⟨a7, ?_⟩
    (conv => whnf); refine st1Ba st7 1 ct3 rfl (by simp) rfl fun H8 st8 ha8 hs8 => ?_
    have a8 : Agr (fun k => k = q4 ∨ k = r) H6 H8 := a7.trans (ha8.mono fun k hk => by rcases hk with rfl | rfl <;> omega)
    refine ⟨a8, ?_⟩
    (conv => whnf); refine stNBa (cs := faultL 0 0) st8 2 rfl rfl (Nat.le_refl _) rfl fun H9 st9 ha9 hs9 => ?_
    have a9 : Agr (fun k => k = q4 ∨ k = r) H6 H9 := a8.trans (ha9.mono fun k hk => by rcases hk with rfl | rfl <;> omega)
    refine ⟨a9, ?_⟩
    (conv => whnf)
    refine rdclosR ?_
    (conv => whnf); refine ldN (cs := setL x) ag102 (ld_set (st9.blk 0 rfl)) trivial ?_
    (conv => whnf); refine ld1 (v := .int .i64 (j : Int)) ct3 (by rw [(st9.blk 1 rfl).cell]; rfl) trivial ?_
    (conv => whnf); refine ldN (cs := faultL 0 0) ag27 ((st9.blk 2 rfl).cells (fun j v hv => by rw [Nat.zero_add]; exact hv)) trivial ?_
    refine ⟨st9.old, ?_⟩
    unfold RdAns
    rw [hx]
    rfl
  · rintro _ H5 ⟨e, j, hx, rfl, st5⟩
    refine rdclosP (q4 := q4) (q5 := q5) (q6 := q6) (x := 0) (j := 0) (c0 := 0) (e0 := 0) st5 fun H6 st6 => ?_
    (conv => whnf); refine ldN (cs := setL 0) ag102 (ld_set (st6.blk 0 rfl)) trivial ?_
    (conv => whnf); refine ld1 (v := .int .i64 0) ct3 (by rw [(st6.blk 1 rfl).cell]; rfl) trivial ?_
    (conv => whnf); refine ldN (cs := faultL 10 e) ag27 ((st6.blk 2 rfl).cells (fun j v hv => by rw [Nat.zero_add]; exact hv)) trivial ?_
    refine ⟨st6.old, ?_⟩
    unfold RdAns
    rw [hx]
    rfl
end Go.Proofs.YtlnmhfhdjnenoaaGreatDoor
/- Regions whose order is open, where three operations may be ready at a time. -/
set_option linter.unusedVariables false
set_option linter.unusedSimpArgs false
namespace Go.VC
inductive Sc3 where
  | e
  | q (i : Nat) (s : Sc3)
  | f (i : Nat) (s : Sc3)
  | b (i : Nat) (s : Sc3) (j : Nat) (s' : Sc3)
  | t (i : Nat) (s : Sc3) (j : Nat) (s' : Sc3) (k : Nat) (s'' : Sc3)
def sq3 : List Nat → Sc3 → Sc3
  | [], s => s
  | i :: l, s => .q i (sq3 l s)
def Sc3.len : Sc3 → Nat
  | .e => 0
  | .q _ s => s.len + 1
  | .f _ s => s.len + 1
  | .b _ s _ _ => s.len + 1
  | .t _ s _ _ _ _ => s.len + 1
def Sc3.even : Sc3 → Bool
  | .e => true
  | .q _ s => s.even
  | .f _ s => s.even
  | .b _ s _ s' => s.even && s'.even && s.len == s'.len
  | .t _ s _ s' _ s'' => s.even && s'.even && s''.even && s.len == s'.len && s.len == s''.len
def heldB3 (ops : Array Oper) : Sc3 → Array Bool → Bool
  | .e, listed => (Region.ready .any ops listed).isEmpty
  | .q i s, listed => (Region.ready .any ops listed).contains i && Region.free .any ops listed i && heldB3 ops s (listed.setIfInBounds i true)
  | .f i s, listed => Region.ready .any ops listed == [i] && heldB3 ops s (listed.setIfInBounds i true)
  | .b i s j s', listed => Region.ready .any ops listed == [i, j] && heldB3 ops s (listed.setIfInBounds i true) && heldB3 ops s' (listed.setIfInBounds j true)
  | .t i s j s' k s'', listed => Region.ready .any ops listed == [i, j, k] && heldB3 ops s (listed.setIfInBounds i true) && heldB3 ops s' (listed.setIfInBounds j true) && heldB3 ops s'' (listed.setIfInBounds k true)
def held3 (P : Program) (S : Nat → Prop) (H0 : Heap) (all : List Oper) (s : Sc3) : Fr → Heap → (Fr → Heap → Prop) → Prop :=
  Sc3.rec (motive := fun _ => Fr → Heap → (Fr → Heap → Prop) → Prop) (fun fr H K => K fr H)
    (fun i _ ih fr H K => match all[i]? with
      | none => False
      | some o => whenK all o fr (quietG P S o H fun fr' H' => ih fr' H' K) (skipG o H fun fr' H' => ih fr' H' K))
    (fun i _ ih fr H K => stepG P S [] H0 all i fr H fun fr' H' => ih fr' H' K)
    (fun i _ j _ ih ih' fr H K => (stepG P S [] H0 all i fr H fun fr' H' => ih fr' H' K) ∧ stepG P S [] H0 all j fr H fun fr' H' => ih' fr' H' K)
    (fun i _ j _ k _ ih ih' ih'' fr H K => (stepG P S [] H0 all i fr H fun fr' H' => ih fr' H' K) ∧ (stepG P S [] H0 all j fr H fun fr' H' => ih' fr' H' K) ∧ stepG P S [] H0 all k fr H fun fr' H' => ih'' fr' H' K) s
theorem held3_q (P : Program) (S : Nat → Prop) (H0 : Heap) (all : List Oper) (i : Nat) (s : Sc3) (fr : Fr) (H : Heap) (K : Fr → Heap → Prop) : held3 P S H0 all (.q i s) fr H K =
    (match all[i]? with
      | none => False
      | some o => whenK all o fr (quietG P S o H fun fr' H' => held3 P S H0 all s fr' H' K) (skipG o H fun fr' H' => held3 P S H0 all s fr' H' K)) := rfl
theorem held3_sound {P : Program} {S : Nat → Prop} {w0 : World} {all : List Oper} {Q : Exit → Act → World → Prop} (hs : Region.noSelect all.toArray = true)
    (hp : ∀ c a w, ¬ Q (.panic c) a w) : ∀ (l : Sc3) (listed : Array Bool) (fr : Fr) (a : Act) (w : World) (K : Fr → Heap → Prop), At fr a → Env w0 w → Cls w0 S w → Shut all.toArray listed →
    (∀ fr' a' w', At fr' a' → Env w0 w' → K fr' w'.heap → Q .normal a' w') → heldB3 all.toArray l listed = true → l.even = true →
    held3 P S w0.heap all l fr w.heap K → wpAnyZ P all.toArray Q (Cls w0 S) [] l.len listed a w
  | .e, listed, fr, a, w, K, hat, he, _, _, hq, hB, _, h => ⟨by simpa [heldB3] using hB, hq fr a w hat he h⟩
  | .q i s, listed, fr, a, w, K, hat, he, hc, hsh, hq, hB, hev, h => by
    simp only [heldB3, Bool.and_eq_true] at hB
    obtain ⟨⟨b1, b2⟩, hB2⟩ := hB
    rw [held3_q] at h
    split at h
    · exact h.elim
    · rename_i o ho
      have ho' : all.toArray[i]? = some o := by simpa using ho
      have hri : i ∈ Region.ready .any all.toArray listed := by simpa using b1
      rcases whenK_sound hat h with ⟨hwant, h⟩ | ⟨hwant, h⟩
      · unfold quietG at h
        split at h
        · obtain ⟨v, hv, hk⟩ := detK_sound h
          rw [putK_eq] at hk
          refine wpAnyZ_first (v := v) (f := all.toArray.size) ho' (Region.noSelect_spec hs) (fun c a' w' hh => (hp _ _ _ hh).elim) rfl (fun j hj => by cases hj) s.len listed a w hsh (Region.free_spec ho' b2) hri
            (.inl ⟨hwant, fun w' hw' => ?_⟩) hc ?_
          · rw [hat.evalF]
            exact hv w' fun k hk => (hw'.2 k hk).trans (hc.2 k hk).symm
          · exact held3_sound hs hp s _ _ _ w K (hat.put o.dst v) he hc (hsh.put hri) hq hB2 hev hk
        · exact h.elim
      · unfold skipG at h
        rw [putK_eq] at h
        exact wpAnyZ_first (v := undef) (f := all.toArray.size) ho' (Region.noSelect_spec hs) (fun c a' w' hh => (hp _ _ _ hh).elim) rfl (fun j hj => by cases hj) s.len listed a w hsh (Region.free_spec ho' b2) hri
          (.inr ⟨hwant, rfl⟩) hc (held3_sound hs hp s _ _ _ w K (hat.put o.dst undef) he hc (hsh.put hri) hq hB2 hev h)
  | .f i s, listed, fr, a, w, K, hat, he, hc, hsh, hq, hB, hev, h => by
    simp only [heldB3, Bool.and_eq_true, beq_iff_eq] at hB
    obtain ⟨b1, hB2⟩ := hB
    refine ⟨(fun h0 => by rw [b1] at h0; cases h0), fun j hj => ?_⟩
    have hj0 := hj
    rw [b1] at hj
    obtain rfl : j = i := by simpa using hj
    exact stepG_sound (Z := []) hat he (fun _ => hc) h fun fr' a' w' h1 h2 h3 h4 => ⟨h3, held3_sound hs hp s _ _ _ w' K h1 h2 (h3 rfl) (hsh.put hj0) hq hB2 hev h4⟩
  | .b i s j s', listed, fr, a, w, K, hat, he, hc, hsh, hq, hB, hev, h => by
    simp only [heldB3, Bool.and_eq_true, beq_iff_eq] at hB
    obtain ⟨⟨b1, hB2⟩, hB3⟩ := hB
    simp only [Sc3.even, Bool.and_eq_true, beq_iff_eq] at hev
    obtain ⟨⟨e1, e2⟩, e3⟩ := hev
    refine ⟨(fun h0 => by rw [b1] at h0; cases h0), fun k hk => ?_⟩
    have hk0 := hk
    rw [b1] at hk
    rcases List.mem_cons.1 hk with rfl | hk
    · exact stepG_sound (Z := []) hat he (fun _ => hc) h.1 fun fr' a' w' h1 h2 h3 h4 => ⟨h3, held3_sound hs hp s _ _ _ w' K h1 h2 (h3 rfl) (hsh.put hk0) hq hB2 e1 h4⟩
    · obtain rfl : k = j := by simpa using hk
      rw [e3]
      exact stepG_sound (Z := []) hat he (fun _ => hc) h.2 fun fr' a' w' h1 h2 h3 h4 => ⟨h3, held3_sound hs hp s' _ _ _ w' K h1 h2 (h3 rfl) (hsh.put hk0) hq hB3 e2 h4⟩
  | .t i s j s' m s'', listed, fr, a, w, K, hat, he, hc, hsh, hq, hB, hev, h => by
    simp only [heldB3, Bool.and_eq_true, beq_iff_eq] at hB
    obtain ⟨⟨⟨b1, hB2⟩, hB3⟩, hB4⟩ := hB
    simp only [Sc3.even, Bool.and_eq_true, beq_iff_eq] at hev
    obtain ⟨⟨⟨⟨e1, e2⟩, e3⟩, e4⟩, e5⟩ := hev
    refine ⟨(fun h0 => by rw [b1] at h0; cases h0), fun k hk => ?_⟩
    have hk0 := hk
    rw [b1] at hk
    rcases List.mem_cons.1 hk with rfl | hk
    · exact stepG_sound (Z := []) hat he (fun _ => hc) h.1 fun fr' a' w' h1 h2 h3 h4 => ⟨h3, held3_sound hs hp s _ _ _ w' K h1 h2 (h3 rfl) (hsh.put hk0) hq hB2 e1 h4⟩
    · rcases List.mem_cons.1 hk with rfl | hk
      · rw [e4]
        exact stepG_sound (Z := []) hat he (fun _ => hc) h.2.1 fun fr' a' w' h1 h2 h3 h4 => ⟨h3, held3_sound hs hp s' _ _ _ w' K h1 h2 (h3 rfl) (hsh.put hk0) hq hB3 e2 h4⟩
      · obtain rfl : k = m := by simpa using hk
        rw [e5]
        exact stepG_sound (Z := []) hat he (fun _ => hc) h.2.2 fun fr' a' w' h1 h2 h3 h4 => ⟨h3, held3_sound hs hp s'' _ _ _ w' K h1 h2 (h3 rfl) (hsh.put hk0) hq hB4 e3 h4⟩
theorem VDraw.held3 {P : Program} {l : List Oper} {fr : Fr} {H : Heap} {K : Fr → Heap → Prop} (S : Nat → Prop) (sched : Sc3) (hm : P.follows .mixedOrders = true)
    (hB : (Region.noSelect l.toArray && (sched.len == l.length) && sched.even && heldB3 l.toArray sched (Array.replicate l.length false)) = true)
    (h : VC.held3 P S H l sched fr H K) : VDraw P l fr H K := by
  refine ⟨?_⟩
  intro id Q a w hat hw hp hq
  subst hw
  simp only [Bool.and_eq_true, beq_iff_eq] at hB
  refine wp_region_any hm (wpAny_of_Z (S := Cls w S) (Z := []) _ _ _ _ ?_)
  have hsh : Shut l.toArray (Array.replicate l.length false) := fun j o _ hj => by
    rw [Array.getD_eq_getD_getElem?, Array.getElem?_replicate] at hj
    split at hj <;> simp at hj
  have := held3_sound (P := P) (S := S) (w0 := w) (Q := Q) hB.1.1.1 hp sched (Array.replicate l.length false) fr a { w with drawn := w.drawn + 1 } K hat ⟨rfl, rfl, rfl⟩ ⟨⟨rfl, rfl, rfl⟩, Agr.refl _ _⟩ hsh hq hB.2 hB.1.2 h
  rw [hB.1.1.2] at this
  simpa using this
end Go.VC
/- regex.scanner: what a step of the parser answers (plain); atom: the walk. -/
set_option linter.unusedVariables false
set_option linter.unusedSimpArgs false
set_option maxRecDepth 100000
namespace Go.VC
theorem StB.capT {α : Type} {T : Ty α} {S : Nat → Prop} {B : Nat → Prop} {H0 H : Heap} {ps : List Pc} {e : TypeId} {a : Option Addr} {n cap : Nat} {xs : List α} (st : StB B H0 H ps) (i : Nat) (hp : ps[i]? = some (pN T S e a n cap xs)) : xs.length ≤ cap := by
  obtain ⟨cs, ⟨h0, h1⟩, h2⟩ := (st.at_ i hp).1
  rcases h1 with ⟨h1, h3⟩ | ⟨b, cap', l, h1, h4, h5, h6, h7, h8, h9⟩
  · rw [h3]; exact Nat.zero_le _
  · cases h1; omega
theorem StB.popT {α : Type} {T : Ty α} {B : Nat → Prop} {H0 H : Heap} {ps : List Pc} {e : TypeId} {a : Option Addr} {n cap : Nat} {xs : List α} {x : α} (st : StB B H0 H ps) (i : Nat) (hp : ps[i]? = some (pS T e a n cap (xs ++ [x]))) : StB B H0 H (ps.set i (pS T e a xs.length cap xs)) := by
  have hown := (st.at_ i hp).1
  refine st.say i hp _ ⟨hown.pop, fun k hk => hk.elim⟩ fun k hk => ?_
  rcases hk with ⟨o, m, c, hk⟩ | hk
  · injection hk with e1 e2 e3
    subst e1
    exact .inl ⟨o, n, cap, rfl⟩
  · exact hk.elim
theorem Blk.ne {H : Heap} {b b' : Nat} {e e' : TypeId} {l l' : List Value} (h : Blk H b e l) (h' : Blk H b' e' l') (he : e ≠ e') : b ≠ b' := by
  rintro rfl
  have e1 := Option.some.inj (h.symm.trans h')
  injection e1 with _ e2 _
  exact he e2
end Go.VC
namespace Go.Proofs.YtlnmhfhdjnenoaaGreatDoor
open Go.VC Go.Lib
/-! ### steps of the machine -/
section
variable {t : ByteArray} {i : Nat} {f : AF} {fs : List AF}
theorem pstep_open (h : bt t i = 40) (hl : fs.length < 1000) : pstep t ⟨i, f, fs⟩ = .inr ⟨i + 1, openF i, settleF f :: fs⟩ := by
  unfold pstep; simp only [h]; rw [if_neg (by decide), if_neg (by decide), if_neg (by decide), if_neg (by decide), if_pos trivial, if_neg (by omega)]
theorem pstep_deep (h : bt t i = 40) (hl : 1000 ≤ fs.length) : pstep t ⟨i, f, fs⟩ = .inl (23, i) := by
  unfold pstep; simp only [h]; rw [if_neg (by decide), if_neg (by decide), if_neg (by decide), if_neg (by decide), if_pos trivial, if_pos hl]
theorem pstep_close {g : AF} (h : bt t i = 41) : pstep t ⟨i, f, g :: fs⟩ = .inr ⟨i + 1, { g with factor := (closeF f).alt }, fs⟩ := by
  unfold pstep; simp only [h]; rw [if_neg (by decide), if_neg (by decide), if_neg (by decide), if_pos trivial]
theorem pstep_close0 (h : bt t i = 41) : pstep t ⟨i, f, []⟩ = .inl (20, i) := by
  unfold pstep; simp only [h]; rw [if_neg (by decide), if_neg (by decide), if_neg (by decide), if_pos trivial]
theorem pstep_bar (h : bt t i = 124) : pstep t ⟨i, f, fs⟩ = .inr ⟨i + 1, closeF f, fs⟩ := by
  unfold pstep; simp only [h]; rw [if_neg (by decide), if_pos trivial]
theorem pstep_sign (h : bt t i = 38 ∨ bt t i = 45) : pstep t ⟨i, f, fs⟩ = .inr ⟨i + 1, { foldF f with sign := bt t i }, fs⟩ := by
  unfold pstep
  rcases h with h | h <;> (simp only [h]; rw [if_neg (by decide), if_neg (by decide), if_pos (by decide)])
theorem pstep_post0 (h : postB (bt t i) = true) (hf : f.factor = none) : pstep t ⟨i, f, fs⟩ = .inl (20, i) := by
  unfold pstep; simp only [hf]; rw [if_pos h]
/-- A byte with which an atom may begin. -/
def firstB (c : Nat) : Prop := c ≠ 124 ∧ c ≠ 38 ∧ c ≠ 45 ∧ c ≠ 41 ∧ postB c = false
theorem pstep_cls (h : firstB (bt t i)) (h40 : bt t i ≠ 40) {x : BitVec 256} {k : Nat} (hr : readSet t i = .inr (x, k)) : pstep t ⟨i, f, fs⟩ = .inr ⟨k, { settleF f with factor := some (.cls x) }, fs⟩ := by
  unfold pstep; simp only [hr]; rw [if_neg (by rw [h.2.2.2.2]; decide), if_neg h.1, if_neg (by rintro (e | e); exact h.2.1 e; exact h.2.2.1 e), if_neg h.2.2.2.1, if_neg h40]
theorem pstep_clsE (h : firstB (bt t i)) (h40 : bt t i ≠ 40) {e : Nat} (hr : readSet t i = .inl e) : pstep t ⟨i, f, fs⟩ = .inl (10, e) := by
  unfold pstep; simp only [hr]; rw [if_neg (by rw [h.2.2.2.2]; decide), if_neg h.1, if_neg (by rintro (e | e); exact h.2.1 e; exact h.2.2.1 e), if_neg h.2.2.2.1, if_neg h40]
theorem escM_no {e : Nat} (h : escM t i = .inl e) : e ≤ i + 2 := by
  unfold escM at h
  split at h
  · cases h; omega
  · split at h
    · cases h
    · split at h
      · cases h
      · split at h
        · cases h
        · split at h
          · split at h
            · cases h; omega
            · split at h
              · cases h; omega
              · cases h
          · split at h
            · cases h; omega
            · cases h
theorem oneM_no {u : ByteArray} {e : Nat} (h : oneM t u i = .inl e) : e ≤ i + 3 := by
  unfold oneM at h
  split at h
  · have := escM_no h; omega
  · split at h
    · cases h; omega
    · cases h
theorem memM_no : ∀ {n i e : Nat} {x : BitVec 256}, memM t n i x = .inl e → i ≤ t.size + 2 → e ≤ t.size + 6
  | 0, i, e, x, h, hi => by cases h; omega
  | n + 1, i, e, x, h, hi => by
    unfold memM at h
    split at h
    · cases h
    · split at h
      · rename_i e1 h1
        cases h
        have := oneM_no h1; omega
      · rename_i lo j h1
        have := oneM_ok h1
        unfold dashM at h
        split at h
        · split at h
          · rename_i e2 h2
            cases h
            have := oneM_no h2; omega
          · rename_i hi2 k2 h2
            have := oneM_ok h2
            split at h
            · cases h; omega
            · exact memM_no h (by omega)
        · exact memM_no h (by omega)
theorem readSet_no {e : Nat} (h : readSet t i = .inl e) (hi : i < t.size) : e ≤ t.size + 6 := by
  unfold readSet at h
  split at h
  · cases h
  · split at h
    · unfold bracM at h
      split at h
      · rename_i e1 h1
        cases h
        exact memM_no h1 (by split <;> omega)
      · cases h
    · split at h
      · rename_i e1 h1
        cases h
        have := oneM_no h1; omega
      · cases h
end
/-! ### contracts -/
abbrev tPl : Ty Int := tInt .i64
/-- The scanner, the places of the open brackets, other pieces. -/
abbrev sP (s : Nat) (t : ByteArray) (i : Nat) (a : Option Addr) (n cap : Nat) (os : List Int) (ps : List Pc) : List Pc := pSc s t i (.slice a n cap) :: pS tPl 3 a n cap os :: ps
/-- The scanner and the places of the open brackets in memory. -/
structure Sc (B : Nat → Prop) (H : Heap) (s : Nat) (t : ByteArray) (i : Nat) (os : List Int) (ps : List Pc) : Prop where
  ex : ∃ a n cap, StB B H H (sP s t i a n cap os ps)
structure SR (B : Nat → Prop) (H : Heap) (s : Nat) (t : ByteArray) (j : Nat) (os : List Int) (ps : List Pc) (r : ReM) (v : Value) (H' : Heap) : Prop where
  ex : ∃ (B' : Nat → Prop) (fn : Value), v = .agg (ruleL r fn).toArray ∧ (∀ k, B k → B' k) ∧ Agr B H H' ∧ Sc B' H' s t j os ps ∧ GrowV B' H' fn r
structure SE (B : Nat → Prop) (H : Heap) (t : ByteArray) (st : RdS) (x : Value) (H' : Heap) : Prop where
  ex : ∃ c p : Nat, prun t st = .inl (c, (p : Int)) ∧ x = faultV c p ∧ Agr B H H'
theorem SE.from {B B' : Nat → Prop} {H H1 H' : Heap} {t : ByteArray} {st st' : RdS} {x : Value} (h : SE B' H1 t st' x H') (hp : prun t st = prun t st') (ha : Agr B H H1) (hs : ∀ k, B k → B' k) : SE B H t st x H' := by
  obtain ⟨c, p, h1, h2, h3⟩ := h
  exact ⟨c, p, hp.trans h1, h2, ha.trans fun k hk => h3 k (hs k hk)⟩
/-- The alternatives from i on: what their walk is to show. -/
def AltSpec (t : ByteArray) (i : Nat) : Prop := ∀ (B : Nat → Prop) (H : Heap) (s : Nat) (os : List Int) (ps : List Pc) (f : AF) (fs : List AF), EscH H → B 0 → i ≤ t.size → os.length = fs.length → fs.length ≤ 1000 →
  f.alt = none → f.meet = none → f.row = none → f.factor = none → Sc B H s t i os ps →
  FnOkP Tryz.prog 25 #[.pointer (some ⟨s, 0, none⟩)] H
    (fun v H' => ∃ j f' r, i ≤ j ∧ j ≤ t.size ∧ (j = t.size ∨ bt t j = 41) ∧ prun t ⟨i, f, fs⟩ = prun t ⟨j, f', fs⟩ ∧ (closeF f').alt = some r ∧ f'.place = f.place ∧ SR B H s t j os ps r v H')
    (fun x H' => SE B H t ⟨i, f, fs⟩ x H')
/-! ### faults compared -/
theorem int_wf9 {x : Int} (h : inK .i64 x) : (Lit.int .i64 x).wf = true := by
  unfold Lit.wf
  simp only [Bool.and_eq_true, decide_eq_true_eq]
  exact h
def ftLits (c e : Nat) : List Lit := [.int .i64 (c : Int), .int .i64 (e : Int), .string []]
theorem ft_lits {c e : Nat} (hc : c < 9223372036854775808) (he : e < 9223372036854775808) : Tryz.prog.keyLits 3 27 (faultL c e) = some (ftLits c e) := by
  have c0 : Tryz.prog.cellsOf 27 = 3 := by kernel_rfl
  have c1 : Tryz.prog.cellsOf 25 = 1 := by kernel_rfl
  have c2 : Tryz.prog.cellsOf 3 = 1 := by kernel_rfl
  have c3 : Tryz.prog.cellsOf 9 = 1 := by kernel_rfl
  have h0 : (0 : Nat) ≤ maxLen := Nat.zero_le _
  have h00 : (⟨#[]⟩ : ByteArray).size ≤ maxLen := Nat.zero_le _
  simp [Program.keyLits, Tryz.underlying27, Tryz.underlying25, Tryz.underlying3, Tryz.underlying9, c0, c1, c2, c3, faultL, ftLits, h00, int_wf9 (inI64 hc), int_wf9 (inI64 he)]
theorem ftLits_inj {c e c' e' : Nat} : decide (c = c' ∧ e = e') = true ↔ ftLits c e = ftLits c' e' := by
  unfold ftLits
  rw [decide_eq_true_eq]
  constructor
  · rintro ⟨rfl, rfl⟩; rfl
  · intro h
    simp only [List.cons.injEq, Lit.int.injEq, true_and, and_true] at h
    exact ⟨by omega, by omega⟩
theorem ft_neq {c e c' e' : Nat} (hc : c < 9223372036854775808) (he : e < 9223372036854775808) (hc' : c' < 9223372036854775808) (he' : e' < 9223372036854775808) {x y : Operand} {S : Nat → Prop} {H : Heap} {K : Value → Prop} (k : K (.bool (!decide (c = c' ∧ e = e')))) :
    VDet Tryz.prog (do eqGuard .neq 27 x y (.agg (faultL c e).toArray) (.agg (faultL c' e').toArray); binOp .neq 27 (.agg (faultL c e).toArray) (.agg (faultL c' e').toArray)) S H K :=
  vneq (m := 3) (la := ftLits c e) (lb := ftLits c' e') (by kernel_rfl) (by decide) (Tryz.eqGuardType27) rfl rfl (ft_lits hc he) (ft_lits hc' he') ftLits_inj k
set_option maxHeartbeats 16000000 in
theorem atom_c {B : Nat → Prop} {H : Heap} {s i : Nat} {t : ByteArray} {os : List Int} {ps : List Pc} {f : AF} {fs : List AF} (hE : EscH H) (hEB : B 0) (ht : t.size ≤ 1048576) (hi : i < t.size) (hos : os.length = fs.length) (hfs : fs.length ≤ 1000)
    (hfb : firstB (bt t i)) (IH : ∀ i', i < i' → AltSpec t i') (sc : Sc B H s t i os ps) :
    FnOkP Tryz.prog 100 #[.pointer (some ⟨s, 0, none⟩)] H
      (fun v H' => ∃ j r, i < j ∧ j ≤ t.size ∧ prun t ⟨i, f, fs⟩ = prun t ⟨j, { settleF f with factor := some r }, fs⟩ ∧ SR B H s t j os ps r v H')
      (fun x H' => SE B H t ⟨i, f, fs⟩ x H') := by
  obtain ⟨a, n, cap, st⟩ := sc
  refine FnOkP.of_vc Tryz.func100 rfl (Tryz.call100 _) ?_
  (conv => whnf); refine valloc (.agg rule0.toArray) rule0 rule_z rfl ?_
  intro q2 H1 hq1 hs1 hb1 ha1
  have st1 := st.box hq1 hs1 hb1 ha1
  (conv => whnf); refine VCallP.of (pures (scnext_p (st1.blk 0 rfl) hi) fun H2 ha2 => ?_)
  have st2 := st1.call ha2
  by_cases h40 : bt t i = 40
  · have d1 : (((bt t i : Nat) : Int) != 40) = false := by rw [h40]; rfl
    (conv => whnf); rw [d1]
    obtain rfl : n = os.length := st2.len 1 rfl
    replace st2 : StB B H H2 (sP s t i a os.length cap os ps ++ [pB 77 q2 rule0]) := st2
    (conv => whnf); refine VSeqP.run ?_
    (conv => whnf); refine VC.fa fl74_2 ?_
    (conv => whnf); refine ld1 (v := .slice a os.length cap) ct54 (by rw [(st2.blk 0 rfl).cell]; rfl) trivial ?_
    by_cases hd : 1000 ≤ fs.length
    · have d2 : decide (1000 ≤ (os.length : Int)) = true := decide_eq_true (by omega)
      (conv => whnf); rw [d2]
      (conv => whnf); refine VC.fa fl74_1 ?_
      (conv => whnf); refine ld1 (v := .int .i64 ((i : Nat) : Int)) ct3 (by rw [(st2.blk 0 rfl).cell]; rfl) trivial ?_
      (conv => whnf); refine VCallP.mk (sfail_p (c := 23) (e := i)) (fun _ _ h => h.elim) ?_
      rintro _ _ ⟨rfl, rfl⟩
      exact ⟨23, i, prun_err hi (pstep_deep h40 hd), rfl, st2.old⟩
    · have d2 : decide (1000 ≤ (os.length : Int)) = false := decide_eq_false (by omega)
      (conv => whnf); rw [d2]
      (conv => whnf); refine VDrawP.of (VDraw.heldZ (fun k => k = s) [13] (sq [0,1,2,3,4,5,6,7,8] (.f 9 (.f 10 (sq [11,12] (.f 13 .e))))) rfl (by kernel_rfl) ?_)
      (conv => whnf); refine VC.fa fl74_2 ?_
      (conv => whnf); refine ld1 (v := .slice a os.length cap) ct54 (by rw [(st2.blk 0 rfl).cell]; rfl) rfl ?_
      (conv => whnf); refine VC.fa fl74_1 ?_
      (conv => whnf); refine ld1 (v := .int .i64 (i : Int)) ct3 (by rw [(st2.blk 0 rfl).cell]; rfl) rfl ?_
      (conv => whnf); refine vbuild1 sl54 [.int .i64 (i : Int)] rfl rfl (by decide) (by decide) ?_
      intro q3 H3 hq3 hs3 hb3 ha3
      have st3 := st2.skip hq3 ha3
      refine ⟨fun k hk => by rw [show k = s from hk]; exact (st3.blk 0 rfl).trans (st2.blk 0 rfl).symm, ?_⟩
      (conv => whnf); refine app1 (x := (i : Int)) st3 1 sl54 rfl hb3 ⟨rfl, inI64 (by omega)⟩ rfl (by omega) (by decide) fun a4 cap4 H4 st4 ha4 => ?_
      refine ⟨fun k hk => by rw [show k = s from hk]; exact (st4.blk 0 rfl).trans (st2.blk 0 rfl).symm, ?_⟩
      (conv => whnf); refine VC.fa fl74_2 ?_
      (conv => whnf); refine st1B st4 0 ct54 rfl (by simp) rfl fun H5 st5 => ?_
      replace st5 : StB B H H5 (sP s t i a4 (os.length + 1) cap4 (os ++ [(i : Int)]) ps ++ [pB 77 q2 rule0]) := st5
      (conv => whnf); refine VC.fa fl74_1 ?_
      (conv => whnf); refine ld1 (v := .int .i64 ((i : Nat) : Int)) ct3 (by rw [(st5.blk 0 rfl).cell]; rfl) trivial ?_
      (conv => whnf); rw [w64 (x := ((i : Nat) : Int) + 1) (by omega) (by omega)]
      (conv => whnf); refine VC.fa fl74_1 ?_
      (conv => whnf); refine st1B st5 0 ct3 rfl (by simp) rfl fun H6 st6 => ?_
      replace st6 : StB B H H6 (sP s t (i + 1) a4 (os.length + 1) cap4 (os ++ [(i : Int)]) ps ++ [pB 77 q2 rule0]) := st6
      have hpo : prun t ⟨i, f, fs⟩ = prun t ⟨i + 1, openF i, settleF f :: fs⟩ := prun_step hi (pstep_open h40 (by omega))
      (conv => whnf); refine VCallP.mk (IH (i + 1) (by omega) B H6 s (os ++ [(i : Int)]) (ps ++ [pB 77 q2 rule0]) (openF i) (settleF f :: fs) (esc_at hE hEB st6) hEB (by omega) (by simp; omega) (by simp; omega) rfl rfl rfl rfl ⟨a4, _, cap4, st6.rebase⟩) ?_ ?_
      rotate_left
      · intro x H7 h
        exact h.from hpo st6.old fun k hk => hk
      rintro _ H7 ⟨j, f', r, hij, hj, hend, hpr, hcl, hpl, ⟨B1, f1, rfl, s1, a7, ⟨a2, n2, cap2, st7⟩, gv⟩⟩
      obtain ⟨g1, c1, rfl⟩ := gv.fn
      have hn2 : n2 = os.length + 1 := by have := st7.len 1 rfl; rw [this]; simp
      subst hn2
      replace st7 : StB B1 H7 H7 (sP s t j a2 (os.length + 1) cap2 (os ++ [(i : Int)]) ps ++ [pB 77 q2 rule0]) := st7
      have a07 : Agr B H H7 := st6.old.trans a7
      (conv => whnf); refine valloc (.agg rule0.toArray) rule0 rule_z rfl ?_
      intro q6 H8 hq8 hs8 hb8 ha8
      have st8 := st7.box hq8 hs8 hb8 ha8
      rw [List.append_assoc] at st8
      (conv => whnf); refine stNBa (cs := ruleL r (.func (.func g1) #[] c1)) st8 _ rfl (lgR _ _ 1) (by simp [ruleL, rule0]) rfl fun H9 st9 ja9 js9 => ?_
      rw [lsR, spl2 rfl] at st9
      replace st9 : StB B1 H7 H9 (sP s t j a2 (os.length + 1) cap2 (os ++ [(i : Int)]) ps ++ [pB 77 q2 rule0, pB 77 q6 (ruleL r (.func (.func g1) #[] c1))]) := st9
      (conv => whnf); refine VSeqP.run ?_
      (conv => whnf); refine VCallP.of (pures (ended_p (st9.blk 0 rfl)) fun H10 ha10 => ?_)
      have st10 := st9.call ha10
      have a10 : Agr B H H10 := a07.trans fun k hk => st10.old k (s1 k hk)
      by_cases hjt : j < t.size
      · rw [decide_eq_false (show ¬ t.size ≤ j by omega)]
        have h41 : bt t j = 41 := by rcases hend with h | h; omega; exact h
        (conv => whnf)
        (conv => whnf); refine VC.fa fl74_1 ?_
        (conv => whnf); refine ld1 (v := .int .i64 ((j : Nat) : Int)) ct3 (by rw [(st10.blk 0 rfl).cell]; rfl) trivial ?_
        (conv => whnf); rw [w64 (x := ((j : Nat) : Int) + 1) (by omega) (by omega)]
        (conv => whnf); refine VC.fa fl74_1 ?_
        (conv => whnf); refine st1B st10 0 ct3 rfl (by simp) rfl fun H11 st11 => ?_
        replace st11 : StB B1 H7 H11 (sP s t (j + 1) a2 (os.length + 1) cap2 (os ++ [(i : Int)]) ps ++ [pB 77 q2 rule0, pB 77 q6 (ruleL r (.func (.func g1) #[] c1))]) := st11
        have hcap := st11.capT 1 rfl
        rw [List.length_append, List.length_singleton] at hcap
        (conv => whnf); refine VDrawP.of (VDraw.heldZ (fun k => k = s) [14] (sq [0,1,2,3,4,5,6,7,8,9,10,11,12,13] (.f 14 .e)) rfl (by kernel_rfl) ?_)
        (conv => whnf); refine VC.fa fl74_2 ?_
        (conv => whnf); refine ld1 (v := .slice a2 (os.length + 1) cap2) ct54 (by rw [(st11.blk 0 rfl).cell]; rfl) rfl ?_
        (conv => whnf); refine VC.fa fl74_2 ?_
        (conv => whnf); refine ld1 (v := .slice a2 (os.length + 1) cap2) ct54 (by rw [(st11.blk 0 rfl).cell]; rfl) rfl ?_
        (conv => whnf); rw [w64 (x := ((os.length + 1 : Nat) : Int) - 1) (by omega) (by omega)]
        rw [show ((os.length + 1 : Nat) : Int) - 1 = (os.length : Int) by omega]
        (conv => whnf); refine vcutH sl54 (by omega) (by omega) ?_
        (conv => whnf); refine VC.fa fl74_2 ?_
        have st12 := st11.popT 1 rfl
        (conv => whnf); refine st1B st12 0 ct54 rfl (by simp) rfl fun H13 st13 => ?_
        rw [Int.toNat_natCast] at st13
        replace st13 : StB B1 H7 H13 (sP s t (j + 1) a2 os.length cap2 os ps ++ [pB 77 q2 rule0, pB 77 q6 (ruleL r (.func (.func g1) #[] c1))]) := st13
        (conv => whnf); refine ldN (cs := ruleL r (.func (.func g1) #[] c1)) ag77 (ld_rule (st13.blk _ (lgR _ _ 1))) trivial ?_
        (conv => whnf); refine stNBa (cs := ruleL r (.func (.func g1) #[] c1)) st13 _ rfl (lgR _ _ 0) (by simp [ruleL, rule0]) rfl fun H14 st14 ja14 js14 => ?_
        rw [lsR, spl2 rfl] at st14
        (conv => whnf); refine ldN (cs := ruleL r (.func (.func g1) #[] c1)) ag77 (ld_rule (st14.blk _ (lgR _ _ 0))) trivial ?_
        refine ⟨j + 1, r, by omega, by omega, ?_, B1, _, rfl, s1, a07.trans fun k hk => st14.old k (s1 k hk), ⟨a2, _, cap2, st14.lft.rebase⟩, gv.frame st14.old fun k hk => hk⟩
        rw [hpo, hpr, prun_step (s := ⟨j, f', settleF f :: fs⟩) hjt (pstep_close h41), hcl]
      · rw [decide_eq_true (show t.size ≤ j by omega)]
        (conv => whnf); refine VDrawP.held (Old H10) [] (sq [0,1,2,3,4,5,6,7,8,9,10,11,12] (.f 13 .e)) (blind_all _ _) rfl (by kernel_rfl) ?_
        (conv => whnf); refine VC.fa fl74_2 ?_
        (conv => whnf); refine ld1 (v := .slice a2 (os.length + 1) cap2) ct54 (by rw [(st10.blk 0 rfl).cell]; rfl) (st10.blk 0 rfl).lt ?_
        (conv => whnf); refine VC.fa fl74_2 ?_
        (conv => whnf); refine ld1 (v := .slice a2 (os.length + 1) cap2) ct54 (by rw [(st10.blk 0 rfl).cell]; rfl) (st10.blk 0 rfl).lt ?_
        (conv => whnf); rw [w64 (x := ((os.length + 1 : Nat) : Int) - 1) (by omega) (by omega)]
        rw [show ((os.length + 1 : Nat) : Int) - 1 = (os.length : Int) by omega]
        (conv => whnf); refine ixO (j := os.length) (x := (i : Int)) sl54 st10 1 rfl (by simp) rfl fun b5 o5 cs5 hO5 hc5 hr5 => ?_
        obtain ⟨rfl, -⟩ := hr5
        (conv => whnf); refine ld1 (v := .int .i64 (i : Int)) ct3 hc5.one hO5 ?_
        (conv => whnf); refine VCallP.mk (sfail_p (c := 21) (e := i)) (fun _ _ h => h.elim) ?_
        rintro _ _ ⟨rfl, rfl⟩
        refine ⟨21, i, ?_, rfl, a10⟩
        rw [hpo, hpr, prun_end (s := ⟨j, f', settleF f :: fs⟩) hjt]
        show Sum.inl (21, f'.place) = _
        rw [hpl]; rfl
  · have d1 : (((bt t i : Nat) : Int) != 40) = true := bne_iff_ne.2 (by omega)
    (conv => whnf); rw [d1]
    obtain ⟨X, j, c0, e0, hX, hc0, he0, hj⟩ : ∃ (X : BitVec 256) (j c0 e0 : Nat), (∀ v, RdAns t i v → v = .tuple #[setV X, .int .i64 (j : Int), faultA c0 e0]) ∧ c0 ≤ 10 ∧ e0 ≤ t.size + 10 ∧ (readSet t i = .inl e0 ∧ c0 = 10 ∨ readSet t i = .inr (X, j) ∧ c0 = 0 ∧ e0 = 0) := by
      cases hr : readSet t i with
      | inl e => exact ⟨0, 0, 10, e, fun v hv => by unfold RdAns at hv; rw [hr] at hv; exact hv, by omega, by have := readSet_no hr hi; omega, .inl ⟨rfl, rfl⟩⟩
      | inr y => exact ⟨y.1, y.2, 0, 0, fun v hv => by unfold RdAns at hv; rw [hr] at hv; exact hv, by omega, by omega, .inr ⟨rfl, rfl, rfl⟩⟩
    have sx0 : StB B H H2 (sP s t i a n cap os ps ++ [pB 77 q2 rule0]) := st2
    (conv => whnf); refine VDrawP.of ?_
    refine VDraw.cut [3, 4, 5] (fun x : Nat × Nat => match x with | (q3, q5) => [.pointer (some ⟨q3, 0, none⟩), .int .i64 (j : Int), .pointer (some ⟨q5, 0, none⟩)]) (fun x G => match x with | (q3, q5) => StB B H G (sP s t i a n cap os ps ++ [pB 77 q2 rule0]) ∧ Blk G q3 102 (setL X) ∧ Blk G q5 27 (faultL c0 e0)) ?_ ?_
    · refine VDraw.held3 (fun k => k = s) (sq3 [0,1,2,3,4,5,6,7] (.t 8 (sq3 [9,10,11,12] (.b 13 (.f 14 (.f 15 (.q 16 (.f 17 .e)))) 14 (.f 13 (.f 15 (.q 16 (.f 17 .e)))))) 13 (.b 8 (sq3 [9,10,11,12] (.f 14 (.f 15 (.q 16 (.f 17 .e))))) 14 (.f 8 (sq3 [9,10,11,12] (.f 15 (.q 16 (.f 17 .e)))))) 14 (.b 8 (sq3 [9,10,11,12] (.f 13 (.f 15 (.q 16 (.f 17 .e))))) 13 (.f 8 (sq3 [9,10,11,12] (.f 15 (.q 16 (.f 17 .e)))))))) rfl (by kernel_rfl) ?_
      (conv => whnf); refine VC.fa fl74_0 ?_
      (conv => whnf); refine ld1 (v := .string t) ct9 (by rw [(st2.blk 0 rfl).cell]; rfl) rfl ?_
      (conv => whnf); refine VC.fa fl74_1 ?_
      (conv => whnf); refine ld1 (v := .int .i64 (i : Int)) ct3 (by rw [(st2.blk 0 rfl).cell]; rfl) rfl ?_
      (conv => whnf)
      refine ⟨?_, ?_, ?_⟩
      · refine VCall.mk (classRead_c (esc_at hE hEB sx0) (by omega) hi) ?_
        rintro _ J1 ⟨ag0, hR⟩
        obtain rfl := hX _ hR
        have sx1 := sx0.call ag0
        refine ⟨fun k hk => by rw [show k = s from hk]; exact (sx1.blk 0 rfl).trans (st2.blk 0 rfl).symm, ?_⟩
        (conv => whnf)
        refine ⟨?_, ?_⟩
        · refine valloc (setV 0) (setL 0) rfl rfl ?_
          intro q3 J2 gq1 gs1 gb1 ga1
          have sx2 := sx1.box gq1 gs1 gb1 ga1
          rw [List.append_assoc] at sx2
          replace sx2 : StB B H J2 (sP s t i a n cap os ps ++ [pB 77 q2 rule0, pB 102 q3 (setL 0)]) := sx2
          refine ⟨fun k hk => by rw [show k = s from hk]; exact (sx2.blk 0 rfl).trans (st2.blk 0 rfl).symm, ?_⟩
          (conv => whnf)
          refine valloc (faultA 0 0) (faultL 0 0) rfl rfl ?_
          intro q5 J3 gq2 gs2 gb2 ga2
          have sx3 := sx2.box gq2 gs2 gb2 ga2
          rw [List.append_assoc] at sx3
          replace sx3 : StB B H J3 (sP s t i a n cap os ps ++ [pB 77 q2 rule0, pB 102 q3 (setL 0), pB 27 q5 (faultL 0 0)]) := sx3
          refine ⟨fun k hk => by rw [show k = s from hk]; exact (sx3.blk 0 rfl).trans (st2.blk 0 rfl).symm, ?_⟩
          (conv => whnf)
          refine stNB (cs := setL X) sx3 _ rfl (lgR _ _ 1) (Nat.le_refl _) rfl fun J4 sx4 => ?_
          rw [lsR] at sx4
          have e4 : splice (setL 0) 0 (setL X) = setL X := splAll rfl
          replace sx4 : StB B H J4 (sP s t i a n cap os ps ++ [pB 77 q2 rule0, pB 102 q3 (splice (setL 0) 0 (setL X)), pB 27 q5 (faultL 0 0)]) := sx4
          rw [e4] at sx4
          refine ⟨fun k hk => by rw [show k = s from hk]; exact (sx4.blk 0 rfl).trans (st2.blk 0 rfl).symm, ?_⟩
          (conv => whnf); refine stNB (cs := faultL c0 e0) sx4 _ rfl (lgR _ _ 2) (Nat.le_refl _) rfl fun J5 sx5 => ?_
          rw [lsR] at sx5
          have e5 : splice (faultL 0 0) 0 (faultL c0 e0) = faultL c0 e0 := splAll rfl
          replace sx5 : StB B H J5 (sP s t i a n cap os ps ++ [pB 77 q2 rule0, pB 102 q3 (setL X), pB 27 q5 (splice (faultL 0 0) 0 (faultL c0 e0))]) := sx5
          rw [e5] at sx5
          refine ⟨fun k hk => by rw [show k = s from hk]; exact (sx5.blk 0 rfl).trans (st2.blk 0 rfl).symm, ?_⟩
          (conv => whnf)
          exact ⟨rfl, (q3, q5), rfl, sx5.subl ((List.append_sublist_append_left _).2 (List.Sublist.cons_cons _ (List.nil_sublist _))), sx5.blk _ (lgR _ _ 1), sx5.blk _ (lgR _ _ 2)⟩
        · refine valloc (faultA 0 0) (faultL 0 0) rfl rfl ?_
          intro q5 J2 gq1 gs1 gb1 ga1
          have sx2 := sx1.box gq1 gs1 gb1 ga1
          rw [List.append_assoc] at sx2
          replace sx2 : StB B H J2 (sP s t i a n cap os ps ++ [pB 77 q2 rule0, pB 27 q5 (faultL 0 0)]) := sx2
          refine ⟨fun k hk => by rw [show k = s from hk]; exact (sx2.blk 0 rfl).trans (st2.blk 0 rfl).symm, ?_⟩
          (conv => whnf)
          refine valloc (setV 0) (setL 0) rfl rfl ?_
          intro q3 J3 gq2 gs2 gb2 ga2
          have sx3 := sx2.box gq2 gs2 gb2 ga2
          rw [List.append_assoc] at sx3
          replace sx3 : StB B H J3 (sP s t i a n cap os ps ++ [pB 77 q2 rule0, pB 27 q5 (faultL 0 0), pB 102 q3 (setL 0)]) := sx3
          refine ⟨fun k hk => by rw [show k = s from hk]; exact (sx3.blk 0 rfl).trans (st2.blk 0 rfl).symm, ?_⟩
          (conv => whnf)
          refine stNB (cs := setL X) sx3 _ rfl (lgR _ _ 2) (Nat.le_refl _) rfl fun J4 sx4 => ?_
          rw [lsR] at sx4
          have e4 : splice (setL 0) 0 (setL X) = setL X := splAll rfl
          replace sx4 : StB B H J4 (sP s t i a n cap os ps ++ [pB 77 q2 rule0, pB 27 q5 (faultL 0 0), pB 102 q3 (splice (setL 0) 0 (setL X))]) := sx4
          rw [e4] at sx4
          refine ⟨fun k hk => by rw [show k = s from hk]; exact (sx4.blk 0 rfl).trans (st2.blk 0 rfl).symm, ?_⟩
          (conv => whnf); refine stNB (cs := faultL c0 e0) sx4 _ rfl (lgR _ _ 1) (Nat.le_refl _) rfl fun J5 sx5 => ?_
          rw [lsR] at sx5
          have e5 : splice (faultL 0 0) 0 (faultL c0 e0) = faultL c0 e0 := splAll rfl
          replace sx5 : StB B H J5 (sP s t i a n cap os ps ++ [pB 77 q2 rule0, pB 27 q5 (splice (faultL 0 0) 0 (faultL c0 e0)), pB 102 q3 (setL X)]) := sx5
          rw [e5] at sx5
          refine ⟨fun k hk => by rw [show k = s from hk]; exact (sx5.blk 0 rfl).trans (st2.blk 0 rfl).symm, ?_⟩
          (conv => whnf)
          exact ⟨rfl, (q3, q5), rfl, sx5.subl ((List.append_sublist_append_left _).2 (List.Sublist.cons_cons _ (List.nil_sublist _))), sx5.blk _ (lgR _ _ 2), sx5.blk _ (lgR _ _ 1)⟩
      · refine valloc (setV 0) (setL 0) rfl rfl ?_
        intro q3 J1 gq0 gs0 gb0 ga0
        have sx1 := sx0.box gq0 gs0 gb0 ga0
        rw [List.append_assoc] at sx1
        replace sx1 : StB B H J1 (sP s t i a n cap os ps ++ [pB 77 q2 rule0, pB 102 q3 (setL 0)]) := sx1
        refine ⟨fun k hk => by rw [show k = s from hk]; exact (sx1.blk 0 rfl).trans (st2.blk 0 rfl).symm, ?_⟩
        (conv => whnf)
        refine ⟨?_, ?_⟩
        · refine VCall.mk (classRead_c (esc_at hE hEB sx1) (by omega) hi) ?_
          rintro _ J2 ⟨ag1, hR⟩
          obtain rfl := hX _ hR
          have sx2 := sx1.call ag1
          refine ⟨fun k hk => by rw [show k = s from hk]; exact (sx2.blk 0 rfl).trans (st2.blk 0 rfl).symm, ?_⟩
          (conv => whnf)
          refine valloc (faultA 0 0) (faultL 0 0) rfl rfl ?_
          intro q5 J3 gq2 gs2 gb2 ga2
          have sx3 := sx2.box gq2 gs2 gb2 ga2
          rw [List.append_assoc] at sx3
          replace sx3 : StB B H J3 (sP s t i a n cap os ps ++ [pB 77 q2 rule0, pB 102 q3 (setL 0), pB 27 q5 (faultL 0 0)]) := sx3
          refine ⟨fun k hk => by rw [show k = s from hk]; exact (sx3.blk 0 rfl).trans (st2.blk 0 rfl).symm, ?_⟩
          (conv => whnf)
          refine stNB (cs := setL X) sx3 _ rfl (lgR _ _ 1) (Nat.le_refl _) rfl fun J4 sx4 => ?_
          rw [lsR] at sx4
          have e4 : splice (setL 0) 0 (setL X) = setL X := splAll rfl
          replace sx4 : StB B H J4 (sP s t i a n cap os ps ++ [pB 77 q2 rule0, pB 102 q3 (splice (setL 0) 0 (setL X)), pB 27 q5 (faultL 0 0)]) := sx4
          rw [e4] at sx4
          refine ⟨fun k hk => by rw [show k = s from hk]; exact (sx4.blk 0 rfl).trans (st2.blk 0 rfl).symm, ?_⟩
          (conv => whnf); refine stNB (cs := faultL c0 e0) sx4 _ rfl (lgR _ _ 2) (Nat.le_refl _) rfl fun J5 sx5 => ?_
          rw [lsR] at sx5
          have e5 : splice (faultL 0 0) 0 (faultL c0 e0) = faultL c0 e0 := splAll rfl
          replace sx5 : StB B H J5 (sP s t i a n cap os ps ++ [pB 77 q2 rule0, pB 102 q3 (setL X), pB 27 q5 (splice (faultL 0 0) 0 (faultL c0 e0))]) := sx5
          rw [e5] at sx5
          refine ⟨fun k hk => by rw [show k = s from hk]; exact (sx5.blk 0 rfl).trans (st2.blk 0 rfl).symm, ?_⟩
          (conv => whnf)
          exact ⟨rfl, (q3, q5), rfl, sx5.subl ((List.append_sublist_append_left _).2 (List.Sublist.cons_cons _ (List.nil_sublist _))), sx5.blk _ (lgR _ _ 1), sx5.blk _ (lgR _ _ 2)⟩
        · refine valloc (faultA 0 0) (faultL 0 0) rfl rfl ?_
          intro q5 J2 gq1 gs1 gb1 ga1
          have sx2 := sx1.box gq1 gs1 gb1 ga1
          rw [List.append_assoc] at sx2
          replace sx2 : StB B H J2 (sP s t i a n cap os ps ++ [pB 77 q2 rule0, pB 102 q3 (setL 0), pB 27 q5 (faultL 0 0)]) := sx2
          refine ⟨fun k hk => by rw [show k = s from hk]; exact (sx2.blk 0 rfl).trans (st2.blk 0 rfl).symm, ?_⟩
          (conv => whnf)
          refine VCall.mk (classRead_c (esc_at hE hEB sx2) (by omega) hi) ?_
          rintro _ J3 ⟨ag2, hR⟩
          obtain rfl := hX _ hR
          have sx3 := sx2.call ag2
          refine ⟨fun k hk => by rw [show k = s from hk]; exact (sx3.blk 0 rfl).trans (st2.blk 0 rfl).symm, ?_⟩
          (conv => whnf)
          refine stNB (cs := setL X) sx3 _ rfl (lgR _ _ 1) (Nat.le_refl _) rfl fun J4 sx4 => ?_
          rw [lsR] at sx4
          have e4 : splice (setL 0) 0 (setL X) = setL X := splAll rfl
          replace sx4 : StB B H J4 (sP s t i a n cap os ps ++ [pB 77 q2 rule0, pB 102 q3 (splice (setL 0) 0 (setL X)), pB 27 q5 (faultL 0 0)]) := sx4
          rw [e4] at sx4
          refine ⟨fun k hk => by rw [show k = s from hk]; exact (sx4.blk 0 rfl).trans (st2.blk 0 rfl).symm, ?_⟩
          (conv => whnf); refine stNB (cs := faultL c0 e0) sx4 _ rfl (lgR _ _ 2) (Nat.le_refl _) rfl fun J5 sx5 => ?_
          rw [lsR] at sx5
          have e5 : splice (faultL 0 0) 0 (faultL c0 e0) = faultL c0 e0 := splAll rfl
          replace sx5 : StB B H J5 (sP s t i a n cap os ps ++ [pB 77 q2 rule0, pB 102 q3 (setL X), pB 27 q5 (splice (faultL 0 0) 0 (faultL c0 e0))]) := sx5
          rw [e5] at sx5
          refine ⟨fun k hk => by rw [show k = s from hk]; exact (sx5.blk 0 rfl).trans (st2.blk 0 rfl).symm, ?_⟩
          (conv => whnf)
          exact ⟨rfl, (q3, q5), rfl, sx5.subl ((List.append_sublist_append_left _).2 (List.Sublist.cons_cons _ (List.nil_sublist _))), sx5.blk _ (lgR _ _ 1), sx5.blk _ (lgR _ _ 2)⟩
      · refine valloc (faultA 0 0) (faultL 0 0) rfl rfl ?_
        intro q5 J1 gq0 gs0 gb0 ga0
        have sx1 := sx0.box gq0 gs0 gb0 ga0
        rw [List.append_assoc] at sx1
        replace sx1 : StB B H J1 (sP s t i a n cap os ps ++ [pB 77 q2 rule0, pB 27 q5 (faultL 0 0)]) := sx1
        refine ⟨fun k hk => by rw [show k = s from hk]; exact (sx1.blk 0 rfl).trans (st2.blk 0 rfl).symm, ?_⟩
        (conv => whnf)
        refine ⟨?_, ?_⟩
        · refine VCall.mk (classRead_c (esc_at hE hEB sx1) (by omega) hi) ?_
          rintro _ J2 ⟨ag1, hR⟩
          obtain rfl := hX _ hR
          have sx2 := sx1.call ag1
          refine ⟨fun k hk => by rw [show k = s from hk]; exact (sx2.blk 0 rfl).trans (st2.blk 0 rfl).symm, ?_⟩
          (conv => whnf)
          refine valloc (setV 0) (setL 0) rfl rfl ?_
          intro q3 J3 gq2 gs2 gb2 ga2
          have sx3 := sx2.box gq2 gs2 gb2 ga2
          rw [List.append_assoc] at sx3
          replace sx3 : StB B H J3 (sP s t i a n cap os ps ++ [pB 77 q2 rule0, pB 27 q5 (faultL 0 0), pB 102 q3 (setL 0)]) := sx3
          refine ⟨fun k hk => by rw [show k = s from hk]; exact (sx3.blk 0 rfl).trans (st2.blk 0 rfl).symm, ?_⟩
          (conv => whnf)
          refine stNB (cs := setL X) sx3 _ rfl (lgR _ _ 2) (Nat.le_refl _) rfl fun J4 sx4 => ?_
          rw [lsR] at sx4
          have e4 : splice (setL 0) 0 (setL X) = setL X := splAll rfl
          replace sx4 : StB B H J4 (sP s t i a n cap os ps ++ [pB 77 q2 rule0, pB 27 q5 (faultL 0 0), pB 102 q3 (splice (setL 0) 0 (setL X))]) := sx4
          rw [e4] at sx4
          refine ⟨fun k hk => by rw [show k = s from hk]; exact (sx4.blk 0 rfl).trans (st2.blk 0 rfl).symm, ?_⟩
          (conv => whnf); refine stNB (cs := faultL c0 e0) sx4 _ rfl (lgR _ _ 1) (Nat.le_refl _) rfl fun J5 sx5 => ?_
          rw [lsR] at sx5
          have e5 : splice (faultL 0 0) 0 (faultL c0 e0) = faultL c0 e0 := splAll rfl
          replace sx5 : StB B H J5 (sP s t i a n cap os ps ++ [pB 77 q2 rule0, pB 27 q5 (splice (faultL 0 0) 0 (faultL c0 e0)), pB 102 q3 (setL X)]) := sx5
          rw [e5] at sx5
          refine ⟨fun k hk => by rw [show k = s from hk]; exact (sx5.blk 0 rfl).trans (st2.blk 0 rfl).symm, ?_⟩
          (conv => whnf)
          exact ⟨rfl, (q3, q5), rfl, sx5.subl ((List.append_sublist_append_left _).2 (List.Sublist.cons_cons _ (List.nil_sublist _))), sx5.blk _ (lgR _ _ 2), sx5.blk _ (lgR _ _ 1)⟩
        · refine valloc (setV 0) (setL 0) rfl rfl ?_
          intro q3 J2 gq1 gs1 gb1 ga1
          have sx2 := sx1.box gq1 gs1 gb1 ga1
          rw [List.append_assoc] at sx2
          replace sx2 : StB B H J2 (sP s t i a n cap os ps ++ [pB 77 q2 rule0, pB 27 q5 (faultL 0 0), pB 102 q3 (setL 0)]) := sx2
          refine ⟨fun k hk => by rw [show k = s from hk]; exact (sx2.blk 0 rfl).trans (st2.blk 0 rfl).symm, ?_⟩
          (conv => whnf)
          refine VCall.mk (classRead_c (esc_at hE hEB sx2) (by omega) hi) ?_
          rintro _ J3 ⟨ag2, hR⟩
          obtain rfl := hX _ hR
          have sx3 := sx2.call ag2
          refine ⟨fun k hk => by rw [show k = s from hk]; exact (sx3.blk 0 rfl).trans (st2.blk 0 rfl).symm, ?_⟩
          (conv => whnf)
          refine stNB (cs := setL X) sx3 _ rfl (lgR _ _ 2) (Nat.le_refl _) rfl fun J4 sx4 => ?_
          rw [lsR] at sx4
          have e4 : splice (setL 0) 0 (setL X) = setL X := splAll rfl
          replace sx4 : StB B H J4 (sP s t i a n cap os ps ++ [pB 77 q2 rule0, pB 27 q5 (faultL 0 0), pB 102 q3 (splice (setL 0) 0 (setL X))]) := sx4
          rw [e4] at sx4
          refine ⟨fun k hk => by rw [show k = s from hk]; exact (sx4.blk 0 rfl).trans (st2.blk 0 rfl).symm, ?_⟩
          (conv => whnf); refine stNB (cs := faultL c0 e0) sx4 _ rfl (lgR _ _ 1) (Nat.le_refl _) rfl fun J5 sx5 => ?_
          rw [lsR] at sx5
          have e5 : splice (faultL 0 0) 0 (faultL c0 e0) = faultL c0 e0 := splAll rfl
          replace sx5 : StB B H J5 (sP s t i a n cap os ps ++ [pB 77 q2 rule0, pB 27 q5 (splice (faultL 0 0) 0 (faultL c0 e0)), pB 102 q3 (setL X)]) := sx5
          rw [e5] at sx5
          refine ⟨fun k hk => by rw [show k = s from hk]; exact (sx5.blk 0 rfl).trans (st2.blk 0 rfl).symm, ?_⟩
          (conv => whnf)
          exact ⟨rfl, (q3, q5), rfl, sx5.subl ((List.append_sublist_append_left _).2 (List.Sublist.cons_cons _ (List.nil_sublist _))), sx5.blk _ (lgR _ _ 2), sx5.blk _ (lgR _ _ 1)⟩
    · rintro ⟨q3, q5⟩ G junk ⟨stg, hb3, hb5⟩
      (conv => whnf); refine VSeqP.run ?_
      (conv => whnf); refine ldN (cs := faultL c0 e0) ag27 (hb5.cells (fun j v hv => by rw [Nat.zero_add]; exact hv)) trivial ?_
      (conv => whnf); refine vbuildS Tryz.underlying27 rfl _ rfl (faultL 0 0) rfl ?_
      (conv => whnf); refine ft_neq (by omega) (by omega) (by decide) (by decide) ?_
      rcases hj with ⟨hr, rfl⟩ | ⟨hr, rfl, rfl⟩
      · rw [decide_eq_false (by omega)]
        (conv => whnf); refine ldN (cs := faultL 10 e0) ag27 (hb5.cells (fun j v hv => by rw [Nat.zero_add]; exact hv)) trivial ?_
        (conv => whnf)
        exact ⟨10, e0, prun_err hi (pstep_clsE hfb h40 hr), rfl, stg.old⟩
      · have hok := readSet_ok hr
        rw [decide_eq_true ⟨rfl, rfl⟩]
        (conv => whnf); refine VC.fa fl74_1 ?_
        (conv => whnf); refine st1Ba stg 0 ct3 rfl (by simp) rfl fun G2 sg2 ja2 js2 => ?_
        replace sg2 : StB B H G2 (sP s t j a n cap os ps ++ [pB 77 q2 rule0]) := sg2
        have hb3' := hb3.agr ja2 (hb3.ne (stg.blk 0 rfl) (by decide))
        (conv => whnf); refine ldN (cs := setL X) ag102 (ld_set hb3') trivial ?_
        (conv => whnf); refine vbuildS Tryz.underlying130 rfl _ rfl (setL X) rfl ?_
        (conv => whnf); refine VCallP.of (VCall.mk (leaf_c (r := .cls X) sg2 rfl) ?_)
        rintro _ G3 ⟨B1, f1, rfl, s1, a3, sg3, gs⟩
        obtain ⟨g1, c1, rfl⟩ := gs.fn
        (conv => whnf); refine stNBa (cs := ruleL (.cls X) (.func (.func g1) #[] c1)) sg3 _ rfl (lgR _ _ 0) (by simp [ruleL, rule0]) rfl fun G4 sg4 ja4 js4 => ?_
        rw [lsR, spl2 rfl] at sg4
        (conv => whnf); refine ldN (cs := ruleL (.cls X) (.func (.func g1) #[] c1)) ag77 (ld_rule (sg4.blk _ (lgR _ _ 0))) trivial ?_
        exact ⟨j, .cls X, hok.1, hok.2, prun_step hi (pstep_cls hfb h40 hr), B1, _, rfl, s1, (sg2.old.trans (a3.mono fun k hk => sg2.up hk)).trans fun k hk => sg4.old k (s1 k hk), ⟨a, n, cap, sg4.lft.rebase⟩, gs.frame sg4.old fun k hk => hk⟩
end Go.Proofs.YtlnmhfhdjnenoaaGreatDoor
/- The document's parser: sizes: the walk. -/
set_option linter.unusedVariables false
set_option linter.unusedSimpArgs false
set_option maxRecDepth 100000
namespace Go.Proofs.YtlnmhfhdjnenoaaGreatDoor
open Go.VC Go.Lib
theorem rn_m (d : RnM) : (rnL d)[259]? = some (.int .i64 d.m) := by
  unfold rnL rnCells
  rw [List.getElem?_append_right (by simp), List.getElem?_append_right (by simp [bitsL_len])]
  simp [bitsL_len]
theorem rn_n (d : RnM) : (rnL d)[260]? = some (.int .i64 d.n) := by
  unfold rnL rnCells
  rw [List.getElem?_append_right (by simp), List.getElem?_append_right (by simp [bitsL_len])]
  simp [bitsL_len]
theorem repC_le {c : Nat} {m n : Int} (hc : c ≤ 2001) (h : RepOk m n) : repC c (lowM m) n ≤ 2000000 := by
  have hm : lowM m ≤ 255 := by unfold lowM; split <;> rcases h with h | h <;> omega
  have hn : n.toNat ≤ 255 := by rcases h with h | h <;> omega
  have h1 : lowM m * c ≤ 255 * 2001 := Nat.mul_le_mul hm hc
  have h2 : n.toNat * (c + 2) ≤ 255 * 2003 := Nat.mul_le_mul hn (by omega)
  have h3 : (n.toNat - lowM m) * (c + 3) ≤ 255 * 2004 := Nat.mul_le_mul (by omega) (by omega)
  unfold repC
  split
  · split <;> omega
  · split
    · omega
    · split <;> omega
def szI (w : RwM) : Int := ((szR w.den : Nat) : Int)
def szL (ws : List RwM) (j : Nat) : List Int := (ws.take j).map szI ++ List.replicate (ws.length - j) 0
theorem szL_len (ws : List RwM) {j : Nat} (hj : j ≤ ws.length) : (szL ws j).length = ws.length := by unfold szL; simp; omega
theorem szL_get {ws : List RwM} {j i : Nat} {w : RwM} (h : ws[i]? = some w) (hi : i < j) : (szL ws j)[i]? = some (szI w) := by
  have hl := (List.getElem?_eq_some_iff.1 h).1
  unfold szL
  rw [List.getElem?_append_left (by simp; omega), List.getElem?_map, List.getElem?_take, if_pos hi, h]; rfl
theorem szL_next {ws : List RwM} {j : Nat} {w : RwM} (h : ws[j]? = some w) : (szL ws j).set j (szI w) = szL ws (j + 1) := by
  have hl := (List.getElem?_eq_some_iff.1 h).1
  apply List.ext_getElem?
  intro i
  have l1 := szL_len ws (j := j) (by omega)
  by_cases hi : i = j
  · subst hi
    rw [List.getElem?_set_self (by omega), szL_get h (by omega)]
  · rw [List.getElem?_set_ne (by omega)]
    unfold szL
    by_cases hij : i < j
    · rw [List.getElem?_append_left (by simp; omega), List.getElem?_append_left (by simp; omega), List.getElem?_map, List.getElem?_map, List.getElem?_take, List.getElem?_take, if_pos hij, if_pos (by omega)]
    · rw [List.getElem?_append_right (by simp; omega), List.getElem?_append_right (by simp; omega), List.getElem?_replicate, List.getElem?_replicate]
      simp only [List.length_map, List.length_take]
      by_cases hi2 : i < ws.length
      · rw [if_pos (by omega), if_pos (by omega)]
      · rw [if_neg (by omega), if_neg (by omega)]
abbrev pSz (b n : Nat) (xs : List Int) : Pc := pS tPl 3 (some ⟨b, 0, none⟩) n n xs
set_option maxHeartbeats 16000000 in
theorem sizes_c {S : Nat → Prop} {H : Heap} {na : Option Addr} {nc : Nat} {ds : List RnM} {ws : List RwM} (hS : ∀ k, S k → k < H.size) (hR : Raw ds ws) (hl : ds.length ≤ 16777216) (hd : SlD tRn S H na nc ds) :
    FnOk Tryz.prog 35 #[.slice na ds.length nc] H (fun v H' => ∃ b, v = .slice (some ⟨b, 0, none⟩) ds.length ds.length ∧ St H H' [pSz b ds.length (szL ws ws.length)]) := by
  have hlen := hR.len
  refine FnOk.of_vc Tryz.func35 rfl (Tryz.call35 _) ?_
  (conv => whnf); refine vmakeT (T := tPl) (v := 0) (S := none_) sl54 ⟨rfl, inI64 (x := 0) (by decide)⟩ (by omega) rfl (by omega) (by omega) ?_
  intro b H1 hb hs1 hb1 ha1
  rw [Int.toNat_natCast] at hb1 ⊢
  have st1 : St H H1 [pSz b ds.length (szL ws 0)] := by
    have := (St.nil H).new (T := tPl) (n := ds.length) (xs := List.replicate ws.length (0 : Int)) hb hs1 hb1 ha1 (by rw [hlen]; exact reps_replicate (T := tPl) (c := [.int .i64 0]) ⟨rfl, inI64 (x := 0) (by decide)⟩ _) (by simp [hlen]) (by unfold maxLen; omega)
    unfold szL
    simpa using this
  have hmax : ws.length ≤ 16777216 := by omega
  (conv => whnf)
  refine VLoop.mk [4] (fun j : Nat => [.int .i64 (j : Int)]) (fun j G => j ≤ ws.length ∧ St H G [pSz b ds.length (szL ws j)]) (fun j _ => ws.length - j) ?_ ?_
  · (conv => whnf)
    exact ⟨0, rfl, by omega, st1⟩
  · rintro j G junk ⟨hj, stg⟩
    have hv : (ws.length : Int) = (ds.length : Int) := by rw [hlen]
    (conv => whnf); refine VIte.mk (fun hz => ?_) (fun hz => ?_) <;> simp only [decide_eq_true_eq, decide_eq_false_iff_not] at hz
    · have hjl : j < ws.length := by omega
      obtain ⟨w, hw⟩ : ∃ w, ws[j]? = some w := ⟨_, List.getElem?_eq_getElem hjl⟩
      obtain ⟨d, us, vs, hdd, hws, hul, hnr⟩ := hR.at_ hw
      have hxl := szL_len ws hj
      have hlt : ∀ {i : Nat} {a : RwM}, us[i]? = some a → (szL ws j)[i]? = some (szI a) ∧ i < ws.length := fun {i a} h => by
        have hi := (List.getElem?_eq_some_iff.1 h).1
        have : ws[i]? = some a := by rw [hws]; exact getx h
        exact ⟨szL_get this (by omega), by omega⟩
      have nd : ∀ {G' : Heap} {S0 : Nat → Prop} {K : Value → Prop}, St H G' [pSz b ds.length (szL ws j)] → (∀ b2 o2, Cells G' b2 o2 (rnL d) → Old G' b2 → K (.pointer (some ⟨b2, o2, none⟩))) → VDet Tryz.prog (Instr.indexAt 30 (.slice na ds.length nc) (.int .i64 (j : Int))) S0 G' K := fun st k => by
        refine ixr (i := j) sl30 (hd.frame (st.old.mono hS)) hdd rfl ?_
        rintro b2 o2 c2 hS2 hc2 ⟨rfl, hok⟩
        exact k b2 o2 hc2 (st.up (hS b2 hS2))
      (conv => whnf); refine VSeq.run ?_
      (conv => whnf); refine VSeq.run ?_
      (conv => whnf); refine nd stg fun b2 o2 hc2 hO2 => ?_
      (conv => whnf); refine VC.fa fl94_0 ?_
      (conv => whnf); refine ld1 (v := .int .i64 d.op) ct3 (hc2 0 _ (rn_op d)) trivial ?_
      cases w with
      | eps =>
        obtain rfl : d = binN 0 0 0 := hnr
        (conv => whnf); try (refine VSeq.run ?_)
        (conv => whnf); try (refine VSeq.run ?_)
        (conv => whnf); refine nd stg fun b3 o3 hc3 hO3 => ?_
        (conv => whnf); refine VC.fa fl94_0 ?_
        (conv => whnf); refine ld1 (v := .int .i64 (binN 0 0 0).op) ct3 (hc3 0 _ (rn_op _)) trivial ?_
        (conv => whnf); try (refine VSeq.run ?_)
        (conv => whnf); refine ixE (T := tPl) (j := j) sl54 stg 0 rfl (by rw [szL_len ws hj]; exact hjl) rfl ?_
        (conv => whnf); refine st1O (T := tPl) (j := j) (x := 1) stg 0 ct3 rfl rfl (Nat.mul_one _) (by rw [szL_len ws hj]; exact hjl) rfl (fun _ _ => ⟨rfl, inI64 (x := 1) (by decide)⟩) fun G3 sg3 => ?_
        (conv => whnf); try (refine VSeq.run ?_)
        (conv => whnf); refine ixO (j := j) (x := (1 : Int)) sl54 sg3 0 rfl (by exact List.getElem?_set_self (by rw [szL_len ws hj]; exact hjl)) rfl fun b9 o9 cs9 hO9 hc9 hr9 => ?_
        obtain ⟨rfl, -⟩ := hr9
        (conv => whnf); refine ld1 (v := .int .i64 ((1 : Int))) ct3 hc9.one trivial ?_
        (conv => whnf); rw [w64 (x := (j : Int) + 1) (by omega) (by omega)]
        refine ⟨rfl, j + 1, rfl, ⟨by omega, ?_⟩, by omega⟩
        have e : (1 : Int) = szI (.eps) := by unfold szI; show (1 : Int) = ((szR (RwM.eps).den : Nat) : Int); rw [show szR (RwM.eps).den = 1 from rfl]; rfl
        have sg8 := sg3
        replace sg8 : St H _ [pSz b ds.length ((szL ws j).set j 1)] := sg8
        rw [e, szL_next hw] at sg8
        exact sg8
      | cls s =>
        obtain rfl : d = clsD s := hnr
        (conv => whnf); try (refine VSeq.run ?_)
        (conv => whnf); try (refine VSeq.run ?_)
        (conv => whnf); refine nd stg fun b3 o3 hc3 hO3 => ?_
        (conv => whnf); refine VC.fa fl94_0 ?_
        (conv => whnf); refine ld1 (v := .int .i64 (clsD s).op) ct3 (hc3 0 _ (rn_op _)) trivial ?_
        (conv => whnf); try (refine VSeq.run ?_)
        (conv => whnf); refine ixE (T := tPl) (j := j) sl54 stg 0 rfl (by rw [szL_len ws hj]; exact hjl) rfl ?_
        (conv => whnf); refine st1O (T := tPl) (j := j) (x := 1) stg 0 ct3 rfl rfl (Nat.mul_one _) (by rw [szL_len ws hj]; exact hjl) rfl (fun _ _ => ⟨rfl, inI64 (x := 1) (by decide)⟩) fun G3 sg3 => ?_
        (conv => whnf); try (refine VSeq.run ?_)
        (conv => whnf); refine ixO (j := j) (x := (1 : Int)) sl54 sg3 0 rfl (by exact List.getElem?_set_self (by rw [szL_len ws hj]; exact hjl)) rfl fun b9 o9 cs9 hO9 hc9 hr9 => ?_
        obtain ⟨rfl, -⟩ := hr9
        (conv => whnf); refine ld1 (v := .int .i64 ((1 : Int))) ct3 hc9.one trivial ?_
        (conv => whnf); rw [w64 (x := (j : Int) + 1) (by omega) (by omega)]
        refine ⟨rfl, j + 1, rfl, ⟨by omega, ?_⟩, by omega⟩
        have e : (1 : Int) = szI (.cls s) := by unfold szI; show (1 : Int) = ((szR (RwM.cls s).den : Nat) : Int); rw [show szR (RwM.cls s).den = 1 from rfl]; rfl
        have sg8 := sg3
        replace sg8 : St H _ [pSz b ds.length ((szL ws j).set j 1)] := sg8
        rw [e, szL_next hw] at sg8
        exact sg8
      | cat a c =>
        obtain ⟨i1, i2, rfl, hi1, hi2⟩ := hnr
        obtain ⟨g1, l1⟩ := hlt hi1
        obtain ⟨g2, l2⟩ := hlt hi2
        have za := szR_le a.den
        have zc := szR_le c.den
        have hsz : szR (RwM.cat a c).den = min (1 + szR a.den + szR c.den) 2001 := szR_bin .cat a.den c.den
        (conv => whnf); try (refine VSeq.run ?_)
        (conv => whnf); refine nd stg fun b3 o3 hc3 hO3 => ?_
        (conv => whnf); refine VC.fa fl94_2 ?_
        (conv => whnf); refine ld1 (v := .int .i64 (i1 : Int)) ct3 (hc3 257 _ (rn_l _)) trivial ?_
        (conv => whnf); refine ixO (j := i1) (x := szI a) sl54 stg 0 rfl g1 rfl fun b9 o9 cs9 hO9 hc9 hr9 => ?_
        obtain ⟨rfl, -⟩ := hr9
        (conv => whnf); refine ld1 (v := .int .i64 (szI a)) ct3 hc9.one trivial ?_
        (conv => whnf); try (refine VSeq.run ?_)
        (conv => whnf); refine nd stg fun b4 o4 hc4 hO4 => ?_
        (conv => whnf); refine VC.fa fl94_0 ?_
        (conv => whnf); refine ld1 (v := .int .i64 (binN 2 (i1 : Int) (i2 : Int)).op) ct3 (hc4 0 _ (rn_op _)) trivial ?_
        (conv => whnf); try (refine VSeq.run ?_)
        (conv => whnf); rw [w64 (x := 1 + szI a) (by unfold szI; omega) (by unfold szI; omega)]
        (conv => whnf); refine nd stg fun b5 o5 hc5 hO5 => ?_
        (conv => whnf); refine VC.fa fl94_3 ?_
        (conv => whnf); refine ld1 (v := .int .i64 (i2 : Int)) ct3 (hc5 258 _ (rn_r _)) trivial ?_
        (conv => whnf); refine ixO (j := i2) (x := szI c) sl54 stg 0 rfl g2 rfl fun b9 o9 cs9 hO9 hc9 hr9 => ?_
        obtain ⟨rfl, -⟩ := hr9
        (conv => whnf); refine ld1 (v := .int .i64 (szI c)) ct3 hc9.one trivial ?_
        (conv => whnf); rw [w64 (x := 1 + szI a + szI c) (by unfold szI; omega) (by unfold szI; omega)]
        rw [show 1 + szI a + szI c = ((1 + szR a.den + szR c.den : Nat) : Int) by unfold szI; omega]
        (conv => whnf); refine ixE (T := tPl) (j := j) sl54 stg 0 rfl (by rw [szL_len ws hj]; exact hjl) rfl ?_
        (conv => whnf); refine st1O (T := tPl) (j := j) (x := ((1 + szR a.den + szR c.den : Nat) : Int)) stg 0 ct3 rfl rfl (Nat.mul_one _) (by rw [szL_len ws hj]; exact hjl) rfl (fun _ _ => ⟨rfl, inI64 (by omega)⟩) fun G3 sg3 => ?_
        (conv => whnf); try (refine VSeq.run ?_)
        (conv => whnf); refine ixO (j := j) (x := (((1 + szR a.den + szR c.den : Nat) : Int) : Int)) sl54 sg3 0 rfl (by exact List.getElem?_set_self (by rw [szL_len ws hj]; exact hjl)) rfl fun b9 o9 cs9 hO9 hc9 hr9 => ?_
        obtain ⟨rfl, -⟩ := hr9
        (conv => whnf); refine ld1 (v := .int .i64 ((((1 + szR a.den + szR c.den : Nat) : Int) : Int))) ct3 hc9.one trivial ?_
        by_cases hcap : 2001 < 1 + szR a.den + szR c.den
        · have d9 : decide (2001 < (((1 + szR a.den + szR c.den : Nat) : Int) : Int)) = true := decide_eq_true (by omega)
          (conv => whnf); rw [d9]
          (conv => whnf); refine ixE (T := tPl) (j := j) sl54 sg3 0 rfl (by rw [List.length_set, szL_len ws hj]; exact hjl) rfl ?_
          (conv => whnf); refine st1O (T := tPl) (j := j) (x := 2001) sg3 0 ct3 rfl rfl (Nat.mul_one _) (by rw [List.length_set, szL_len ws hj]; exact hjl) rfl (fun _ _ => ⟨rfl, inI64 (x := 2001) (by decide)⟩) fun G8 sg8 => ?_
          (conv => whnf); rw [w64 (x := (j : Int) + 1) (by omega) (by omega)]
          refine ⟨rfl, j + 1, rfl, ⟨by omega, ?_⟩, by omega⟩
          have e : (2001 : Int) = szI (.cat a c) := by unfold szI; rw [hsz]; omega
          replace sg8 : St H G8 [pSz b ds.length (((szL ws j).set j ((1 + szR a.den + szR c.den : Nat) : Int)).set j 2001)] := sg8
          rw [List.set_set, e, szL_next hw] at sg8
          exact sg8
        · have d9 : decide (2001 < (((1 + szR a.den + szR c.den : Nat) : Int) : Int)) = false := decide_eq_false (by omega)
          (conv => whnf); rw [d9]
          (conv => whnf); rw [w64 (x := (j : Int) + 1) (by omega) (by omega)]
          refine ⟨rfl, j + 1, rfl, ⟨by omega, ?_⟩, by omega⟩
          have e : (((1 + szR a.den + szR c.den : Nat) : Int) : Int) = szI (.cat a c) := by unfold szI; rw [hsz]; omega
          have sg8 := sg3
          replace sg8 : St H _ [pSz b ds.length ((szL ws j).set j ((1 + szR a.den + szR c.den : Nat) : Int))] := sg8
          rw [e, szL_next hw] at sg8
          exact sg8
      | alt a c =>
        obtain ⟨i1, i2, rfl, hi1, hi2⟩ := hnr
        obtain ⟨g1, l1⟩ := hlt hi1
        obtain ⟨g2, l2⟩ := hlt hi2
        have za := szR_le a.den
        have zc := szR_le c.den
        have hsz : szR (RwM.alt a c).den = min (1 + szR a.den + szR c.den) 2001 := szR_bin .alt a.den c.den
        (conv => whnf); try (refine VSeq.run ?_)
        (conv => whnf); refine nd stg fun b3 o3 hc3 hO3 => ?_
        (conv => whnf); refine VC.fa fl94_2 ?_
        (conv => whnf); refine ld1 (v := .int .i64 (i1 : Int)) ct3 (hc3 257 _ (rn_l _)) trivial ?_
        (conv => whnf); refine ixO (j := i1) (x := szI a) sl54 stg 0 rfl g1 rfl fun b9 o9 cs9 hO9 hc9 hr9 => ?_
        obtain ⟨rfl, -⟩ := hr9
        (conv => whnf); refine ld1 (v := .int .i64 (szI a)) ct3 hc9.one trivial ?_
        (conv => whnf); try (refine VSeq.run ?_)
        (conv => whnf); refine nd stg fun b4 o4 hc4 hO4 => ?_
        (conv => whnf); refine VC.fa fl94_0 ?_
        (conv => whnf); refine ld1 (v := .int .i64 (binN 3 (i1 : Int) (i2 : Int)).op) ct3 (hc4 0 _ (rn_op _)) trivial ?_
        (conv => whnf); try (refine VSeq.run ?_)
        (conv => whnf); rw [w64 (x := 1 + szI a) (by unfold szI; omega) (by unfold szI; omega)]
        (conv => whnf); refine nd stg fun b5 o5 hc5 hO5 => ?_
        (conv => whnf); refine VC.fa fl94_3 ?_
        (conv => whnf); refine ld1 (v := .int .i64 (i2 : Int)) ct3 (hc5 258 _ (rn_r _)) trivial ?_
        (conv => whnf); refine ixO (j := i2) (x := szI c) sl54 stg 0 rfl g2 rfl fun b9 o9 cs9 hO9 hc9 hr9 => ?_
        obtain ⟨rfl, -⟩ := hr9
        (conv => whnf); refine ld1 (v := .int .i64 (szI c)) ct3 hc9.one trivial ?_
        (conv => whnf); rw [w64 (x := 1 + szI a + szI c) (by unfold szI; omega) (by unfold szI; omega)]
        rw [show 1 + szI a + szI c = ((1 + szR a.den + szR c.den : Nat) : Int) by unfold szI; omega]
        (conv => whnf); refine ixE (T := tPl) (j := j) sl54 stg 0 rfl (by rw [szL_len ws hj]; exact hjl) rfl ?_
        (conv => whnf); refine st1O (T := tPl) (j := j) (x := ((1 + szR a.den + szR c.den : Nat) : Int)) stg 0 ct3 rfl rfl (Nat.mul_one _) (by rw [szL_len ws hj]; exact hjl) rfl (fun _ _ => ⟨rfl, inI64 (by omega)⟩) fun G3 sg3 => ?_
        (conv => whnf); try (refine VSeq.run ?_)
        (conv => whnf); refine ixO (j := j) (x := (((1 + szR a.den + szR c.den : Nat) : Int) : Int)) sl54 sg3 0 rfl (by exact List.getElem?_set_self (by rw [szL_len ws hj]; exact hjl)) rfl fun b9 o9 cs9 hO9 hc9 hr9 => ?_
        obtain ⟨rfl, -⟩ := hr9
        (conv => whnf); refine ld1 (v := .int .i64 ((((1 + szR a.den + szR c.den : Nat) : Int) : Int))) ct3 hc9.one trivial ?_
        by_cases hcap : 2001 < 1 + szR a.den + szR c.den
        · have d9 : decide (2001 < (((1 + szR a.den + szR c.den : Nat) : Int) : Int)) = true := decide_eq_true (by omega)
          (conv => whnf); rw [d9]
          (conv => whnf); refine ixE (T := tPl) (j := j) sl54 sg3 0 rfl (by rw [List.length_set, szL_len ws hj]; exact hjl) rfl ?_
          (conv => whnf); refine st1O (T := tPl) (j := j) (x := 2001) sg3 0 ct3 rfl rfl (Nat.mul_one _) (by rw [List.length_set, szL_len ws hj]; exact hjl) rfl (fun _ _ => ⟨rfl, inI64 (x := 2001) (by decide)⟩) fun G8 sg8 => ?_
          (conv => whnf); rw [w64 (x := (j : Int) + 1) (by omega) (by omega)]
          refine ⟨rfl, j + 1, rfl, ⟨by omega, ?_⟩, by omega⟩
          have e : (2001 : Int) = szI (.alt a c) := by unfold szI; rw [hsz]; omega
          replace sg8 : St H G8 [pSz b ds.length (((szL ws j).set j ((1 + szR a.den + szR c.den : Nat) : Int)).set j 2001)] := sg8
          rw [List.set_set, e, szL_next hw] at sg8
          exact sg8
        · have d9 : decide (2001 < (((1 + szR a.den + szR c.den : Nat) : Int) : Int)) = false := decide_eq_false (by omega)
          (conv => whnf); rw [d9]
          (conv => whnf); rw [w64 (x := (j : Int) + 1) (by omega) (by omega)]
          refine ⟨rfl, j + 1, rfl, ⟨by omega, ?_⟩, by omega⟩
          have e : (((1 + szR a.den + szR c.den : Nat) : Int) : Int) = szI (.alt a c) := by unfold szI; rw [hsz]; omega
          have sg8 := sg3
          replace sg8 : St H _ [pSz b ds.length ((szL ws j).set j ((1 + szR a.den + szR c.den : Nat) : Int))] := sg8
          rw [e, szL_next hw] at sg8
          exact sg8
      | and_ a c =>
        obtain ⟨i1, i2, rfl, hi1, hi2⟩ := hnr
        obtain ⟨g1, l1⟩ := hlt hi1
        obtain ⟨g2, l2⟩ := hlt hi2
        have za := szR_le a.den
        have zc := szR_le c.den
        have hsz : szR (RwM.and_ a c).den = min (1 + szR a.den + szR c.den) 2001 := szR_bin .and_ a.den c.den
        (conv => whnf); try (refine VSeq.run ?_)
        (conv => whnf); refine nd stg fun b3 o3 hc3 hO3 => ?_
        (conv => whnf); refine VC.fa fl94_2 ?_
        (conv => whnf); refine ld1 (v := .int .i64 (i1 : Int)) ct3 (hc3 257 _ (rn_l _)) trivial ?_
        (conv => whnf); refine ixO (j := i1) (x := szI a) sl54 stg 0 rfl g1 rfl fun b9 o9 cs9 hO9 hc9 hr9 => ?_
        obtain ⟨rfl, -⟩ := hr9
        (conv => whnf); refine ld1 (v := .int .i64 (szI a)) ct3 hc9.one trivial ?_
        (conv => whnf); try (refine VSeq.run ?_)
        (conv => whnf); refine nd stg fun b4 o4 hc4 hO4 => ?_
        (conv => whnf); refine VC.fa fl94_0 ?_
        (conv => whnf); refine ld1 (v := .int .i64 (binN 5 (i1 : Int) (i2 : Int)).op) ct3 (hc4 0 _ (rn_op _)) trivial ?_
        (conv => whnf); try (refine VSeq.run ?_)
        (conv => whnf); rw [w64 (x := 1 + szI a) (by unfold szI; omega) (by unfold szI; omega)]
        (conv => whnf); refine nd stg fun b5 o5 hc5 hO5 => ?_
        (conv => whnf); refine VC.fa fl94_3 ?_
        (conv => whnf); refine ld1 (v := .int .i64 (i2 : Int)) ct3 (hc5 258 _ (rn_r _)) trivial ?_
        (conv => whnf); refine ixO (j := i2) (x := szI c) sl54 stg 0 rfl g2 rfl fun b9 o9 cs9 hO9 hc9 hr9 => ?_
        obtain ⟨rfl, -⟩ := hr9
        (conv => whnf); refine ld1 (v := .int .i64 (szI c)) ct3 hc9.one trivial ?_
        (conv => whnf); rw [w64 (x := 1 + szI a + szI c) (by unfold szI; omega) (by unfold szI; omega)]
        rw [show 1 + szI a + szI c = ((1 + szR a.den + szR c.den : Nat) : Int) by unfold szI; omega]
        (conv => whnf); refine ixE (T := tPl) (j := j) sl54 stg 0 rfl (by rw [szL_len ws hj]; exact hjl) rfl ?_
        (conv => whnf); refine st1O (T := tPl) (j := j) (x := ((1 + szR a.den + szR c.den : Nat) : Int)) stg 0 ct3 rfl rfl (Nat.mul_one _) (by rw [szL_len ws hj]; exact hjl) rfl (fun _ _ => ⟨rfl, inI64 (by omega)⟩) fun G3 sg3 => ?_
        (conv => whnf); try (refine VSeq.run ?_)
        (conv => whnf); refine ixO (j := j) (x := (((1 + szR a.den + szR c.den : Nat) : Int) : Int)) sl54 sg3 0 rfl (by exact List.getElem?_set_self (by rw [szL_len ws hj]; exact hjl)) rfl fun b9 o9 cs9 hO9 hc9 hr9 => ?_
        obtain ⟨rfl, -⟩ := hr9
        (conv => whnf); refine ld1 (v := .int .i64 ((((1 + szR a.den + szR c.den : Nat) : Int) : Int))) ct3 hc9.one trivial ?_
        by_cases hcap : 2001 < 1 + szR a.den + szR c.den
        · have d9 : decide (2001 < (((1 + szR a.den + szR c.den : Nat) : Int) : Int)) = true := decide_eq_true (by omega)
          (conv => whnf); rw [d9]
          (conv => whnf); refine ixE (T := tPl) (j := j) sl54 sg3 0 rfl (by rw [List.length_set, szL_len ws hj]; exact hjl) rfl ?_
          (conv => whnf); refine st1O (T := tPl) (j := j) (x := 2001) sg3 0 ct3 rfl rfl (Nat.mul_one _) (by rw [List.length_set, szL_len ws hj]; exact hjl) rfl (fun _ _ => ⟨rfl, inI64 (x := 2001) (by decide)⟩) fun G8 sg8 => ?_
          (conv => whnf); rw [w64 (x := (j : Int) + 1) (by omega) (by omega)]
          refine ⟨rfl, j + 1, rfl, ⟨by omega, ?_⟩, by omega⟩
          have e : (2001 : Int) = szI (.and_ a c) := by unfold szI; rw [hsz]; omega
          replace sg8 : St H G8 [pSz b ds.length (((szL ws j).set j ((1 + szR a.den + szR c.den : Nat) : Int)).set j 2001)] := sg8
          rw [List.set_set, e, szL_next hw] at sg8
          exact sg8
        · have d9 : decide (2001 < (((1 + szR a.den + szR c.den : Nat) : Int) : Int)) = false := decide_eq_false (by omega)
          (conv => whnf); rw [d9]
          (conv => whnf); rw [w64 (x := (j : Int) + 1) (by omega) (by omega)]
          refine ⟨rfl, j + 1, rfl, ⟨by omega, ?_⟩, by omega⟩
          have e : (((1 + szR a.den + szR c.den : Nat) : Int) : Int) = szI (.and_ a c) := by unfold szI; rw [hsz]; omega
          have sg8 := sg3
          replace sg8 : St H _ [pSz b ds.length ((szL ws j).set j ((1 + szR a.den + szR c.den : Nat) : Int))] := sg8
          rw [e, szL_next hw] at sg8
          exact sg8
      | minus a c =>
        obtain ⟨i1, i2, rfl, hi1, hi2⟩ := hnr
        obtain ⟨g1, l1⟩ := hlt hi1
        obtain ⟨g2, l2⟩ := hlt hi2
        have za := szR_le a.den
        have zc := szR_le c.den
        have hsz : szR (RwM.minus a c).den = min (1 + szR a.den + szR c.den) 2001 := szR_bin .minus a.den c.den
        (conv => whnf); try (refine VSeq.run ?_)
        (conv => whnf); refine nd stg fun b3 o3 hc3 hO3 => ?_
        (conv => whnf); refine VC.fa fl94_2 ?_
        (conv => whnf); refine ld1 (v := .int .i64 (i1 : Int)) ct3 (hc3 257 _ (rn_l _)) trivial ?_
        (conv => whnf); refine ixO (j := i1) (x := szI a) sl54 stg 0 rfl g1 rfl fun b9 o9 cs9 hO9 hc9 hr9 => ?_
        obtain ⟨rfl, -⟩ := hr9
        (conv => whnf); refine ld1 (v := .int .i64 (szI a)) ct3 hc9.one trivial ?_
        (conv => whnf); try (refine VSeq.run ?_)
        (conv => whnf); refine nd stg fun b4 o4 hc4 hO4 => ?_
        (conv => whnf); refine VC.fa fl94_0 ?_
        (conv => whnf); refine ld1 (v := .int .i64 (binN 6 (i1 : Int) (i2 : Int)).op) ct3 (hc4 0 _ (rn_op _)) trivial ?_
        (conv => whnf); try (refine VSeq.run ?_)
        (conv => whnf); rw [w64 (x := 1 + szI a) (by unfold szI; omega) (by unfold szI; omega)]
        (conv => whnf); refine nd stg fun b5 o5 hc5 hO5 => ?_
        (conv => whnf); refine VC.fa fl94_3 ?_
        (conv => whnf); refine ld1 (v := .int .i64 (i2 : Int)) ct3 (hc5 258 _ (rn_r _)) trivial ?_
        (conv => whnf); refine ixO (j := i2) (x := szI c) sl54 stg 0 rfl g2 rfl fun b9 o9 cs9 hO9 hc9 hr9 => ?_
        obtain ⟨rfl, -⟩ := hr9
        (conv => whnf); refine ld1 (v := .int .i64 (szI c)) ct3 hc9.one trivial ?_
        (conv => whnf); rw [w64 (x := 1 + szI a + szI c) (by unfold szI; omega) (by unfold szI; omega)]
        rw [show 1 + szI a + szI c = ((1 + szR a.den + szR c.den : Nat) : Int) by unfold szI; omega]
        (conv => whnf); refine ixE (T := tPl) (j := j) sl54 stg 0 rfl (by rw [szL_len ws hj]; exact hjl) rfl ?_
        (conv => whnf); refine st1O (T := tPl) (j := j) (x := ((1 + szR a.den + szR c.den : Nat) : Int)) stg 0 ct3 rfl rfl (Nat.mul_one _) (by rw [szL_len ws hj]; exact hjl) rfl (fun _ _ => ⟨rfl, inI64 (by omega)⟩) fun G3 sg3 => ?_
        (conv => whnf); try (refine VSeq.run ?_)
        (conv => whnf); refine ixO (j := j) (x := (((1 + szR a.den + szR c.den : Nat) : Int) : Int)) sl54 sg3 0 rfl (by exact List.getElem?_set_self (by rw [szL_len ws hj]; exact hjl)) rfl fun b9 o9 cs9 hO9 hc9 hr9 => ?_
        obtain ⟨rfl, -⟩ := hr9
        (conv => whnf); refine ld1 (v := .int .i64 ((((1 + szR a.den + szR c.den : Nat) : Int) : Int))) ct3 hc9.one trivial ?_
        by_cases hcap : 2001 < 1 + szR a.den + szR c.den
        · have d9 : decide (2001 < (((1 + szR a.den + szR c.den : Nat) : Int) : Int)) = true := decide_eq_true (by omega)
          (conv => whnf); rw [d9]
          (conv => whnf); refine ixE (T := tPl) (j := j) sl54 sg3 0 rfl (by rw [List.length_set, szL_len ws hj]; exact hjl) rfl ?_
          (conv => whnf); refine st1O (T := tPl) (j := j) (x := 2001) sg3 0 ct3 rfl rfl (Nat.mul_one _) (by rw [List.length_set, szL_len ws hj]; exact hjl) rfl (fun _ _ => ⟨rfl, inI64 (x := 2001) (by decide)⟩) fun G8 sg8 => ?_
          (conv => whnf); rw [w64 (x := (j : Int) + 1) (by omega) (by omega)]
          refine ⟨rfl, j + 1, rfl, ⟨by omega, ?_⟩, by omega⟩
          have e : (2001 : Int) = szI (.minus a c) := by unfold szI; rw [hsz]; omega
          replace sg8 : St H G8 [pSz b ds.length (((szL ws j).set j ((1 + szR a.den + szR c.den : Nat) : Int)).set j 2001)] := sg8
          rw [List.set_set, e, szL_next hw] at sg8
          exact sg8
        · have d9 : decide (2001 < (((1 + szR a.den + szR c.den : Nat) : Int) : Int)) = false := decide_eq_false (by omega)
          (conv => whnf); rw [d9]
          (conv => whnf); rw [w64 (x := (j : Int) + 1) (by omega) (by omega)]
          refine ⟨rfl, j + 1, rfl, ⟨by omega, ?_⟩, by omega⟩
          have e : (((1 + szR a.den + szR c.den : Nat) : Int) : Int) = szI (.minus a c) := by unfold szI; rw [hsz]; omega
          have sg8 := sg3
          replace sg8 : St H _ [pSz b ds.length ((szL ws j).set j ((1 + szR a.den + szR c.den : Nat) : Int))] := sg8
          rw [e, szL_next hw] at sg8
          exact sg8
      | rep a m n =>
        obtain ⟨i1, rfl, hi1, hrk⟩ := hnr
        obtain ⟨g1, l1⟩ := hlt hi1
        have za := szR_le a.den
        have hmn : 0 ≤ n → ((lowM m : Nat) : Int) ≤ n := by intro h0; unfold lowM; rcases hrk with h | h <;> split <;> omega
        have hsz : szR (RwM.rep a m n).den = min (repC (szR a.den) (lowM m) n) 2001 := szR_rep a.den (lowM m) n hmn
        have hrl := repC_le za hrk
        (conv => whnf); try (refine VSeq.run ?_)
        (conv => whnf); refine nd stg fun b3 o3 hc3 hO3 => ?_
        (conv => whnf); refine VC.fa fl94_2 ?_
        (conv => whnf); refine ld1 (v := .int .i64 (i1 : Int)) ct3 (hc3 257 _ (rn_l _)) trivial ?_
        (conv => whnf); refine ixO (j := i1) (x := szI a) sl54 stg 0 rfl g1 rfl fun b9 o9 cs9 hO9 hc9 hr9 => ?_
        obtain ⟨rfl, -⟩ := hr9
        (conv => whnf); refine ld1 (v := .int .i64 (szI a)) ct3 hc9.one trivial ?_
        (conv => whnf); try (refine VSeq.run ?_)
        (conv => whnf); refine nd stg fun b4 o4 hc4 hO4 => ?_
        (conv => whnf); refine VC.fa fl94_0 ?_
        (conv => whnf); refine ld1 (v := .int .i64 (repN (i1 : Int) m n).op) ct3 (hc4 0 _ (rn_op _)) trivial ?_
        (conv => whnf); try (refine VSeq.run ?_)
        (conv => whnf); refine VDraw.heldZ (Old G) [15] (sq [0,1,2,3,4,5,6,7,8,9,10,11,12] (.f 13 (sq [14] (.f 15 .e)))) rfl (by kernel_rfl) ?_
        (conv => whnf); refine nd stg fun b5 o5 hc5 hO5 => ?_
        (conv => whnf); refine VC.fa fl94_4 ?_
        (conv => whnf); refine ld1 (v := .int .i64 m) ct3 (hc5 259 _ (rn_m _)) hO5 ?_
        (conv => whnf); refine nd stg fun b6 o6 hc6 hO6 => ?_
        (conv => whnf); refine VC.fa fl94_5 ?_
        (conv => whnf); refine ld1 (v := .int .i64 n) ct3 (hc6 260 _ (rn_n _)) hO6 ?_
        (conv => whnf); refine pures (times_p (c := szR a.den) za hrk G) fun G7 ha7 => ?_
        have sg7 := stg.call ha7
        refine ⟨ha7, ?_⟩
        (conv => whnf); refine ixE (T := tPl) (j := j) sl54 sg7 0 rfl (by rw [szL_len ws hj]; exact hjl) rfl ?_
        (conv => whnf); refine st1O (T := tPl) (j := j) (x := ((repC (szR a.den) (lowM m) n : Nat) : Int)) sg7 0 ct3 rfl rfl (Nat.mul_one _) (by rw [szL_len ws hj]; exact hjl) rfl (fun _ _ => ⟨rfl, inI64 (by omega)⟩) fun G3 sg3 => ?_
        (conv => whnf); try (refine VSeq.run ?_)
        (conv => whnf); refine ixO (j := j) (x := (((repC (szR a.den) (lowM m) n : Nat) : Int) : Int)) sl54 sg3 0 rfl (by exact List.getElem?_set_self (by rw [szL_len ws hj]; exact hjl)) rfl fun b9 o9 cs9 hO9 hc9 hr9 => ?_
        obtain ⟨rfl, -⟩ := hr9
        (conv => whnf); refine ld1 (v := .int .i64 ((((repC (szR a.den) (lowM m) n : Nat) : Int) : Int))) ct3 hc9.one trivial ?_
        by_cases hcap : 2001 < repC (szR a.den) (lowM m) n
        · have d9 : decide (2001 < (((repC (szR a.den) (lowM m) n : Nat) : Int) : Int)) = true := decide_eq_true (by omega)
          (conv => whnf); rw [d9]
          (conv => whnf); refine ixE (T := tPl) (j := j) sl54 sg3 0 rfl (by rw [List.length_set, szL_len ws hj]; exact hjl) rfl ?_
          (conv => whnf); refine st1O (T := tPl) (j := j) (x := 2001) sg3 0 ct3 rfl rfl (Nat.mul_one _) (by rw [List.length_set, szL_len ws hj]; exact hjl) rfl (fun _ _ => ⟨rfl, inI64 (x := 2001) (by decide)⟩) fun G8 sg8 => ?_
          (conv => whnf); rw [w64 (x := (j : Int) + 1) (by omega) (by omega)]
          refine ⟨rfl, j + 1, rfl, ⟨by omega, ?_⟩, by omega⟩
          have e : (2001 : Int) = szI (.rep a m n) := by unfold szI; rw [hsz]; omega
          replace sg8 : St H G8 [pSz b ds.length (((szL ws j).set j ((repC (szR a.den) (lowM m) n : Nat) : Int)).set j 2001)] := sg8
          rw [List.set_set, e, szL_next hw] at sg8
          exact sg8
        · have d9 : decide (2001 < (((repC (szR a.den) (lowM m) n : Nat) : Int) : Int)) = false := decide_eq_false (by omega)
          (conv => whnf); rw [d9]
          (conv => whnf); rw [w64 (x := (j : Int) + 1) (by omega) (by omega)]
          refine ⟨rfl, j + 1, rfl, ⟨by omega, ?_⟩, by omega⟩
          have e : (((repC (szR a.den) (lowM m) n : Nat) : Int) : Int) = szI (.rep a m n) := by unfold szI; rw [hsz]; omega
          have sg8 := sg3
          replace sg8 : St H _ [pSz b ds.length ((szL ws j).set j ((repC (szR a.den) (lowM m) n : Nat) : Int))] := sg8
          rw [e, szL_next hw] at sg8
          exact sg8
    · obtain rfl : j = ws.length := by omega
      (conv => whnf)
      exact ⟨b, rfl, stg⟩
end Go.Proofs.YtlnmhfhdjnenoaaGreatDoor
/- The document's parser: put, optional, unroll: the walks. -/
set_option linter.unusedVariables false
set_option linter.unusedSimpArgs false
set_option maxRecDepth 100000
namespace Go.Proofs.YtlnmhfhdjnenoaaGreatDoor
open Go.VC Go.Lib
abbrev reP (bb : Nat) (a : Option Addr) (c : Nat) (ns : List RnM) (root : Int) (rest : List Pc) : List Pc := pB tRe bb (reL (.slice a ns.length c) root) :: pS tRn 94 a ns.length c ns :: rest
section
variable {B : Nat → Prop} {H0 H : Heap} {bb c : Nat} {a : Option Addr} {ns : List RnM} {root : Int} {rest : List Pc}
theorem put_g {op x y : Int} (st : StB B H0 H (reP bb a c ns root rest)) (h1 : NumOk op) (h2 : NumOk x) (h3 : NumOk y) (hl : ns.length ≤ 16777216) :
    FnOk Tryz.prog 59 #[.pointer (some ⟨bb, 0, none⟩), .int .i64 op, .int .i64 x, .int .i64 y] H
      (fun v H' => v = .int .i64 (ns.length : Int) ∧ ∃ a' c', StB B H0 H' (reP bb a' c' (ns ++ [binN op x y]) root rest)) := by
  refine FnOk.of_vc Tryz.func59 rfl (Tryz.call59 _) ?_
  (conv => whnf); refine VC.fa fl32_0 ?_
  (conv => whnf); refine ld1 (v := .slice a ns.length c) ct30 (by rw [(st.blk 0 rfl).cell]; rfl) trivial ?_
  (conv => whnf); refine rn_build2 op x y ?_
  (conv => whnf); refine vbuild1 sl30 (rnL (binN op x y)) rfl (rnL_len _) (by decide) (by decide) ?_
  intro z H1 hz hs1 hb1 ha1
  have st1 := st.skip hz ha1
  (conv => whnf); refine appG (ys := [binN op x y]) st1 1 sl30 rfl (hb1.cells (o := 0) (cs := rnL (binN op x y)) fun j v hv => by rw [Nat.zero_add]; exact hv) (Ty.reps_one ⟨rfl, bin_ok h1 h2 h3⟩) rfl (fun u hu => List.all_eq_true.1 (rn_ones _) u hu) (by simp [maxLen]; omega) (by simp; omega) fun a9 c9 H9 st9 ha9 => ?_
  have el : ns.length + [binN op x y].length = (ns ++ [binN op x y]).length := by simp
  rw [el] at st9 ⊢
  (conv => whnf); refine VC.fa fl32_0 ?_
  (conv => whnf); refine st1B st9 0 ct30 rfl (show 0 < 2 by decide) rfl fun H10 st10 => ?_
  (conv => whnf); refine VC.fa fl32_0 ?_
  (conv => whnf); refine ld1 (v := .slice a9 (ns ++ [binN op x y]).length c9) ct30 (by rw [(st10.blk 0 rfl).cell]; rfl) trivial ?_
  have w1 : IntKind.wrap .i64 (((ns ++ [binN op x y]).length : Int) - 1) = (ns.length : Int) := by
    rw [List.length_append, List.length_singleton, w64 (by omega) (by omega)]; omega
  (conv => whnf); rw [w1]
  (conv => whnf)
  exact ⟨rfl, a9, c9, st10⟩
/-- A tree without signs has no node of a sign. -/
def NoSg (r : ReM) (ms : List RnM) : Prop := r.plain = true → ∀ d ∈ ms, d.op ≠ 5 ∧ d.op ≠ 6
/-- A tree that was grown behind ns. -/
structure GrP (B : Nat → Prop) (H0 : Heap) (bb : Nat) (root : Int) (rest : List Pc) (ns : List RnM) (r : ReM) (v : Value) (H' : Heap) : Prop where
  ex : ∃ (ms : List RnM) (a' : Option Addr) (c' : Nat), ms.length = r.nodes ∧ NoSg r ms ∧ v = .int .i64 ((ns.length + ms.length - 1 : Nat) : Int) ∧ TreeAt (ns ++ ms) r (ns.length + ms.length - 1) ∧ StB B H0 H' (reP bb a' c' (ns ++ ms) root rest)
/-- What grow is to show of w. -/
def GrSpec (w : RwM) : Prop := ∀ (B : Nat → Prop) (H0 H : Heap) (bb c : Nat) (a : Option Addr) (ns : List RnM) (root : Int) (rest : List Pc) (na : Option Addr) (nc i : Nat) (ds : List RnM) (ws : List RwM), Raw ds ws → SlD tRn B H0 na nc ds → (∀ k, B k → k < H0.size) → ws[i]? = some w →
  ns.length + w.den.nodes ≤ 4194304 → StB B H0 H (reP bb a c ns root rest) →
  FnOk Tryz.prog 36 #[.slice na ds.length nc, .int .i64 (i : Int), .pointer (some ⟨bb, 0, none⟩)] H (GrP B H0 bb root rest ns w.den)
theorem nodes_pos (r : ReM) : 1 ≤ r.nodes := by cases r <;> simp [ReM.nodes] <;> omega
theorem get_end {α : Type} (l : List α) (x : α) : (l ++ [x])[l.length]? = some x := by simp
theorem num_nat {n : Nat} (h : n ≤ 4194304) : NumOk (n : Int) := by unfold NumOk; omega
theorem optional_c {w : RwM} (IH : GrSpec w) {na : Option Addr} {nc i : Nat} {ds : List RnM} {ws : List RwM} (hR : Raw ds ws) (hd : SlD tRn B H0 na nc ds) (hB : ∀ k, B k → k < H0.size) (hw : ws[i]? = some w) (hl : ns.length + w.den.nodes + 2 ≤ 4194304) (st : StB B H0 H (reP bb a c ns root rest)) :
    FnOk Tryz.prog 86 #[.slice na ds.length nc, .int .i64 (i : Int), .pointer (some ⟨bb, 0, none⟩)] H (GrP B H0 bb root rest ns (maybeR w.den)) := by
  refine FnOk.of_vc Tryz.func86 rfl (Tryz.call86 _) ?_
  (conv => whnf); refine VCall.mk (IH B H0 H bb c a ns root rest na nc i ds ws hR hd hB hw (by omega) st) ?_
  rintro _ H1 ⟨ms, a1, c1, hm, hsg, rfl, ht, st1⟩
  have hp := nodes_pos w.den
  (conv => whnf); refine VCall.mk (put_g (op := 0) (x := 0) (y := 0) st1 (by unfold NumOk; omega) (by unfold NumOk; omega) (by unfold NumOk; omega) (by simp; omega)) ?_
  rintro _ H2 ⟨rfl, a2, c2, st2⟩
  (conv => whnf); refine VCall.mk (put_g (op := 3) (x := ((ns.length + ms.length - 1 : Nat) : Int)) (y := ((ns ++ ms).length : Int)) st2 (by unfold NumOk; omega) (num_nat (by omega)) (num_nat (by simp; omega)) (by simp; omega)) ?_
  rintro _ H3 ⟨rfl, a3, c3, st3⟩
  (conv => whnf)
  refine ⟨ms ++ [binN 0 0 0] ++ [binN 3 ((ns.length + ms.length - 1 : Nat) : Int) ((ns ++ ms).length : Int)], a3, c3, ?_, ?_, ?_, ?_, ?_⟩
  · simp [maybeR, ReM.nodes, hm]; omega
  · intro hp d hd
    have hp1 : w.den.plain = true := by simpa [maybeR, ReM.plain] using hp
    simp only [List.mem_append, List.mem_singleton] at hd
    rcases hd with (hd | rfl) | rfl
    · exact hsg hp1 d hd
    · exact ⟨show (0 : Int) ≠ 5 by decide, show (0 : Int) ≠ 6 by decide⟩
    · exact ⟨show (3 : Int) ≠ 5 by decide, show (3 : Int) ≠ 6 by decide⟩
  · congr 1; simp only [List.length_append, List.length_singleton]; omega
  · have e : ns ++ (ms ++ [binN 0 0 0] ++ [binN 3 ((ns.length + ms.length - 1 : Nat) : Int) ((ns ++ ms).length : Int)]) = ((ns ++ ms) ++ [binN 0 0 0]) ++ [binN 3 ((ns.length + ms.length - 1 : Nat) : Int) ((ns ++ ms).length : Int)] := by simp [List.append_assoc]
    rw [e]
    refine ⟨binN 3 ((ns.length + ms.length - 1 : Nat) : Int) ((ns ++ ms).length : Int), ns.length + ms.length - 1, (ns ++ ms).length, ?_, rfl, rfl, rfl, ht.more.more, ⟨binN 0 0 0, getx (get_end _ _), rfl⟩⟩
    have := get_end ((ns ++ ms) ++ [binN 0 0 0]) (binN 3 ((ns.length + ms.length - 1 : Nat) : Int) ((ns ++ ms).length : Int))
    rw [show ns.length + (ms ++ [binN 0 0 0] ++ [binN 3 ((ns.length + ms.length - 1 : Nat) : Int) ((ns ++ ms).length : Int)]).length - 1 = ((ns ++ ms) ++ [binN 0 0 0]).length by simp only [List.length_append, List.length_singleton]; omega]
    exact this
  · have e : ns ++ (ms ++ [binN 0 0 0] ++ [binN 3 ((ns.length + ms.length - 1 : Nat) : Int) ((ns ++ ms).length : Int)]) = ((ns ++ ms) ++ [binN 0 0 0]) ++ [binN 3 ((ns.length + ms.length - 1 : Nat) : Int) ((ns ++ ms).length : Int)] := by simp [List.append_assoc]
    rw [e]
    exact st3
end
end Go.Proofs.YtlnmhfhdjnenoaaGreatDoor
