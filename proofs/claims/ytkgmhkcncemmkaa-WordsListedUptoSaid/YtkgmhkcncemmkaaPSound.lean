/- What dfa.sound and dfa.alike compute. -/
import Derived.Test.YtkgmhkcncemmkaaPClass
import Derived.Test.YtkgmhkcncemmkaaMDfa
set_option linter.unusedVariables false
set_option linter.unusedSimpArgs false
set_option maxRecDepth 100000
namespace Go.Proofs.Ytkgmhkcncemmkaa
open Go.VC

abbrev tI : Ty Int := tInt .i64
abbrev tRows : Ty (List Int) := tSl tI

theorem sound_p (ca na fa : Option Addr) (cc nc fc fl : Nat) (cells : List (BitVec 256)) (next : List (List Int)) (S : Nat → Prop) (H : Heap) (hS : ∀ k, S k → k < H.size)
    (hc : SlD tSet S H ca cc cells) (hn : SlD tRows S H na nc next) (hfl : fl ≤ 9223372036854775807) :
    Pure Try.prog 70 #[.slice ca cells.length cc, .slice na next.length nc, .slice fa fl fc] H (.bool (soundB cells next fl)) := by
  have lc := hc.le
  have ln := hn.le
  unfold maxLen at lc ln
  refine FnOk.of_vc Try.func70 rfl (Try.call70 _) ?_
  (conv => whnf); refine valloc (setV 0) (setL 0) rfl rfl ?_
  intro p H1 hp hs1 hb1 ha1
  (conv => whnf)
  refine VLoop.mk [16] (fun k : Nat => [.int .i64 k]) (fun k H2 => k ≤ cells.length ∧ Agr (Old H) H H2 ∧ p < H2.size ∧ ∃ all, disjGo 0#256 (cells.take k) = some all ∧ Blk H2 p 78 (setL all)) (fun k _ => cells.length - k) ?_ ?_
  · (conv => whnf)
    exact ⟨0, rfl, by omega, ha1.mono (fun k hk => by unfold Old at hk; omega), by omega, 0, rfl, hb1⟩
  · rintro k H2 junk ⟨hk, ha2, hp2, all, hall, hb2⟩
    (conv => whnf)
    refine VIte.mk (fun h => ?_) (fun h => ?_) <;> simp only [decide_eq_true_eq, decide_eq_false_iff_not] at h
    · obtain ⟨c, hck⟩ := get_some (l := cells) (k := k) (by omega)
      (conv => whnf); refine ixr sl80 (hc.frame (ha2.mono hS)) hck rfl ?_
      rintro b o cs hSb hcells rfl
      (conv => whnf); refine ldN (cs := setL c) ag78 hcells trivial ?_
      (conv => whnf); refine valloc (setV 0) (setL 0) rfl rfl ?_
      intro q H3 hq hs3 hb3 ha3
      (conv => whnf); refine stN rfl hb3 (show 0 + 4 ≤ 4 by decide) rfl ?_
      intro H4 hb4 ha4 hs4
      have hb4' : Blk H4 q 78 (setL c) := hb4
      have hb2' : Blk H4 p 78 (setL all) := (hb2.agr ha3 (show p < q by omega)).agr ha4 (show p ≠ q by omega)
      (conv => whnf); refine ldN (cs := setL all) ag78 (hb2'.cells (fun j v hv => by simpa using hv)) trivial ?_
      (conv => whnf); refine ldN (cs := setL c) ag78 (hb4'.cells (fun j v hv => by simpa using hv)) trivial ?_
      (conv => whnf); refine pures (meet_c all c H4) ?_
      intro H5 ha5
      (conv => whnf); refine vbuildA ar78 (setV 0) rfl (setL 0) rfl ?_
      (conv => whnf); refine set_neq (all &&& c) 0#256 ?_
      have hA : Agr (Old H) H H5 := (ha2.trans ((ha3.mono (fun k hk => by unfold Old at hk; omega)).trans (ha4.mono (fun k hk => by unfold Old at hk; omega)))).trans (ha5.mono (fun k hk => by unfold Old at *; omega))
      by_cases hm : all &&& c = 0#256
      · rw [show decide (all &&& c = 0#256) = true by simpa using hm]
        have hb5 := hb2'.agr ha5 (show p < H4.size by omega)
        have hb5' := hb4'.agr ha5 (show q < H4.size by omega)
        (conv => whnf); refine ldN (cs := setL all) ag78 (hb5.cells (fun j v hv => by simpa using hv)) trivial ?_
        (conv => whnf); refine ldN (cs := setL c) ag78 (hb5'.cells (fun j v hv => by simpa using hv)) trivial ?_
        (conv => whnf); refine pures (union_c all c H5) ?_
        intro H6 ha6
        (conv => whnf); refine stN rfl (hb5.agr ha6 hb5.lt) (show 0 + 4 ≤ 4 by decide) rfl ?_
        intro H7 hb7 ha7 hs7
        (conv => whnf); rw [w64 (x := (k : Int) + 1) (by omega) (by omega)]
        have h56 := old_size ha6
        have h45 := old_size ha5
        refine ⟨rfl, k + 1, by simp, ⟨by omega, ?_, by omega, all ||| c, ?_, hb7⟩, by omega⟩
        · exact (hA.trans (ha6.mono (fun k hk => by unfold Old at *; omega))).trans (ha7.mono (fun k hk => by unfold Old at hk; omega))
        · rw [take_succ_snoc hck, disjGo_snoc hall, if_pos hm]
      · rw [show decide (all &&& c = 0#256) = false by simpa using hm]
        (conv => whnf)
        refine ⟨?_, hA⟩
        have : disjGo 0#256 cells = none := by
          rw [← List.take_append_drop (k + 1) cells, disjGo_append, take_succ_snoc hck, disjGo_snoc hall, if_neg hm]; rfl
        simp [soundB, this]
    · have hkc : k = cells.length := by omega
      subst hkc
      rw [List.take_length] at hall
      (conv => whnf)
      refine VDraw.quiet (Old H2) rfl (by kernel_rfl) ?_
      have hOld : ∀ {H' : Heap}, Agr (Old H2) H2 H' → Agr (fun k => k < H.size) H H' := fun h => ha2.trans (h.mono (fun k hk => by unfold Old at *; omega))
      (conv => whnf); refine ldN (cs := setL all) ag78 (hb2.cells (fun j v hv => by simpa using hv)) hp2 ?_
      (conv => whnf); refine pureq (fun H' _ => span_p 0 255 (by decide) (by decide) H') ?_
      (conv => whnf); refine set_neq all (spanS 0 255) ?_
      rw [spanS_full]
      (conv => whnf); refine VIte.mk (fun h1 => ?_) (fun h1 => ?_) <;> simp only [Bool.not_eq_true', Bool.not_eq_false', decide_eq_true_eq, decide_eq_false_iff_not] at h1
      · (conv => whnf); intro H5 ha5
        (conv => whnf); exact ⟨by
          have e : (all == BitVec.allOnes 256) = false := beq_eq_false_iff_ne.2 h1
          rw [soundB, hall]; simp only [e, Bool.false_and], hOld ha5⟩
      (conv => whnf); refine VIte.mk (fun h2 => ?_) (fun h2 => ?_) <;> simp only [decide_eq_true_eq, decide_eq_false_iff_not] at h2
      · (conv => whnf); intro H5 ha5
        (conv => whnf); exact ⟨by simp [soundB, hall, show ¬ 1 ≤ next.length by omega], hOld ha5⟩
      (conv => whnf); refine VIte.mk (fun h3 => ?_) (fun h3 => ?_) <;> simp only [decide_eq_true_eq, decide_eq_false_iff_not] at h3
      · (conv => whnf); intro H5 ha5
        (conv => whnf); exact ⟨by simp [soundB, hall, show ¬ next.length ≤ 65536 by omega], hOld ha5⟩
      (conv => whnf); intro H5 ha5
      (conv => whnf); refine VIte.mk (fun h4 => ?_) (fun h4 => ?_) <;> simp only [bne_iff_ne, ne_eq, bne_eq_false_iff_eq] at h4
      · (conv => whnf); exact ⟨by simp [soundB, hall, show ¬ next.length = fl by omega], hOld ha5⟩
      have h4' : next.length = fl := by omega
      have hsound : soundB cells next fl = next.all (rowOk next.length cells.length) := by
        have e : (all == BitVec.allOnes 256) = true := beq_iff_eq.2 h1
        rw [soundB, hall]
        simp only [e, decide_eq_true (show 1 ≤ next.length by omega), decide_eq_true (show next.length ≤ 65536 by omega), beq_iff_eq.2 h4', Bool.and_self, Bool.true_and]
      rw [hsound]
      have bad : ∀ {k : Nat} {row : List Int}, next[k]? = some row → rowOk next.length cells.length row = false → next.all (rowOk next.length cells.length) = false := by
        intro k row h1 h2
        rw [List.all_eq_false]
        exact ⟨row, List.mem_of_getElem? h1, by simp [h2]⟩
      have hn5 := hn.frame ((hOld ha5).mono hS)
      (conv => whnf)
      refine VLoop.mk [51] (fun k : Nat => [.int .i64 k]) (fun k H' => H' = H5 ∧ k ≤ next.length ∧ (next.take k).all (rowOk next.length cells.length) = true) (fun k _ => next.length - k) ?_ ?_
      · (conv => whnf)
        exact ⟨0, rfl, rfl, by omega, rfl⟩
      · rintro k H6 junk2 ⟨rfl, hk2, hall2⟩
        (conv => whnf)
        refine VIte.mk (fun h => ?_) (fun h => ?_) <;> simp only [decide_eq_true_eq, decide_eq_false_iff_not] at h
        · obtain ⟨row, hrow⟩ := get_some (l := next) (k := k) (by omega)
          (conv => whnf); refine ixr sl23 hn5 hrow rfl ?_
          rintro b o cs hSb hcells ⟨ra, rc, rfl, hr⟩
          have lr := hr.le
          unfold maxLen at lr
          (conv => whnf); refine ld1 ct36 hcells.one trivial ?_
          (conv => whnf); refine VIte.mk (fun h5 => ?_) (fun h5 => ?_) <;> simp only [bne_iff_ne, ne_eq, bne_eq_false_iff_eq] at h5
          · (conv => whnf); exact ⟨by rw [bad hrow (by simp [rowOk]; intro h; omega)], hOld ha5⟩
          (conv => whnf)
          refine VLoop.mk [62] (fun j : Nat => [.int .i64 j]) (fun j H' => H' = H6 ∧ j ≤ row.length ∧ (row.take j).all (fun q => decide (0 ≤ q) && decide (q < (next.length : Int))) = true) (fun j _ => row.length - j) ?_ ?_
          · (conv => whnf)
            exact ⟨0, rfl, rfl, by omega, rfl⟩
          · rintro j H7 junk3 ⟨rfl, hj, hall3⟩
            (conv => whnf)
            refine VIte.mk (fun h => ?_) (fun h => ?_) <;> simp only [decide_eq_true_eq, decide_eq_false_iff_not] at h
            · obtain ⟨q, hq⟩ := get_some (l := row) (k := j) (by omega)
              have badq : ¬ (0 ≤ q ∧ q < (next.length : Int)) → rowOk next.length cells.length row = false := by
                intro hb
                have : (row.all fun q => decide (0 ≤ q) && decide (q < (next.length : Int))) = false := by
                  rw [List.all_eq_false]
                  exact ⟨q, List.mem_of_getElem? hq, by simpa using hb⟩
                simp only [rowOk, this, Bool.and_false]
              (conv => whnf); refine ixr sl36 hr hq rfl ?_
              rintro b2 o2 cs2 hSb2 hcells2 ⟨rfl, hqk⟩
              (conv => whnf); refine ld1 ct3 hcells2.one trivial ?_
              (conv => whnf); refine VIte.mk (fun h6 => ?_) (fun h6 => ?_) <;> simp only [decide_eq_true_eq, decide_eq_false_iff_not] at h6
              · (conv => whnf); exact ⟨by rw [bad hrow (badq (by omega))], hOld ha5⟩
              (conv => whnf); refine VIte.mk (fun h7 => ?_) (fun h7 => ?_) <;> simp only [decide_eq_true_eq, decide_eq_false_iff_not] at h7
              · (conv => whnf); exact ⟨by rw [bad hrow (badq (by omega))], hOld ha5⟩
              (conv => whnf); rw [w64 (x := (j : Int) + 1) (by omega) (by omega)]
              refine ⟨rfl, j + 1, by simp, ⟨rfl, by omega, ?_⟩, by omega⟩
              rw [take_succ_snoc hq, List.all_append, hall3]
              simp; omega
            · have hj' : j = row.length := by omega
              subst hj'
              rw [List.take_length] at hall3
              (conv => whnf); rw [w64 (x := (k : Int) + 1) (by omega) (by omega)]
              refine ⟨rfl, k + 1, by simp, ⟨rfl, by omega, ?_⟩, by omega⟩
              rw [take_succ_snoc hrow, List.all_append, hall2]
              simp only [List.all_cons, List.all_nil, Bool.and_true, Bool.true_and, rowOk, hall3, beq_iff_eq]
              omega
        · have hk' : k = next.length := by omega
          subst hk'
          rw [List.take_length] at hall2
          (conv => whnf); exact ⟨by rw [hall2], hOld ha5⟩

theorem alike_p (na : Option Addr) (nc c d m : Nat) (next : List (List Int)) (S : Nat → Prop) (H : Heap) (hn : SlD tRows S H na nc next) (hm : ∀ row ∈ next, row.length = m) (hc : c < m) (hd : d < m) (hm64 : m ≤ 9223372036854775807) :
    Pure Try.prog 91 #[.slice na next.length nc, .int .i64 c, .int .i64 d] H (.bool (alikeB next c d)) := by
  have ln := hn.le
  unfold maxLen at ln
  refine FnOk.of_vc Try.func91 rfl (Try.call91 _) ?_
  (conv => whnf); refine VIte.mk (fun h => ?_) (fun h => ?_) <;> simp only [beq_iff_eq, beq_eq_false_iff_ne, Int.natCast_inj, ne_eq] at h
  · (conv => whnf); exact ⟨by simp [alikeB, h], Agr.refl _ _⟩
  have hcd : (c == d) = false := by simpa using h
  (conv => whnf)
  refine VLoop.mk [14] (fun k : Nat => [.int .i64 k]) (fun k H' => H' = H ∧ k ≤ next.length ∧ (next.take k).all (fun row => row[c]? == row[d]?) = true) (fun k _ => next.length - k) ?_ ?_
  · (conv => whnf); exact ⟨0, rfl, rfl, by omega, rfl⟩
  · rintro k H1 junk ⟨rfl, hk, hall⟩
    (conv => whnf); refine VIte.mk (fun h => ?_) (fun h => ?_) <;> simp only [decide_eq_true_eq, decide_eq_false_iff_not] at h
    · obtain ⟨row, hrow⟩ := get_some (l := next) (k := k) (by omega)
      have hlen := hm row (List.mem_of_getElem? hrow)
      (conv => whnf); refine ixr sl23 hn hrow rfl ?_
      rintro b o cs hSb hcells ⟨ra, rc, rfl, hr⟩
      (conv => whnf); refine ld1 ct36 hcells.one trivial ?_
      (conv => whnf); refine VDraw.lex rfl (by kernel_rfl) ?_
      obtain ⟨x, hx⟩ := get_some (l := row) (k := c) (by omega)
      obtain ⟨y, hy⟩ := get_some (l := row) (k := d) (by omega)
      (conv => whnf); refine ixr sl36 hr hx rfl ?_
      rintro b2 o2 cs2 hSb2 hcells2 ⟨rfl, hxk⟩
      (conv => whnf); refine ld1 ct3 hcells2.one trivial ?_
      (conv => whnf); refine ixr sl36 hr hy rfl ?_
      rintro b3 o3 cs3 hSb3 hcells3 ⟨rfl, hyk⟩
      (conv => whnf); refine ld1 ct3 hcells3.one trivial ?_
      (conv => whnf); refine VIte.mk (fun h => ?_) (fun h => ?_) <;> simp only [bne_iff_ne, ne_eq, bne_eq_false_iff_eq] at h
      · (conv => whnf)
        refine ⟨?_, Agr.refl _ _⟩
        have : (next.all fun row => row[c]? == row[d]?) = false := by
          rw [List.all_eq_false]
          exact ⟨row, List.mem_of_getElem? hrow, by simp [hx, hy, h]⟩
        simp only [alikeB, hcd, this, Bool.or_false]
      · (conv => whnf); rw [w64 (x := (k : Int) + 1) (by omega) (by omega)]
        refine ⟨rfl, k + 1, by simp, ⟨rfl, by omega, ?_⟩, by omega⟩
        rw [take_succ_snoc hrow, List.all_append, hall]
        simp [hx, hy, h]
    · have hk' : k = next.length := by omega
      subst hk'
      rw [List.take_length] at hall
      (conv => whnf); exact ⟨by simp only [alikeB, hcd, hall, Bool.false_or], Agr.refl _ _⟩

end Go.Proofs.Ytkgmhkcncemmkaa
