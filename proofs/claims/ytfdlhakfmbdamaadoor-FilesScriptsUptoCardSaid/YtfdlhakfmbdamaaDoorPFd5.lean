/- The document's fails, Read, Write: the walks. -/
import Derived.Test.YtfdlhakfmbdamaaDoorPFk1
set_option linter.unusedVariables false
set_option linter.unusedSimpArgs false
set_option maxRecDepth 100000
namespace Go.Proofs.YtfdlhakfmbdamaaDoor
open Go.VC
theorem look_none {l : List (Bool × Int × Int)} {w : Bool} {c : Int} (h : ∀ x ∈ l, ((x.1 == w) && decide (x.2.1 = c)) = false) : lookB l w c = none := List.find?_eq_none.2 fun x hx => by rw [h x hx]; exact Bool.false_ne_true
theorem look_at {l : List (Bool × Int × Int)} {w : Bool} {c : Int} {k : Nat} {x : Bool × Int × Int} (h : ∀ j y, j < k → l[j]? = some y → ((y.1 == w) && decide (y.2.1 = c)) = false) (hx : l[k]? = some x) (hm : ((x.1 == w) && decide (x.2.1 = c)) = true) : lookB l w c = some x := by
  have hl := (List.take_append_drop k l).symm
  have hd : l.drop k = x :: l.drop (k + 1) := by
    rw [List.drop_eq_getElem_cons (List.getElem?_eq_some_iff.1 hx).1, (List.getElem?_eq_some_iff.1 hx).2]
  unfold lookB
  rw [hl, List.find?_append, hd, List.find?_cons, hm]
  have : (l.take k).find? (fun f => (f.1 == w) && decide (f.2.1 = c)) = none := List.find?_eq_none.2 fun y hy => by
    obtain ⟨j, hj⟩ := List.getElem?_of_mem hy
    have hjk : j < k := by
      have := (List.getElem?_eq_some_iff.1 hj).1
      rw [List.length_take] at this
      omega
    rw [List.getElem?_take_of_lt hjk] at hj
    rw [h j y hjk hj]
    exact Bool.false_ne_true
  rw [this]; rfl
set_option maxHeartbeats 8000000 in
theorem dfails_p {S : Nat → Prop} {H : Heap} {sd : Nat} {l : List Value} {fails : List (Bool × Int × Int)} {ba : Option Addr} {bc : Nat} {wr : Bool} {c : Int} (hb : Blk H sd 55 l) (h1 : l[1]? = some (.slice ba fails.length bc)) (hv : SlD tBrk S H ba bc fails) (hS : ∀ k, S k → k < H.size) :
    Pure Tryd.prog 25 #[.pointer (some ⟨sd, 0, none⟩), .bool wr, .int .i64 c] H (.tuple #[breakV (hitM fails wr c), .bool (lookB fails wr c).isSome]) := by
  have hlen := hv.le
  unfold maxLen at hlen
  refine FnOk.of_vc Tryd.func25 rfl (Tryd.call25 _) ?_
  (conv => whnf); refine valloc (breakV (false, 0, 0)) (breakL (false, 0, 0)) rfl rfl ?_
  intro q H1 hq1 hs1 hb1 ha1
  have st1 := (St.nil H).box hq1 hs1 hb1 ha1
  (conv => whnf)
  refine VLoop.mk [8] (fun k : Nat => [.int .i64 (k : Int)]) (fun k G => k ≤ fails.length ∧ (∀ j y, j < k → fails[j]? = some y → ((y.1 == wr) && decide (y.2.1 = c)) = false) ∧ St H G [pB 69 q (breakL (false, 0, 0))]) (fun k _ => fails.length - k) ?_ ?_
  · (conv => whnf)
    exact ⟨0, rfl, Nat.zero_le _, (fun j p hj => absurd hj (Nat.not_lt_zero _)), st1⟩
  · clear st1
    rintro k G junk ⟨hk, hno, stg⟩
    have hag := stg.old
    have hbG := hb.agr hag hb.lt
    have hvG := hv.frame (hag.mono hS)
    have hl1 : VC.cell G sd (0 + 1) = some (.slice ba fails.length bc) := by rw [hbG.cell]; exact h1
    (conv => whnf); refine VC.fa fl55_1 ?_
    (conv => whnf); refine ld1 ct53 hl1 trivial ?_
    (conv => whnf); refine VIte.mk (fun hz => ?_) (fun hz => ?_) <;> simp only [decide_eq_true_eq, decide_eq_false_iff_not] at hz
    · have hkl : k < fails.length := by omega
      obtain ⟨x, hxk⟩ : ∃ x, fails[k]? = some x := ⟨fails[k], List.getElem?_eq_getElem hkl⟩
      (conv => whnf); refine VC.fa fl55_1 ?_
      (conv => whnf); refine ld1 ct53 hl1 trivial ?_
      (conv => whnf); refine ixr sl53 hvG hxk rfl ?_
      intro b2 o2 c2 hb2 hc2 hr2
      obtain rfl := brk_rep hr2
      (conv => whnf); refine VC.fa fl69_0 ?_
      (conv => whnf); refine ld1 (v := .bool x.1) ct4 (hc2 0 _ rfl) trivial ?_
      (conv => whnf); refine beq_b Tryd.underlying4 ?_
      have next : ((x.1 == wr) && decide (x.2.1 = c)) = false → ∀ j y, j < k + 1 → fails[j]? = some y → ((y.1 == wr) && decide (y.2.1 = c)) = false := fun h j y hj hy => by
        by_cases hjk : j = k
        · subst hjk; rw [hxk] at hy; cases hy; exact h
        · exact hno j y (by omega) hy
      cases hw : (x.1 == wr) with
      | false =>
        (conv => whnf); rw [w64 (x := (k : Int) + 1) (by omega) (by omega)]
        exact ⟨rfl, k + 1, rfl, ⟨by omega, next (by rw [hw]; rfl), stg⟩, by omega⟩
      | true =>
        (conv => whnf); refine VC.fa fl55_1 ?_
        (conv => whnf); refine ld1 ct53 hl1 trivial ?_
        (conv => whnf); refine ixr sl53 hvG hxk rfl ?_
        intro b3 o3 c3 hb3 hc3 hr3
        obtain rfl := brk_rep hr3
        (conv => whnf); refine VC.fa fl69_1 ?_
        (conv => whnf); refine ld1 (v := .int .i64 x.2.1) ct3 (hc3 1 _ rfl) trivial ?_
        by_cases hc : x.2.1 = c
        · have d1 : (x.2.1 == c) = true := beq_iff_eq.2 hc
          have hlk := look_at hno hxk (by rw [hw, decide_eq_true hc]; rfl)
          (conv => whnf); rw [d1]
          (conv => whnf); refine VC.fa fl55_1 ?_
          (conv => whnf); refine ld1 ct53 hl1 trivial ?_
          (conv => whnf); refine ixr sl53 hvG hxk rfl ?_
          intro b4 o4 c4 hb4 hc4 hr4
          obtain rfl := brk_rep hr4
          (conv => whnf); refine ldN (cs := breakL x) ag69 hc4 trivial ?_
          (conv => whnf); refine stNB (cs := breakL x) stg 0 rfl rfl (Nat.le_refl _) rfl fun G2 stg2 => ?_
          rw [show splice (breakL (false, 0, 0)) 0 (breakL x) = breakL x from splAll rfl] at stg2
          (conv => whnf); refine ldN (cs := breakL x) ag69 ((stg2.blk 0 rfl).cells fun j v hv => by rw [Nat.zero_add]; exact hv) trivial ?_
          (conv => whnf)
          refine ⟨?_, stg2.old⟩
          unfold hitM
          rw [hlk]; rfl
        · have d1 : (x.2.1 == c) = false := beq_eq_false_iff_ne.2 hc
          (conv => whnf); rw [d1]
          (conv => whnf); rw [w64 (x := (k : Int) + 1) (by omega) (by omega)]
          exact ⟨rfl, k + 1, rfl, ⟨by omega, next (by rw [decide_eq_false hc, Bool.and_false]), stg⟩, by omega⟩
    · have hlk : lookB fails wr c = none := look_none fun x hx => by
        obtain ⟨j, hj⟩ := List.getElem?_of_mem hx
        exact hno j x (by have := (List.getElem?_eq_some_iff.1 hj).1; omega) hj
      (conv => whnf); refine vbuildS Tryd.underlying69 rfl _ rfl (breakL (false, 0, 0)) rfl ?_
      (conv => whnf); refine stNB (cs := breakL (false, 0, 0)) stg 0 rfl rfl (Nat.le_refl _) rfl fun G2 stg2 => ?_
      rw [show splice (breakL (false, 0, 0)) 0 (breakL (false, 0, 0)) = breakL (false, 0, 0) from splAll rfl] at stg2
      (conv => whnf); refine ldN (cs := breakL (false, 0, 0)) ag69 ((stg2.blk 0 rfl).cells fun j v hv => by rw [Nat.zero_add]; exact hv) trivial ?_
      (conv => whnf)
      refine ⟨?_, stg2.old⟩
      unfold hitM
      rw [hlk]; rfl
end Go.Proofs.YtfdlhakfmbdamaaDoor
