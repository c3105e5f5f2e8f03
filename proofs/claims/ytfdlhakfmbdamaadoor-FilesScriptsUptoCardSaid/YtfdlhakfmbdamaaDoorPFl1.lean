/- files.good and the document's Good; place.Quote and the document's Quote: the walks. -/
import Derived.Test.YtfdlhakfmbdamaaDoorVStr
import Derived.Test.YtfdlhakfmbdamaaDoorVHeldT
import Derived.Test.YtfdlhakfmbdamaaDoorVFacts
set_option linter.unusedVariables false
set_option linter.unusedSimpArgs false
set_option maxRecDepth 100000
namespace Go.Proofs.YtfdlhakfmbdamaaDoor
open Go.VC
theorem strT25 : Tryd.prog.underlying 9 = some .string := rfl
theorem byte_at {s : ByteArray} {k : Nat} (h : k < s.size) : ∃ b, s.data[k]? = some b := ⟨s.data[k]'h, Array.getElem?_eq_getElem h⟩
/-- May a file have this name? -/
def goodM (s : ByteArray) : Bool := s.data.toList.all (fun b => decide (32 ≤ b.toNat ∧ b.toNat ≤ 126)) && (decide (s ≠ ⟨#[]⟩) && decide (s.size ≤ 32))
theorem good_bad {s : ByteArray} {k : Nat} {b : UInt8} (hb : s.data[k]? = some b) (h : ¬ (32 ≤ b.toNat ∧ b.toNat ≤ 126)) : goodM s = false := by
  unfold goodM
  have : s.data.toList.all (fun b => decide (32 ≤ b.toNat ∧ b.toNat ≤ 126)) = false := by
    rw [List.all_eq_false]
    exact ⟨b, List.mem_of_getElem? (by rw [Array.getElem?_toList]; exact hb), by simpa using h⟩
  rw [this, Bool.false_and]
theorem good_all {s : ByteArray} (h : ∀ (k : Nat) (b : UInt8), s.data[k]? = some b → 32 ≤ b.toNat ∧ b.toNat ≤ 126) : goodM s = (decide (s ≠ ⟨#[]⟩) && decide (s.size ≤ 32)) := by
  unfold goodM
  have : s.data.toList.all (fun b => decide (32 ≤ b.toNat ∧ b.toNat ≤ 126)) = true := by
    rw [List.all_eq_true]
    intro b hb
    obtain ⟨k, hk⟩ := List.getElem?_of_mem hb
    exact decide_eq_true (h k b (by rw [← hk, Array.getElem?_toList]))
  rw [this, Bool.true_and]
set_option maxHeartbeats 4000000 in
theorem good_p {H : Heap} {s : ByteArray} (hs : s.size ≤ maxLen) : Pure Tryd.prog 22 #[.string s] H (.bool (goodM s)) := by
  unfold maxLen at hs
  refine FnOk.of_vc Tryd.func22 rfl (Tryd.call22 _) ?_
  (conv => whnf)
  refine VLoop.mk [6] (fun k : Nat => [.int .i64 (k : Int)]) (fun k G => k ≤ s.size ∧ (∀ (i : Nat) (b : UInt8), i < k → s.data[i]? = some b → 32 ≤ b.toNat ∧ b.toNat ≤ 126) ∧ Agr (Old H) H G) (fun k _ => s.size - k) ?_ ?_
  · (conv => whnf)
    exact ⟨0, rfl, Nat.zero_le _, fun i b h => absurd h (Nat.not_lt_zero _), Agr.refl _ _⟩
  · rintro k G junk ⟨hk, hall, hag⟩
    (conv => whnf); refine VIte.mk (fun hz => ?_) (fun hz => ?_) <;> simp only [decide_eq_true_eq, decide_eq_false_iff_not] at hz
    · obtain ⟨b, hb⟩ := byte_at (s := s) (k := k) (by omega)
      have hbl := UInt8.toNat_lt b
      (conv => whnf); refine vidxs strT25 rfl hb ?_
      by_cases h1 : b.toNat < 32
      · have d1 : decide ((b.toNat : Int) < 32) = true := decide_eq_true (by omega)
        (conv => whnf); rw [d1]
        (conv => whnf)
        exact ⟨by rw [good_bad hb (by omega)], hag⟩
      · have d1 : decide ((b.toNat : Int) < 32) = false := decide_eq_false (by omega)
        (conv => whnf); rw [d1]
        (conv => whnf); refine vidxs strT25 rfl hb ?_
        by_cases h2 : 126 < b.toNat
        · have d2 : decide ((b.toNat : Int) > 126) = true := decide_eq_true (by omega)
          (conv => whnf); rw [d2]
          (conv => whnf)
          exact ⟨by rw [good_bad hb (by omega)], hag⟩
        · have d2 : decide ((b.toNat : Int) > 126) = false := decide_eq_false (by omega)
          (conv => whnf); rw [d2]
          (conv => whnf); rw [w64 (x := (k : Int) + 1) (by omega) (by omega)]
          exact ⟨rfl, k + 1, rfl, ⟨by omega, fun i c hi hc => by
            rcases Nat.lt_succ_iff_lt_or_eq.1 hi with h | rfl
            · exact hall i c h hc
            · rw [hb] at hc; cases hc; omega, hag⟩, by omega⟩
    · obtain rfl : k = s.size := by omega
      have hg := good_all (s := s) fun i c hc => hall i c (by
        have := (Array.getElem?_eq_some_iff.1 hc).1
        exact this) hc
      by_cases he : s = ⟨#[]⟩
      · have d1 : (!(s.toList == ByteArray.toList ⟨#[]⟩)) = false := by rw [txt_beq.2 he]; rfl
        (conv => whnf); rw [d1]
        (conv => whnf)
        exact ⟨by rw [hg, decide_eq_false (fun h => h he)]; rfl, hag⟩
      · have d1 : (!(s.toList == ByteArray.toList ⟨#[]⟩)) = true := by rw [txt_bne he]; rfl
        (conv => whnf); rw [d1]
        (conv => whnf)
        refine ⟨?_, hag⟩
        rw [hg, decide_eq_true he, Bool.true_and]
        congr 1
        exact decide_eq_decide.2 (by omega)
set_option maxHeartbeats 4000000 in
theorem rgood_p {H : Heap} {s : ByteArray} (hs : s.size ≤ maxLen) : Pure Tryd.prog 16 #[.string s] H (.bool (goodM s)) := by
  unfold maxLen at hs
  refine FnOk.of_vc Tryd.func16 rfl (Tryd.call16 _) ?_
  by_cases he : s = ⟨#[]⟩
  · have d1 : (s.toList == ByteArray.toList ⟨#[]⟩) = true := txt_beq.2 he
    (conv => whnf); rw [d1]
    (conv => whnf)
    refine ⟨?_, Agr.refl _ _⟩
    subst he
    rfl
  have d1 : (s.toList == ByteArray.toList ⟨#[]⟩) = false := txt_bne he
  (conv => whnf); rw [d1]
  by_cases h32 : 32 < s.size
  · have d2 : decide ((s.size : Int) > 32) = true := decide_eq_true (by omega)
    (conv => whnf); rw [d2]
    (conv => whnf)
    refine ⟨?_, Agr.refl _ _⟩
    unfold goodM
    rw [decide_eq_false (show ¬ s.size ≤ 32 by omega)]
    simp
  have d2 : decide ((s.size : Int) > 32) = false := decide_eq_false (by omega)
  (conv => whnf); rw [d2]
  (conv => whnf)
  refine VLoop.mk [3] (fun k : Nat => [.int .i64 (k : Int)]) (fun k G => k ≤ s.size ∧ (∀ (i : Nat) (b : UInt8), i < k → s.data[i]? = some b → 32 ≤ b.toNat ∧ b.toNat ≤ 126) ∧ Agr (Old H) H G) (fun k _ => s.size - k) ?_ ?_
  · (conv => whnf)
    exact ⟨0, rfl, Nat.zero_le _, fun i b h => absurd h (Nat.not_lt_zero _), Agr.refl _ _⟩
  · rintro k G junk ⟨hk, hall, hag⟩
    (conv => whnf); refine VIte.mk (fun hz => ?_) (fun hz => ?_) <;> simp only [decide_eq_true_eq, decide_eq_false_iff_not] at hz
    · obtain ⟨b, hb⟩ := byte_at (s := s) (k := k) (by omega)
      have hbl := UInt8.toNat_lt b
      (conv => whnf); refine vidxs strT25 rfl hb ?_
      by_cases h1 : b.toNat < 32
      · have d1 : decide ((b.toNat : Int) < 32) = true := decide_eq_true (by omega)
        (conv => whnf); rw [d1]
        (conv => whnf)
        exact ⟨by rw [good_bad hb (by omega)], hag⟩
      · have d1 : decide ((b.toNat : Int) < 32) = false := decide_eq_false (by omega)
        (conv => whnf); rw [d1]
        (conv => whnf); refine vidxs strT25 rfl hb ?_
        by_cases h2 : 126 < b.toNat
        · have d2 : decide ((b.toNat : Int) > 126) = true := decide_eq_true (by omega)
          (conv => whnf); rw [d2]
          (conv => whnf)
          exact ⟨by rw [good_bad hb (by omega)], hag⟩
        · have d2 : decide ((b.toNat : Int) > 126) = false := decide_eq_false (by omega)
          (conv => whnf); rw [d2]
          (conv => whnf); rw [w64 (x := (k : Int) + 1) (by omega) (by omega)]
          exact ⟨rfl, k + 1, rfl, ⟨by omega, fun i c hi hc => by
            rcases Nat.lt_succ_iff_lt_or_eq.1 hi with h | rfl
            · exact hall i c h hc
            · rw [hb] at hc; cases hc; omega, hag⟩, by omega⟩
    · obtain rfl : k = s.size := by omega
      have hg := good_all (s := s) fun i c hc => hall i c (by
        have := (Array.getElem?_eq_some_iff.1 hc).1
        exact this) hc
      (conv => whnf)
      exact ⟨by rw [hg, decide_eq_true he, decide_eq_true (show s.size ≤ 32 by omega)]; rfl, hag⟩
end Go.Proofs.YtfdlhakfmbdamaaDoor
