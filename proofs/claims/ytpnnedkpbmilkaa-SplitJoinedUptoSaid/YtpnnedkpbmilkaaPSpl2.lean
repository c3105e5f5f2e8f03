/- split.Cuts, split.Cut; ints of the laws of layer 10. -/
import Derived.Test.YtpnnedkpbmilkaaPSpl1
set_option linter.unusedVariables false
set_option linter.unusedSimpArgs false
set_option maxRecDepth 100000
namespace Go.Proofs.Ytpnnedkpbmilkaa
open Go.VC
attribute [local irreducible] mRun atRun

/-- The cuts before place n. -/
def cutsTo (oa ob : Option AM) (s : ByteArray) (n : Nat) : List Int := ((List.range n).filter fun i => fromM ob s i 0 && finM oa (runM oa s i)).map fun (i : Nat) => (i : Int)
def cutsM (oa ob : Option AM) (s : ByteArray) : List Int := cutsTo oa ob s (s.size + 1)
theorem cutsTo_succ (oa ob : Option AM) (s : ByteArray) (n : Nat) : cutsTo oa ob s (n + 1) = if (fromM ob s n 0 && finM oa (runM oa s n)) = true then cutsTo oa ob s n ++ [(n : Int)] else cutsTo oa ob s n := by
  unfold cutsTo
  rw [List.range_succ, List.filter_append]
  cases h : (fromM ob s n 0 && finM oa (runM oa s n)) <;> simp [h]
theorem cutsTo_len (oa ob : Option AM) (s : ByteArray) (n : Nat) : (cutsTo oa ob s n).length ≤ n := by
  unfold cutsTo
  rw [List.length_map]
  exact Nat.le_trans (List.length_filter_le _ _) (by simp)

set_option maxHeartbeats 4000000 in
theorem cuts_c {S : Nat → Prop} {H : Heap} {va vb : Value} {oa ob : Option AM} {s : ByteArray} (hS : ∀ k, S k → k < H.size) (ha : AutoV S H va oa) (hb : AutoV S H vb ob) (hs : s.size ≤ 1048576) :
    FnOk Try.prog 40 #[va, vb, .string s] H fun v' H' => Agr (Old H) H H' ∧ H.size ≤ H'.size ∧ ∃ w, v' = .tuple #[w, .int .i64 0] ∧ SlO tI (fun _ => False) H' H.size 3 w (cutsM oa ob s) := by
  have hF : ∀ {H' : Heap}, Agr (Old H) H H' → AutoV S H' va oa := fun k => ha.frame (k.mono hS)
  have hL : ∀ {H' : Heap}, Agr (Old H) H H' → ∀ k, S k → k < H'.size := fun h k hk => old_lt h (hS k hk)
  refine FnOk.of_vc Try.func40 rfl (Try.call40 _) ?_
  have d0 : decide ((1048576 : Int) < (s.size : Int)) = false := decide_eq_false (by omega)
  (conv => whnf); rw [d0]
  (conv => whnf); refine VCall.mk (tails_c hS hb (by omega)) ?_
  rintro v1 H1 ⟨hA1, hs1, tb, rfl, ht⟩
  (conv => whnf)
  refine VLoop.mk [9, 10, 21] (fun x : Nat × Value => match x with | (n, w) => [w, .int .i64 (runM oa s (min n s.size)), .int .i64 n]) (fun x H2 => x.1 ≤ s.size + 1 ∧ Agr (Old H1) H1 H2 ∧ H1.size ≤ H2.size ∧ SlO tI (fun _ => False) H2 H1.size 3 x.2 (cutsTo oa ob s x.1)) (fun x _ => s.size + 1 - x.1) ?_ ?_
  · (conv => whnf)
    exact ⟨(0, .slice none 0 0), by simp [runM], by simp, Agr.refl _ _, Nat.le_refl _, SlO.nil⟩
  · rintro ⟨n, w⟩ H2 junk ⟨hn, ha2, hs2, hw⟩
    simp only at hn hw
    have hA2 := hA1.trans (ha2.mono fun k hk => old_lt hA1 hk)
    (conv => whnf); refine VIte.mk (fun h => ?_) (fun h => ?_) <;> simp only [decide_eq_true_eq, decide_eq_false_iff_not] at h
    · have hns : n ≤ s.size := by omega
      rw [Nat.min_eq_left hns]
      have hget : (tailsL ob s s.size)[n]? = some (fromM ob s n 0) := by rw [tailsL_get ob s s.size (by omega), decide_eq_true (by omega)]; rfl
      have ht2 := ht.agr ha2 (fun j hj => (ht.lt hj).2) (fun _ f => f.elim)
      have hcell : VC.cell H2 tb (0 + n * 1) = some (.bool (fromM ob s n 0)) := by
        obtain ⟨-, -, -, _, _, _, hg, _⟩ := ht2.placeS (i := n) (by rw [tailsL_len]; omega)
        obtain ⟨c, hc, rfl⟩ := hg _ hget
        have := hc.one
        rw [show n * tBool.size = n from Nat.mul_one n] at this
        simpa using this
      have hlen := cutsTo_len oa ob s n
      -- behind the test
      have tail : ∀ {H3 : Heap} {w3 : Value}, Agr (Old H1) H1 H3 → H1.size ≤ H3.size → SlO tI (fun _ => False) H3 H1.size 3 w3 (cutsTo oa ob s (n + 1)) →
          (n + 1 ≤ s.size + 1 ∧ Agr (Old H1) H1 H3 ∧ H1.size ≤ H3.size ∧ SlO tI (fun _ => False) H3 H1.size 3 w3 (cutsTo oa ob s (n + 1))) := fun h1 h2 h3 => ⟨by omega, h1, h2, h3⟩
      (conv => whnf); refine VSeq.run ?_
      (conv => whnf); refine ix sl24 (by omega) (by omega) ?_
      (conv => whnf); refine ld1 (v := .bool (fromM ob s n 0)) ct4 (by rw [Int.toNat_natCast]; exact hcell) trivial ?_
      have stepp : ∀ {H3 : Heap} {K : Value → Heap → Prop} {b : UInt8}, s.data[n]? = some b → Agr (Old H1) H1 H3 → (∀ H4, Agr (Old H1) H1 H4 → Agr (Old H3) H3 H4 → H3.size ≤ H4.size → K (.int .i64 (runM oa s (n + 1))) H4) → VCall Try.prog 21 #[va, .int .i64 (runM oa s n), .int .u8 (b.toNat : Int)] H3 K := fun hb h1 k => by
        have h0 := hA1.trans (h1.mono fun k hk => old_lt hA1 hk)
        refine pures (step_p (hL h0) (hF h0) (UInt8.toNat_lt _)) fun H4 ha4 => ?_
        rw [← runM_succ hb]
        exact k H4 (h1.trans (ha4.mono fun k hk => old_lt h1 hk)) ha4 (old_size ha4)
      cases hfr : fromM ob s n 0 with
      | false =>
        have hc : cutsTo oa ob s (n + 1) = cutsTo oa ob s n := by rw [cutsTo_succ, hfr]; rfl
        (conv => whnf); refine VSeq.run ?_
        by_cases hlt : n < s.size
        · obtain ⟨b, hb⟩ := get_byte hlt
          have d1 : decide ((n : Int) < (s.size : Int)) = true := decide_eq_true (by omega)
          (conv => whnf); rw [d1]
          (conv => whnf); refine vidxs strT rfl hb ?_
          (conv => whnf); refine stepp hb ha2 fun H4 h14 h24 hsz4 => ?_
          (conv => whnf); rw [w64 (x := (n : Int) + 1) (by omega) (by omega)]
          exact ⟨rfl, (n + 1, w), by simp only; rw [Nat.min_eq_left (by omega)]; simp, tail h14 (by omega) (by rw [hc]; exact hw.agr h24 (fun j hj => (hw.lt hj).2) (fun _ f => f.elim)), by simp only; omega⟩
        · have d1 : decide ((n : Int) < (s.size : Int)) = false := decide_eq_false (by omega)
          (conv => whnf); rw [d1]
          (conv => whnf); rw [w64 (x := (n : Int) + 1) (by omega) (by omega)]
          exact ⟨rfl, (n + 1, w), by simp only; rw [Nat.min_eq_right (by omega), show n = s.size by omega]; simp, tail ha2 hs2 (by rw [hc]; exact hw), by simp only; omega⟩
      | true =>
        (conv => whnf); refine VSeq.run ?_
        (conv => whnf); refine pures (final_p (hF hA2)) fun H3 ha3 => ?_
        have h13 := ha2.trans (ha3.mono fun k hk => old_lt ha2 hk)
        have hs3 := old_size ha3
        have hw3 := hw.agr ha3 (fun j hj => (hw.lt hj).2) (fun _ f => f.elim)
        cases hfi : finM oa (runM oa s n) with
        | false =>
          have hc : cutsTo oa ob s (n + 1) = cutsTo oa ob s n := by rw [cutsTo_succ, hfr, hfi]; rfl
          by_cases hlt : n < s.size
          · obtain ⟨b, hb⟩ := get_byte hlt
            have d1 : decide ((n : Int) < (s.size : Int)) = true := decide_eq_true (by omega)
            (conv => whnf); rw [d1]
            (conv => whnf); refine vidxs strT rfl hb ?_
            (conv => whnf); refine stepp hb h13 fun H4 h14 h34 hsz4 => ?_
            (conv => whnf); rw [w64 (x := (n : Int) + 1) (by omega) (by omega)]
            exact ⟨rfl, (n + 1, w), by simp only; rw [Nat.min_eq_left (by omega)]; simp, tail h14 (by omega) (by rw [hc]; exact hw3.agr h34 (fun j hj => (hw3.lt hj).2) (fun _ f => f.elim)), by simp only; omega⟩
          · have d1 : decide ((n : Int) < (s.size : Int)) = false := decide_eq_false (by omega)
            (conv => whnf); rw [d1]
            (conv => whnf); rw [w64 (x := (n : Int) + 1) (by omega) (by omega)]
            exact ⟨rfl, (n + 1, w), by simp only; rw [Nat.min_eq_right (by omega), show n = s.size by omega]; simp, tail h13 (by omega) (by rw [hc]; exact hw3), by simp only; omega⟩
        | true =>
          have hc : cutsTo oa ob s (n + 1) = cutsTo oa ob s n ++ [(n : Int)] := by rw [cutsTo_succ, hfr, hfi]; rfl
          (conv => whnf); refine vbuild1 sl35 [.int .i64 (n : Int)] rfl rfl (by decide) (by decide) ?_
          intro q4 H4 hq4 hs4 hb4 ha4
          have hw4 := hw3.agr ha4 (fun j hj => by have := (hw3.lt hj).2; omega) (fun _ f => f.elim)
          (conv => whnf); refine vappendO (T := tI) (S := fun _ => False) (ys := [(n : Int)]) (ds := [.int .i64 (n : Int)]) (lo := H1.size) (xs := cutsTo oa ob s n) sl35 hw4 (by omega) (fun j hj => hj.elim)
              (hb4.cells (fun j v hv => by simpa using hv)) (Ty.reps_one ⟨rfl, inI64 (by omega)⟩) rfl (by intro u hu; cases List.mem_singleton.1 hu; rfl) (by simp only [maxLen, List.length_singleton]; omega) (by simp only [List.length_singleton]; omega) ?_
          intro w5 H5 hw5 ha5 hs5 hfr5
          rw [← hc] at hw5
          have h15 : Agr (Old H1) H1 H5 := (h13.trans (ha4.mono fun k hk => by have := old_lt h13 hk; omega)).trans (ha5.mono fun k hk => ⟨by have := old_lt h13 hk; omega, fun hb => by have := (hw4.lt hb).1; unfold Old at hk; omega⟩)
          by_cases hlt : n < s.size
          · obtain ⟨b, hb⟩ := get_byte hlt
            have d1 : decide ((n : Int) < (s.size : Int)) = true := decide_eq_true (by omega)
            (conv => whnf); rw [d1]
            (conv => whnf); refine vidxs strT rfl hb ?_
            (conv => whnf); refine stepp hb h15 fun H6 h16 h56 hsz6 => ?_
            (conv => whnf); rw [w64 (x := (n : Int) + 1) (by omega) (by omega)]
            exact ⟨rfl, (n + 1, w5), by simp only; rw [Nat.min_eq_left (by omega)]; simp, tail h16 (by omega) (hw5.agr h56 (fun j hj => (hw5.lt hj).2) (fun _ f => f.elim)), by simp only; omega⟩
          · have d1 : decide ((n : Int) < (s.size : Int)) = false := decide_eq_false (by omega)
            (conv => whnf); rw [d1]
            (conv => whnf); rw [w64 (x := (n : Int) + 1) (by omega) (by omega)]
            exact ⟨rfl, (n + 1, w5), by simp only; rw [Nat.min_eq_right (by omega), show n = s.size by omega]; simp, tail h15 (by omega) hw5, by simp only; omega⟩
    · obtain rfl : n = s.size + 1 := by omega
      (conv => whnf)
      exact ⟨hA2, by omega, w, rfl, hw.lower (by omega)⟩

end Go.Proofs.Ytpnnedkpbmilkaa
