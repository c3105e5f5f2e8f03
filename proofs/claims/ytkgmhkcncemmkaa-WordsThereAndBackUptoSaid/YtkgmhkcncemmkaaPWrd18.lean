/- The law WordsThereAndBack: its walk. -/
import Derived.Test.YtkgmhkcncemmkaaPWrd17
set_option linter.unusedVariables false
set_option linter.unusedSimpArgs false
set_option maxRecDepth 100000
namespace Go.Proofs.Ytkgmhkcncemmkaa
open Go.VC
attribute [local irreducible] mRun gRun atRun

set_option maxHeartbeats 4000000 in
theorem wordsThere_p (v : Value) (cells : List (BitVec 256)) (next : List (List Int)) (final : List Bool) (s : ByteArray) (n i : Int) (S : Nat → Prop) (H : Heap) (ht : TabIn S H v cells next final) (hs : s.size ≤ 1048576) (hi : i ≤ 9223372036854775807) :
    Pure Try.prog 9 #[v, .string s, .agg #[.int .i64 n, .int .i64 i]] H (.bool true) := by
  refine FnOk.of_vc Try.func9 rfl (Try.call9 _) ?_
  (conv => whnf); refine tab_box ht fun l hl hv => ?_
  intro p H1 hp hs1 hb1 ha1
  have st1 := (St.nil H).box hp hs1 hb1 ha1
  (conv => whnf); refine vbox [.int .i64 n, .int .i64 i] rfl ?_
  intro p2 H2 hp2 hs2 hb2 ha2
  have st2 := st1.box hp2 hs2 hb2 ha2
  (conv => whnf); refine pures (speaks08_p H2) fun H3 ha3 => ?_
  have st3 := st2.call ha3
  have hb3 := st3.blk 1 rfl
  (conv => whnf); refine VDraw.held (Old H3) 5 (sq [0,1,2,3,4] (.f 5 .e)) rfl (by kernel_rfl) ?_
  (conv => whnf); refine ixa (i := 0) ar63 (by decide) (by decide) ?_
  (conv => whnf); refine ld1 ct3 (by rw [hb3.cell]; rfl) hb3.lt ?_
  (conv => whnf); refine ixa (i := 1) ar63 (by decide) (by decide) ?_
  (conv => whnf); refine ld1 ct3 (by rw [hb3.cell]; rfl) hb3.lt ?_
  (conv => whnf); refine tab_load hl hv (st3.blk 0 rfl) trivial ?_
  (conv => whnf); refine VCall.mk (auto08_c v cells next final S H3 (ht.frame st3.old)) ?_
  rintro va H4 ⟨ha4, hs4, hva⟩
  have st4 := st3.call ha4
  obtain ⟨ls, hc⟩ := cells_ok cells next final
  generalize hoe : autoOf cells next final = oa at *
  have hst := stepIn_ hva
  have hva4 : AutoV (Old H4) H4 va oa := hva.mono fun k hk => hk.2
  have up : ∀ {H' : Heap}, Agr (Old H4) H4 H' → ∀ k, Old H4 k → k < H'.size := fun h k hk => old_lt h hk
  have done : ∀ {H' : Heap}, Agr (Old H4) H4 H' → Agr (Old H) H H' := fun h => st4.old.trans (h.mono fun k hk => st4.up hk)
  (conv => whnf); refine pures (nthW_p (S := Old H4) n i hi (fun k hk => hk) hva4 hc) fun H5 ha5 => ?_
  have st5 := (St.nil H4).call ha5
  (conv => whnf); refine VSeq.cut (α := Unit) [] (fun _ => []) (fun _ H6 => St H4 H6 []) ?_ fun _ H6 junk6 st6 => ?_
  · by_cases h1 : n < 0 ∨ 64 < n ∨ i < 0
    · have e : nthR oa n i = (⟨#[]⟩, 2) := if_pos h1
      rw [e]
      (conv => whnf)
      exact ⟨rfl, (), rfl, st5⟩
    · obtain ⟨m, rfl⟩ := Int.eq_ofNat_of_zero_le (show 0 ≤ n by omega)
      obtain ⟨j, rfl⟩ := Int.eq_ofNat_of_zero_le (show 0 ≤ i by omega)
      by_cases h2 : wN oa m 0 ≤ j
      · have e : nthR oa (m : Int) (j : Int) = (⟨#[]⟩, 3) := by
          unfold nthR
          rw [if_neg h1, Int.toNat_natCast, Int.toNat_natCast, if_pos h2]
        rw [e]
        (conv => whnf)
        exact ⟨rfl, (), rfl, st5⟩
      · have e : nthR oa (m : Int) (j : Int) = (⟨((nthL oa m 0 j).map UInt8.ofNat).toArray⟩, 0) := by
          unfold nthR
          rw [if_neg h1, Int.toNat_natCast, Int.toNat_natCast, if_neg h2]
        obtain ⟨t1, t2, t3⟩ := there_ oa (n := m) (i := j) (by omega) (by omega) (by unfold TM; omega)
        rw [e]
        generalize (⟨((nthL oa m 0 j).map UInt8.ofNat).toArray⟩ : ByteArray) = w at *
        (conv => whnf); refine pures (rankW_p (S := Old H4) (s := w) (by omega) (up st5.old) (hva4.frame st5.old) hc) fun H7 ha7 => ?_
        have st7 := st5.call ha7
        rw [t3]
        have d1 : (((j : Nat) : Int) != ((j : Nat) : Int)) = false := by simp
        have d2 : ((w.size : Int) != ((m : Nat) : Int)) = false := by rw [t2]; simp
        (conv => whnf); rw [d1]
        (conv => whnf); rw [d2]
        have hwl : w.size ≤ maxLen := by rw [t2]; unfold maxLen; omega
        (conv => whnf); refine pures (accepts_p (S := Old H4) (up st7.old) (hva4.frame st7.old) hwl) fun H8 ha8 => ?_
        have st8 := st7.call ha8
        rw [t1]
        (conv => whnf); refine pures (countW_p (S := Old H4) (m : Int) (up st8.old) (hva4.frame st8.old) hc) fun H9 ha9 => ?_
        have st9 := st8.call ha9
        have hcr : countR oa (m : Int) = if wN oa m 0 < TM then (((wN oa m 0 : Nat) : Int), (0 : Int)) else (0, 4) := by
          unfold countR
          rw [if_neg (by omega), Int.toNat_natCast]
        by_cases h3 : wN oa m 0 < TM
        · rw [hcr, if_pos h3]
          have d3 : decide (((wN oa m 0 : Nat) : Int) ≤ ((j : Nat) : Int)) = false := decide_eq_false (by omega)
          (conv => whnf); rw [d3]
          (conv => whnf)
          exact ⟨rfl, (), rfl, st9⟩
        · rw [hcr, if_neg h3]
          (conv => whnf)
          exact ⟨rfl, (), rfl, st9⟩
  · (conv => whnf); refine pures (rankW_p (S := Old H4) hs (up st6.old) (hva4.frame st6.old) hc) fun H7 ha7 => ?_
    have st7 := st6.call ha7
    by_cases h1 : 64 < s.size
    · have e : rankR oa s = (0, 1) := if_pos h1
      have d1 : decide ((s.size : Int) ≤ 64) = false := decide_eq_false (by omega)
      rw [e]
      (conv => whnf); rw [d1]
      (conv => whnf)
      exact ⟨rfl, done st7.old⟩
    · have d1 : decide ((s.size : Int) ≤ 64) = true := decide_eq_true (by omega)
      have hR : rankR oa s = if acceptsM oa s then (if rk oa s s.size < TM then (((rk oa s s.size : Nat) : Int), (0 : Int)) else (0, 4)) else (0, 3) := by
        unfold rankR; rw [if_neg h1]
      have hcall := accepts_p (S := Old H4) (s := s) (up st7.old) (hva4.frame st7.old) (by unfold maxLen; omega)
      cases hacc : acceptsM oa s with
      | false =>
        rw [hacc] at hR hcall
        rw [hR]
        (conv => whnf); rw [d1]
        (conv => whnf); refine pures hcall fun H8 ha8 => ?_
        have st8 := st7.call ha8
        (conv => whnf); refine beq_b Try.underlying4 ?_
        (conv => whnf)
        exact ⟨rfl, done st8.old⟩
      | true =>
        rw [hacc] at hR hcall
        rw [if_pos rfl] at hR
        by_cases h3 : rk oa s s.size < TM
        · rw [if_pos h3] at hR
          have hb := back_ oa h1 hacc h3
          rw [hR]
          (conv => whnf); rw [d1]
          (conv => whnf); refine pures hcall fun H8 ha8 => ?_
          have st8 := st7.call ha8
          (conv => whnf); refine beq_b Try.underlying4 ?_
          (conv => whnf); refine pures (nthW_p (S := Old H4) (s.size : Int) ((rk oa s s.size : Nat) : Int) (by unfold TM at h3; omega) (up st8.old) (hva4.frame st8.old) hc) fun H9 ha9 => ?_
          have st9 := st8.call ha9
          rw [hb]
          have d2 : (s.toList == s.toList) = true := by simp
          (conv => whnf); rw [d2]
          (conv => whnf)
          exact ⟨rfl, done st9.old⟩
        · rw [if_neg h3] at hR
          rw [hR]
          (conv => whnf); rw [d1]
          (conv => whnf); refine pures hcall fun H8 ha8 => ?_
          have st8 := st7.call ha8
          (conv => whnf); refine beq_b Try.underlying4 ?_
          (conv => whnf)
          exact ⟨rfl, done st8.old⟩
end Go.Proofs.Ytkgmhkcncemmkaa
