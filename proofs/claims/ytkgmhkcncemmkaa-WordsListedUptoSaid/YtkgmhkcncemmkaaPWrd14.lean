/- The law WordsNths: its walk. -/
import Derived.Test.YtkgmhkcncemmkaaPWrd13
import Derived.Test.YtkgmhkcncemmkaaPRefB
set_option linter.unusedVariables false
set_option linter.unusedSimpArgs false
set_option maxRecDepth 100000
namespace Go.Proofs.Ytkgmhkcncemmkaa
open Go.VC
attribute [local irreducible] mRun gRun atRun

set_option maxHeartbeats 4000000 in
theorem wordsNths_p (v : Value) (cells : List (BitVec 256)) (next : List (List Int)) (final : List Bool) (n i : Int) (S : Nat → Prop) (H : Heap) (ht : TabIn S H v cells next final) (hi : i ≤ 9223372036854775807) :
    Pure Try.prog 6 #[v, .int .i64 n, .int .i64 i] H (.bool true) := by
  refine FnOk.of_vc Try.func6 rfl (Try.call6 _) ?_
  (conv => whnf); refine tab_box ht fun l hl hv => ?_
  intro p H1 hp hs1 hb1 ha1
  have st1 := (St.nil H).box hp hs1 hb1 ha1
  (conv => whnf); refine pures (speaks08_p H1) fun H3 ha3 => ?_
  have st3 := st1.call ha3
  (conv => whnf); refine tab_load hl hv (st3.blk 0 rfl) trivial ?_
  (conv => whnf); refine VCall.mk (auto08_c v cells next final S H3 (ht.frame st3.old)) ?_
  rintro va H4 ⟨ha4, hs4, hva⟩
  have st4 := st3.call ha4
  obtain ⟨ls, hc⟩ := cells_ok cells next final
  have hoa := both_of cells next final
  generalize hoe : autoOf cells next final = oa at *
  generalize hAe : dfaOf cells next final = A at *
  have hst := stepIn_ hva
  (conv => whnf); refine pures (nthW_p (S := Old H4) n i hi (fun k hk => hk) (hva.mono fun k hk => hk.2) hc) fun H5 ha5 => ?_
  have st5 := st4.call ha5
  (conv => whnf); refine tab_load hl hv (st5.blk 0 rfl) trivial ?_
  (conv => whnf); refine VCall.mk (made_c v cells next final S H5 (ht.frame st5.old)) ?_
  rintro vA H6 ⟨ha6, hs6, hA⟩
  have st6 := st5.call ha6
  rw [hAe] at hA
  (conv => whnf); refine pures (refnth_p (S := Old H6) n i hi (fun k hk => hk) (hA.mono fun k hk => hk.2) hoa hst) fun H7 ha7 => ?_
  have st7 := st6.call ha7
  obtain ⟨c, e, hce⟩ : ∃ c e, nthR oa n i = (c, e) := ⟨_, _, rfl⟩
  rw [hce]
  have d1 : (c.toList == c.toList) = true := by simp
  have d2 : (e == e) = true := by simp
  (conv => whnf); rw [d1]
  (conv => whnf); rw [d2]
  (conv => whnf)
  exact ⟨rfl, st7.old⟩
end Go.Proofs.Ytkgmhkcncemmkaa
