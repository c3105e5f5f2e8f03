/- Copies of a table's parts: the laws' cells, the document's Rows. -/
import Derived.Test.YtkgmhkcncemmkaaPLaw5
import Derived.Test.YtkgmhkcncemmkaaVMem
set_option linter.unusedVariables false
set_option linter.unusedSimpArgs false
set_option maxRecDepth 100000
namespace Go.Proofs.Ytkgmhkcncemmkaa
open Go.VC
attribute [local irreducible] mRun

theorem zero_set (S : Nat → Prop) (H : Heap) : tSet.rep S H ((Try.t78.zero.getD undef).cells.toList) 0#256 := by
  show _ = setL 0#256
  kernel_rfl
theorem rows_c (na : Option Addr) (nc : Nat) (next : List (List Int)) (S : Nat → Prop) (H : Heap) (hS : ∀ k, S k → k < H.size) (hc : SlD tRows S H na nc next) (hn : next.length ≤ 4194304) (hr : ∀ row ∈ next, row.length ≤ 4194304) :
    FnOk Try.prog 43 #[.slice na next.length nc] H fun v H' => Agr (Old H) H H' ∧ H.size ≤ H'.size ∧ ∃ b vs, v = .slice (some ⟨b, 0, none⟩) next.length next.length ∧ H.size ≤ b ∧
      Tab tI (fun _ => False) H' (b + 1) 3 b 36 vs next := by
  refine FnOk.of_vc Try.func43 rfl (Try.call43 _) ?_
  (conv => whnf); refine vmake1 sl23 rfl (by omega) (by omega) (by omega) (by omega) ?_
  intro nb H2 hnb hs2 hb2 ha2
  rw [Int.toNat_natCast] at hb2
  (conv => whnf)
  refine VLoop.mk [4] (fun k : Nat => [.int .i64 k]) (fun k H3 => k ≤ next.length ∧ Agr (fun j => j < H2.size ∧ j ≠ nb) H2 H3 ∧ H2.size ≤ H3.size ∧
    ∃ vs, Tab tI (fun _ => False) H3 (nb + 1) 3 nb 36 vs (next.take k ++ List.replicate (next.length - k) []) ∧ ∀ j, k ≤ j → j < next.length → vs[j]? = some (.slice none 0 0)) (fun k _ => next.length - k) ?_ ?_
  · (conv => whnf)
    refine ⟨0, rfl, by omega, Agr.refl _ _, by omega, List.replicate next.length (.slice none 0 0), ?_, fun j _ hj => by rw [List.getElem?_replicate, if_pos hj]⟩
    rw [fill_beg]
    exact Tab.new hb2 (by omega)
  · rintro k H3 junk ⟨hk, ha3, hs3, vs, htab, hvs⟩
    (conv => whnf); refine VIte.mk (fun h => ?_) (fun h => ?_) <;> simp only [decide_eq_true_eq, decide_eq_false_iff_not] at h
    · obtain ⟨row, hrow⟩ := get_some (l := next) (k := k) (by omega)
      have hrl := hr row (List.mem_of_getElem? hrow)
      have hv := hvs k (Nat.le_refl _) (by omega)
      have hA : Agr (Old H) H H3 := (ha2.mono fun j hj => by unfold Old at hj; omega).trans (ha3.mono fun j hj => by unfold Old at hj; omega)
      (conv => whnf); refine vbuild0 sl36 ?_
      intro q4 H4 hq4 hs4 hb4 ha4
      have hA4 := hA.trans (ha4.mono fun j hj => by unfold Old at hj; omega)
      (conv => whnf); refine ixr sl23 (hc.frame (hA4.mono hS)) hrow rfl ?_
      rintro b5 o5 cs5 hSb5 hcells5 ⟨ra, rc, rfl, hrow5⟩
      (conv => whnf); refine ld1 ct36 hcells5.one trivial ?_
      have hnb4 : nb < H4.size := by omega
      (conv => whnf); refine vappendD (T := tI) (S := fun j => j < H.size) (lo := nb + 1) (xs := []) sl36 (tInt_ones _) (SlO.empty (by omega) hb4) (by omega) (fun j hj => ⟨by omega, ?_⟩) (hrow5.mono hS) (by simp only [maxLen, List.length_nil]; omega) (by simp only [List.length_nil]; omega) ?_
      · rintro ⟨o, n, c, e⟩; cases e; omega
      intro v6 H6 hown6 ha6 hs6 hfresh6
      rw [List.nil_append] at hown6
      have htab4 := htab.agr ha4 (by omega) (fun b _ hb => by omega) (fun _ h => h.elim)
      have hq : ∀ j, slB (.slice (some ⟨q4, 0, none⟩) 0 0) j → j = q4 := by rintro j ⟨o, n, c, e⟩; cases e; rfl
      have hvl : k < vs.length := (List.getElem?_eq_some_iff.1 hv).1
      (conv => whnf); refine ix sl23 (by omega) (by omega) ?_
      (conv => whnf); refine st1 ct36 (htab4.blk.agr ha6 ⟨by omega, fun hb => by have := hq _ hb; omega⟩) (by simpa using hvl) hown6.one ?_
      intro H7 hb7 ha7 hs7
      rw [show 0 + (k : Int).toNat * 1 = k by omega] at hb7
      have h46 : Agr (fun j => j < H4.size ∧ j ≠ q4) H4 H6 := ha6.mono fun j hj => ⟨hj.1, fun hb => hj.2 (hq _ hb)⟩
      have h36 : Agr (fun j => j < H3.size ∧ ¬ slB (.slice none 0 0) j) H3 H6 := (ha4.mono fun j hj => by omega).trans (h46.mono fun j hj => by omega)
      have htab7 := htab.push hv (hown6.free (tInt_free _)) h36 (fun j hj => by
        rcases hfresh6 j hj with h | h
        · have := hq j h; omega
        · omega) hb7 ha7 (fun j hj => hj.elim)
      rw [fill_set hrow] at htab7
      (conv => whnf); rw [w64 (x := (k : Int) + 1) (by omega) (by omega)]
      refine ⟨rfl, k + 1, by simp, ⟨by omega, ?_, by omega, _, htab7, fun j hj1 hj2 => ?_⟩, by omega⟩
      · exact ((ha3.trans (ha4.mono fun j hj => by omega)).trans (h46.mono fun j hj => by omega)).trans (ha7.mono fun j hj => hj.2)
      · rw [List.getElem?_set_ne (by omega)]
        exact hvs j (by omega) hj2
    · obtain rfl : k = next.length := by omega
      rw [fill_end] at htab
      (conv => whnf)
      exact ⟨(ha2.mono fun j hj => by unfold Old at hj; omega).trans (ha3.mono fun j hj => by unfold Old at hj; omega), by omega, nb, vs, rfl, by omega, htab⟩

end Go.Proofs.Ytkgmhkcncemmkaa
