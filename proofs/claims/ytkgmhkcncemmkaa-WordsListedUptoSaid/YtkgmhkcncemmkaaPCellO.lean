/- dfa.Cells, as memory of the call's own. -/
import Derived.Test.YtkgmhkcncemmkaaPLaw5
set_option linter.unusedVariables false
set_option linter.unusedSimpArgs false
set_option maxRecDepth 100000
namespace Go.Proofs.Ytkgmhkcncemmkaa
open Go.VC
attribute [local irreducible] mRun

/-! ### dfa.Cells, as memory of the call's own -/
theorem cells_o {S : Nat → Prop} {H : Heap} {v : Value} {o : Option AM} (hS : ∀ k, S k → k < H.size) (h : AutoV S H v o) :
    FnOk Try.prog 50 #[v] H fun v' H' => Agr (Old H) H H' ∧ H.size ≤ H'.size ∧ SlO tSet (fun _ => False) H' H.size 78 v' (cellsM o) := by
  refine FnOk.of_vc Try.func50 rfl (Try.call50 _) ?_
  cases o with
  | none =>
    obtain rfl := h
    (conv => whnf); refine peqN ptrA ?_
    (conv => whnf); refine pures (span_p 0 255 (by decide) (by decide) H) fun H1 ha1 => ?_
    rw [spanS_full]
    have hs1 := old_size ha1
    (conv => whnf); refine vbuild1 sl80 (setL (BitVec.allOnes 256)) rfl rfl (by decide) (by decide) ?_
    intro b H2 hb hs2 hb2 ha2
    (conv => whnf)
    exact ⟨ha1.trans (ha2.mono fun k hk => by unfold Old at hk; omega), by omega, SlO.ofBlk (by omega) hb2 (Ty.reps_one rfl) rfl (by decide)⟩
  | some A =>
    obtain ⟨pb, rfl, hown, hok, ac, cc, an, cn, af, cf, aa, ca, al, hb, hsets, hnext, hfin, hal, hall, hlive⟩ := h
    have hcl : A.cell.length ≤ 256 := Nat.le_of_eq hok.cell
    have hsl := hok.sl
    (conv => whnf); refine peqS ptrA ?_
    (conv => whnf); refine VC.fa fl102_0 ?_
    (conv => whnf); refine ld1 ct80 (by rw [hb.cell]; exact autoL_0) trivial ?_
    (conv => whnf); refine vappendD (T := tSet) (S := S) (lo := H.size) (xs := []) sl80 tSet_ones SlO.nil (Nat.le_refl _) (fun k hk => ⟨hS k hk, ?_⟩) hsets (by simp only [maxLen, List.length_nil]; omega) (by simp only [List.length_nil]; omega) ?_
    · rintro ⟨o, n, c, h⟩; cases h
    intro v2 H2 hown2 ha2 hs2 _
    rw [List.nil_append] at hown2
    (conv => whnf)
    exact ⟨ha2.mono fun k hk => ⟨hk, fun hb => by obtain ⟨o, n, c, h⟩ := hb; cases h⟩, hs2, hown2.free tSet_free⟩

end Go.Proofs.Ytkgmhkcncemmkaa
