/- dfa.Cells; two and speaks of the laws of layer 5. -/
import Derived.Test.YtkgmhkcncemmkaaPAuto
import Derived.Test.YtkgmhkcncemmkaaVMem
set_option linter.unusedVariables false
set_option linter.unusedSimpArgs false
set_option maxRecDepth 100000
namespace Go.Proofs.Ytkgmhkcncemmkaa
open Go.VC
def twoM : AM := madeM [BitVec.allOnes 256] [[1], [0]] [false, true]
theorem two_sound : soundB [BitVec.allOnes 256] [[1], [0]] 2 = true := by rfl
theorem two_n : stN (some twoM) = 2 := rfl
theorem two_a : acceptsM (some twoM) ⟨#[97]⟩ = true := by kernel_rfl
theorem two_ab : acceptsM (some twoM) ⟨#[97, 98]⟩ = false := by kernel_rfl
theorem two_next : twoM.next = [[1], [0]] := by kernel_rfl
open Classical in
theorem two_alive : aliveM (some twoM) 0 = true := by
  have h1 : twoM.final[1]? = some true := rfl
  have h0 : LiveT twoM.next twoM.final 0 := .step (t := 1) (row := [1]) (by rw [two_next]; rfl) (List.mem_singleton.2 rfl) (.fin h1)
  simp only [aliveM]
  exact decide_eq_true h0
attribute [local irreducible] mRun

theorem tSet_ones : tSet.Ones := by
  intro S H cs x h u hu
  obtain rfl := h
  simp [setL] at hu
  rcases hu with rfl | rfl | rfl | rfl <;> rfl
theorem tSet_free : tSet.Free := fun S S' H H' cs x h => h
theorem SlD.ofBlk {α : Type} {T : Ty α} {S : Nat → Prop} {H : Heap} {b n : Nat} {e : TypeId} {l : List Value} {xs : List α} (hb : Blk H b e l) (hS : S b) (hr : T.reps S H l xs) (hn : n = xs.length) (hm : n ≤ maxLen) : SlD T S H (some ⟨b, 0, none⟩) n xs :=
  SlD.intro hS (Nat.le_of_eq hn.symm) hm (hb.cells (fun j v hv => by rw [Nat.zero_add]; exact hv)) hr
def cellsM : Option AM → List (BitVec 256)
  | none => [BitVec.allOnes 256]
  | some A => A.sets
def Fresh (H H' : Heap) (k : Nat) : Prop := H.size ≤ k ∧ k < H'.size
theorem cells_c {S : Nat → Prop} {H : Heap} {v : Value} {o : Option AM} (hS : ∀ k, S k → k < H.size) (h : AutoV S H v o) :
    FnOk Try.prog 50 #[v] H fun v' H' => Agr (Old H) H H' ∧ H.size ≤ H'.size ∧ ∃ a cap, v' = .slice a (cellsM o).length cap ∧ SlD tSet (Fresh H H') H' a cap (cellsM o) := by
  refine FnOk.of_vc Try.func50 rfl (Try.call50 _) ?_
  cases o with
  | none =>
    obtain rfl := h
    (conv => whnf); refine peqN ptrA ?_
    (conv => whnf); refine pures (span_p 0 255 (by decide) (by decide) H) fun H1 ha1 => ?_
    rw [spanS_full]
    have hs1 := old_size ha1
    (conv => whnf); refine vbuild1 sl80 (setL (BitVec.allOnes 256)) rfl rfl (by decide) (by decide) ?_
    intro b H2 hb hs2 hb2 ha2
    (conv => whnf)
    exact ⟨ha1.trans (ha2.mono fun k hk => by unfold Old at hk; omega), by omega, _, _, rfl, SlD.ofBlk hb2 ⟨by omega, by omega⟩ (Ty.reps_one rfl) rfl (by decide)⟩
  | some A =>
    obtain ⟨pb, rfl, hown, hok, ac, cc, an, cn, af, cf, aa, ca, al, hb, hsets, hnext, hfin, hal, hall, hlive⟩ := h
    have hcl : A.cell.length ≤ 256 := Nat.le_of_eq hok.cell
    have hsl := hok.sl
    (conv => whnf); refine peqS ptrA ?_
    (conv => whnf); refine fa fl102_0 ?_
    (conv => whnf); refine ld1 ct80 (by rw [hb.cell]; exact autoL_0) trivial ?_
    (conv => whnf); refine vappendD (T := tSet) (S := S) (lo := H.size) (xs := []) sl80 tSet_ones SlO.nil (Nat.le_refl _) (fun k hk => ⟨hS k hk, ?_⟩) hsets (by simp only [maxLen, List.length_nil]; omega) (by simp only [List.length_nil]; omega) ?_
    · rintro ⟨o, n, c, h⟩; cases h
    intro v2 H2 hown2 ha2 hs2 _
    rw [List.nil_append] at hown2
    have hown2' : SlO tSet (fun _ => False) H2 H.size 78 v2 A.sets := hown2.free tSet_free
    obtain ⟨ax, capx, rfl, hx, -⟩ := hown2'.view (S' := Fresh H H2) (fun k hk => hown2.lt hk) (fun k hk => hk.elim)
    (conv => whnf)
    exact ⟨ha2.mono fun k hk => ⟨hk, fun hb => by obtain ⟨o, n, c, h⟩ := hb; cases h⟩, hs2, ax, capx, rfl, hx⟩

end Go.Proofs.Ytkgmhkcncemmkaa
