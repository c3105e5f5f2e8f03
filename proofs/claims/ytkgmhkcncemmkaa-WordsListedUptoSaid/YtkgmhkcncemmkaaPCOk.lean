/- The cells of a made automaton: a parting of the bytes, in the order of their least ones, that every step keeps to. -/
import Derived.Test.YtkgmhkcncemmkaaPCel1
import Derived.Test.YtkgmhkcncemmkaaPBits
import Derived.Test.YtkgmhkcncemmkaaPSame5
set_option linter.unusedVariables false
set_option linter.unusedSimpArgs false
set_option maxRecDepth 100000
namespace Go.Proofs.Ytkgmhkcncemmkaa
open Go.VC
attribute [local irreducible] mRun gRun

structure CellsOk (o : Option AM) (ls : List Nat) : Prop where
  len : ls.length = (cellsM o).length
  up : ls.Pairwise (· < ·)
  least : ∀ (k : Nat) (c : BitVec 256), (cellsM o)[k]? = some c → ∃ l, ls[k]? = some l ∧ l < 256 ∧ (nextM c 0).1 = l ∧ c.getLsbD l = true
  keeps : ∀ (k : Nat) (c : BitVec 256) (l b : Nat), (cellsM o)[k]? = some c → ls[k]? = some l → b < 256 → c.getLsbD b = true → l ≤ b ∧ ∀ q : Int, 0 ≤ q → q < stN o → stepM o q b = stepM o q l
  cols : ∀ A, o = some A → ∀ k, k < A.sets.length → ∃ b, b < 256 ∧ A.cell[b]? = some k
  part : ∀ b, b < 256 → ∃ (k : Nat) (c : BitVec 256), (cellsM o)[k]? = some c ∧ c.getLsbD b = true ∧ ∀ (k' : Nat) (c' : BitVec 256), (cellsM o)[k']? = some c' → c'.getLsbD b = true → k' = k

theorem gRun_up {sim : Nat → Nat → Bool} (hr : ∀ a, sim a a = true) : ∀ b, (gRun sim b).1.Pairwise (· < ·)
  | 0 => by rw [gRun]; exact List.Pairwise.nil
  | b + 1 => by
    have ih := gRun_up hr b
    cases hf : (gRun sim b).1.findIdx? (fun g => sim b g) with
    | some k => rw [gRun_some hf]; exact ih
    | none =>
      rw [gRun_none hf]
      refine List.pairwise_append.2 ⟨ih, List.pairwise_singleton _ _, fun a ha c hc => ?_⟩
      rw [List.mem_singleton] at hc
      subst hc
      obtain ⟨k, hk⟩ := List.getElem?_of_mem ha
      exact ((gRun_ok hr c).first k a hk).1
theorem nextM_eq {c : BitVec 256} {l : Nat} (hl : l < 256) (h1 : c.getLsbD l = true) (h2 : ∀ b, b < l → c.getLsbD b = false) : (nextM c 0).1 = l := by
  have hf : ((List.range 256).find? fun b => decide (0 ≤ b) && c.getLsbD b) = some l := by
    rw [List.find?_range_eq_some]
    exact ⟨by simp [h1], by simpa using hl, fun j hj => by simp [h2 j hj]⟩
  unfold nextM
  rw [hf]
theorem cells_ok (cells : List (BitVec 256)) (next : List (List Int)) (final : List Bool) : ∃ ls, CellsOk (autoOf cells next final) ls := by
  unfold autoOf
  cases hs : soundB cells next final.length with
  | false =>
    refine ⟨[0], rfl, List.pairwise_singleton _ _, fun k c hc => ?_, fun k c l b hc hl hb hcb => ?_, fun A hb => ?_, fun b hb => ?_⟩
    · have hk : k = 0 := by have := (List.getElem?_eq_some_iff.1 hc).1; simpa [cellsM] using this
      subst hk
      have : c = BitVec.allOnes 256 := by simpa [cellsM] using hc.symm
      subst this
      exact ⟨0, rfl, by decide, nextM_eq (by decide) (by decide) (fun b hb => by omega), by decide⟩
    · have hk : k = 0 := by have := (List.getElem?_eq_some_iff.1 hc).1; simpa [cellsM] using this
      subst hk
      have : l = 0 := by simpa using hl.symm
      subst this
      refine ⟨Nat.zero_le _, fun q h0 h1 => ?_⟩
      simp only [Bool.false_eq_true, if_false] at h1 ⊢
      simp only [stN] at h1
      obtain rfl : q = 0 := by omega
      rfl
    · cases hb
    · refine ⟨0, BitVec.allOnes 256, rfl, ?_, fun k' c' h _ => ?_⟩
      · rw [BitVec.getLsbD_allOnes]; simp [hb]
      · have := (List.getElem?_eq_some_iff.1 h).1
        simpa [cellsM] using this
  | true =>
    simp only [if_true]
    obtain ⟨h1, h2⟩ := sets_of_g hs
    have hg := gRun_ok (simT_refl next cells) 256
    refine ⟨(gRun (simT next cells) 256).1, h1.symm, gRun_up (simT_refl next cells) 256, fun k c hc => ?_, fun k c l b hc hl hb hcb => ?_, fun A hA k hk => ?_, fun b hb => ?_⟩
    · have hk : k < (gRun (simT next cells) 256).1.length := by rw [← h1]; exact (List.getElem?_eq_some_iff.1 hc).1
      obtain ⟨g, hgk⟩ := get_some hk
      obtain ⟨g1, g2⟩ := hg.first k g hgk
      have hbit := h2 k c hc
      refine ⟨g, hgk, g1, nextM_eq g1 (by rw [hbit g g1]; simp [atSet, g2]) (fun b hb => ?_), by rw [hbit g g1]; simp [atSet, g2]⟩
      rw [hbit b (by omega)]
      unfold atSet
      rw [beq_eq_false_iff_ne]
      intro hp
      have := (hg.sig b k g hp hgk).2
      omega
    · rw [h2 k c hc b hb] at hcb
      have hp : (gRun (simT next cells) 256).2[b]? = some k := by simpa [atSet] using hcb
      obtain ⟨s1, s2⟩ := hg.sig b k l hp hl
      refine ⟨s2, fun q q0 q1 => ?_⟩
      obtain ⟨n, rfl⟩ := Int.eq_ofNat_of_zero_le q0
      have hl256 := (hg.first k l hl).1
      have hq : n < next.length := by simp only [stN, madeM, List.length_map] at q1; omega
      obtain ⟨row, hrow⟩ := get_some hq
      rw [madeM_step hs hrow hb, madeM_step hs hrow hl256]
      unfold simT at s1
      have := List.all_eq_true.1 s1 row (List.mem_of_getElem? hrow)
      simpa using this
    · cases hA
      obtain ⟨g, hgk⟩ := get_some (l := (gRun (simT next cells) 256).1) (k := k) (by rw [← h1]; exact hk)
      obtain ⟨g1, g2⟩ := hg.first k g hgk
      refine ⟨g, g1, ?_⟩
      have hm := (mRun_g hs (sp := fun b => spanS b b) 256 (Nat.le_refl _)).2
      simp only [madeM]
      rw [hm]; exact g2
    · obtain ⟨p, hp⟩ := get_some (l := (gRun (simT next cells) 256).2) (k := b) (by rw [hg.plen]; exact hb)
      have hpl := hg.lt p (List.mem_of_getElem? hp)
      obtain ⟨c, hc⟩ := get_some (l := (madeM cells next final).sets) (k := p) (by rw [h1]; exact hpl)
      refine ⟨p, c, hc, by rw [h2 p c hc b hb]; simp [atSet, hp], fun k' c' hc' hb' => ?_⟩
      rw [h2 k' c' hc' b hb] at hb'
      have : (gRun (simT next cells) 256).2[b]? = some k' := by simpa [atSet] using hb'
      rw [hp] at this
      exact (Option.some.inj this).symm
end Go.Proofs.Ytkgmhkcncemmkaa
