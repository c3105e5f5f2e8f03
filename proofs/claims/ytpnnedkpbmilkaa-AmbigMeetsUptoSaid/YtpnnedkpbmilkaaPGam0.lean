/- The document's side of layer 9: the bytes that stand for all, the game's rules. -/
import Derived.Test.YtpnnedkpbmilkaaPCatI
import Derived.Test.YtpnnedkpbmilkaaPCel2
import Derived.Test.YtpnnedkpbmilkaaPBoth
import Derived.Test.YtpnnedkpbmilkaaPRefB
set_option linter.unusedVariables false
set_option linter.unusedSimpArgs false
set_option maxRecDepth 100000
namespace Go.Proofs.Ytpnnedkpbmilkaa
open Go.VC
attribute [local irreducible] mRun gRun atRun

/-! ### cells as sets of bits -/
def bvF (f : Nat → Bool) : Nat → BitVec 256
  | 0 => 0#256
  | n + 1 => if f n then bvF f n ||| spanS n n else bvF f n
theorem bvF_bit (f : Nat → Bool) {b : Nat} (hb : b < 256) : ∀ n, (bvF f n).getLsbD b = (decide (b < n) && f b)
  | 0 => by simp [bvF]
  | n + 1 => by
    have ih := bvF_bit f hb n
    unfold bvF
    split
    · rename_i hf
      rw [BitVec.getLsbD_or, ih, spanS_bit n n b hb]
      by_cases h : b = n
      · subst h; simp [hf]
      · have h1 : decide (b < n + 1) = decide (b < n) := by rw [decide_eq_decide]; omega
        have h2 : (decide (n ≤ b) && decide (b ≤ n)) = false := by simp; omega
        rw [h1, h2, Bool.or_false]
    · rename_i hf
      rw [ih]
      by_cases h : b = n
      · subst h; simp [hf]
      · have h1 : decide (b < n + 1) = decide (b < n) := by rw [decide_eq_decide]; omega
        rw [h1]
def bvN (f : Nat → Bool) : BitVec 256 := bvF f 256
theorem bvN_bit (f : Nat → Bool) {b : Nat} (hb : b < 256) : (bvN f).getLsbD b = f b := by
  unfold bvN
  rw [bvF_bit f hb, decide_eq_true hb, Bool.true_and]
theorem funL_bits (f : Nat → Bool) : funL f = bitsL (bvN f) := by
  unfold funL bitsL bitsTo
  refine List.map_congr_left fun b hb => ?_
  have hb := List.mem_range.1 hb
  rw [bvN_bit f hb, decide_eq_true hb, Bool.true_and]
theorem reps_bits {S : Nat → Prop} {H : Heap} : ∀ {cs : List Value} {fs : List (Nat → Bool)}, tF.reps S H cs fs → tB.reps S H cs (fs.map bvN)
  | _, [], h => h
  | _, f :: fs, ⟨c, r, e, hc, hr⟩ => ⟨c, r, e, (show c = bitsL (bvN f) by rw [← funL_bits]; exact hc), reps_bits hr⟩
def cellsD (D : DM) : List (BitVec 256) := (atSets (gRun (simD D) 256).2 (gRun (simD D) 256).1.length).map bvN
theorem refcellsB {S : Nat → Prop} {H : Heap} {v : Value} {D : DM} (hS : ∀ k, S k → k < H.size) (hw : DfaV S H v D) (hdok : D.Ok) :
    FnOk Try.prog 25 #[v] H fun v H' => Agr (Old H) H H' ∧ SlO tB none_ H' H.size 98 v (cellsD D) := by
  refine (refcells_o hS hw hdok).mono ?_
  rintro v' H' ⟨h1, h2, a, cap, rfl, cs, h3, h4⟩
  refine ⟨h1, cs, ?_, reps_bits h4⟩
  unfold cellsD
  rw [List.length_map]
  exact h3
theorem cellsD_len (D : DM) : 0 < (cellsD D).length ∧ (cellsD D).length ≤ 256 := by
  have hg := gRun_ok (simD_refl D) 256
  unfold cellsD
  rw [List.length_map, atSets_len]
  have h0 : (gRun (simD D) 256).2.length = 256 := hg.plen
  obtain ⟨p, hp⟩ := get_some (l := (gRun (simD D) 256).2) (k := 0) (by omega)
  have := hg.lt p (List.mem_of_getElem? hp)
  exact ⟨by omega, hg.flen⟩
/-- The bytes that the document goes by. -/
def repsD (A B : DM) : List Nat := (atRun (cellsD A ++ cellsD B) 256).1
theorem repsD_lt (A B : DM) : ∀ r ∈ repsD A B, r < 256 := fun r hr => by
  obtain ⟨k, hk⟩ := List.getElem?_of_mem hr
  exact ((atRun_ok (cellsD A ++ cellsD B) 256).first k r hk).1
theorem repsD_len (A B : DM) : (repsD A B).length ≤ 256 := (atRun_ok (cellsD A ++ cellsD B) 256).flen
theorem atRun_up (cells : List (BitVec 256)) : ∀ b, (atRun cells b).1.Pairwise (· < ·)
  | 0 => by rw [atRun]; exact List.Pairwise.nil
  | b + 1 => by
    have ih := atRun_up cells b
    cases hf : (atRun cells b).1.findIdx? (fun g => sigEq cells b g) with
    | some k => rw [atRun_some hf]; exact ih
    | none =>
      rw [atRun_none hf]
      refine List.pairwise_append.2 ⟨ih, List.pairwise_singleton _ _, fun a ha c hc => ?_⟩
      rw [List.mem_singleton] at hc
      subst hc
      obtain ⟨k, hk⟩ := List.getElem?_of_mem ha
      exact ((atRun_ok cells c).first k a hk).1
theorem repsD_up (A B : DM) : (repsD A B).Pairwise (· < ·) := atRun_up _ 256
theorem cellsD_same {D : DM} {r c : Nat} (hr : r < 256) (hc : c < 256) (h : ∀ s ∈ cellsD D, s.getLsbD r = s.getLsbD c) (q : Int) : stepD D q r = stepD D q c := by
  have hg := gRun_ok (simD_refl D) 256
  by_cases hq : q < 0 ∨ (D.next.length : Int) ≤ q
  · unfold stepD
    rw [if_pos hq, if_pos hq]
  · obtain ⟨p, hp⟩ := get_some (l := (gRun (simD D) 256).2) (k := c) (by rw [hg.plen]; exact hc)
    have hpl := hg.lt p (List.mem_of_getElem? hp)
    obtain ⟨l, hl⟩ := get_some hpl
    have hin : bvN (atSet (gRun (simD D) 256).2 p) ∈ cellsD D := List.mem_map.2 ⟨_, List.mem_map.2 ⟨p, List.mem_range.2 hpl, rfl⟩, rfl⟩
    have hb := h _ hin
    rw [bvN_bit _ hr, bvN_bit _ hc] at hb
    have hpc : atSet (gRun (simD D) 256).2 p c = true := by unfold atSet; rw [hp]; simp
    rw [hpc] at hb
    have hpr : (gRun (simD D) 256).2[r]? = some p := by simpa [atSet] using hb
    have key : ∀ x, (gRun (simD D) 256).2[x]? = some p → stepD D q x = stepD D q l := fun x hx => by
      have h1 := (hg.sig x p l hx hl).1
      unfold simD simTo at h1
      obtain ⟨n, rfl⟩ := Int.eq_ofNat_of_zero_le (show 0 ≤ q by omega)
      have := List.all_eq_true.1 h1 n (List.mem_range.2 (by omega))
      simpa using this
    rw [key r hpr, key c hp]
theorem repsD_cov (A B : DM) : ∀ c, c < 256 → ∃ r ∈ repsD A B, r ≤ c ∧ (∀ q, stepD A q r = stepD A q c) ∧ ∀ q, stepD B q r = stepD B q c := fun c hc => by
  have ha := atRun_ok (cellsD A ++ cellsD B) 256
  obtain ⟨p, hp⟩ := get_some (l := (atRun (cellsD A ++ cellsD B) 256).2) (k := c) (by rw [ha.plen]; exact hc)
  obtain ⟨g, hg⟩ := get_some (ha.lt p (List.mem_of_getElem? hp))
  obtain ⟨h1, h2⟩ := ha.sig c p g hp hg
  have hg8 := (ha.first p g hg).1
  unfold sigEq at h1
  have h3 : ∀ s ∈ cellsD A ++ cellsD B, s.getLsbD g = s.getLsbD c := fun s hs => by
    have := List.all_eq_true.1 h1 s hs
    simp only [beq_iff_eq] at this
    exact this.symm
  exact ⟨g, List.mem_of_getElem? hg, h2, cellsD_same hg8 hc fun s hs => h3 s (List.mem_append.2 (.inl hs)), cellsD_same hg8 hc fun s hs => h3 s (List.mem_append.2 (.inr hs))⟩
end Go.Proofs.Ytpnnedkpbmilkaa
