/- The program's automaton and the document's, side by side. -/
import Derived.Test.YtkgmhkcncemmkaaPSame5
import Derived.Test.YtkgmhkcncemmkaaVMem
set_option linter.unusedVariables false
set_option linter.unusedSimpArgs false
set_option maxRecDepth 100000
namespace Go.Proofs.Ytkgmhkcncemmkaa
open Go.VC
attribute [local irreducible] mRun atRun

/-- The program's automaton and the document's are alike. -/
structure Both (o : Option AM) (D : DM) : Prop where
  ok : D.Ok
  n : stN o = D.next.length
  step : ∀ (q : Int) (b : Nat), b < 256 → stepM o q b = stepD D q b
  fin : ∀ q : Int, finM o q = finD D q
  alive : ∀ q : Int, aliveM o q = aliveD D q
theorem both_of (cells : List (BitVec 256)) (next : List (List Int)) (final : List Bool) : Both (autoOf cells next final) (dfaOf cells next final) :=
  ⟨dfaOf_ok _ _ _, both_n _ _ _, fun q b hb => both_step _ _ _ q hb, both_final _ _ _, both_alive _ _ _⟩
section
variable {o : Option AM} {D : DM}
theorem Both.fold (h : Both o D) : ∀ (l : List UInt8) (q : Int), l.foldl (fun q b => stepM o q b.toNat) q = l.foldl (fun q b => stepD D q b.toNat) q
  | [], _ => rfl
  | b :: l, q => by simp only [List.foldl_cons, h.step q b.toNat (UInt8.toNat_lt b)]; exact h.fold l _
theorem Both.run (h : Both o D) (s : ByteArray) (k : Nat) : runM o s k = runD D s k := h.fold _ _
theorem Both.acc (h : Both o D) (s : ByteArray) : acceptsM o s = acceptsD D s := by
  unfold acceptsM acceptsD
  rw [h.run, h.fin]
theorem dead_step (hok : D.Ok) {q : Int} {b : Nat} (h0 : 0 ≤ q) (h1 : q < D.next.length) (hb : b < 256) (h : aliveD D q = false) : aliveD D (stepD D q b) = false := by
  obtain ⟨n, rfl⟩ := Int.eq_ofNat_of_zero_le h0
  obtain ⟨row, c, t, hr, hc, ht, _, h2, h3, h4⟩ := hok.at (q := n) (b := b) (by omega) hb
  rw [stepD_at hr hc ht]
  obtain ⟨t', rfl⟩ := Int.eq_ofNat_of_zero_le h2
  unfold aliveD at h ⊢
  rw [decide_eq_false_iff_not] at h ⊢
  exact fun hl => h (.step hr h4 (by simpa using hl))
theorem dead_fin {q : Int} (h : aliveD D q = false) : finD D q = false := by
  unfold aliveD at h
  rw [decide_eq_false_iff_not] at h
  unfold finD
  cases hq : D.final[q.toNat]? with
  | none => simp
  | some b =>
    cases b with
    | false => simp
    | true => exact absurd (.fin hq) h
theorem dead_run (hok : D.Ok) (s : ByteArray) {k : Nat} (h : aliveD D (runD D s k) = false) : ∀ j, k + j ≤ s.size → aliveD D (runD D s (k + j)) = false
  | 0, _ => h
  | j + 1, hj => by
    obtain ⟨b, hb⟩ := get_byte (s := s) (k := k + j) (by omega)
    have hr := runD_range hok s (k + j) (by omega)
    rw [← Nat.add_assoc, runD_succ hb]
    exact dead_step hok hr.1 hr.2 (UInt8.toNat_lt b) (dead_run hok s h j (by omega))
theorem dead_acc (hok : D.Ok) (s : ByteArray) {k : Nat} (hk : k ≤ s.size) (h : aliveD D (runD D s k) = false) : acceptsD D s = false := by
  have := dead_run hok s h (s.size - k) (by omega)
  rw [show k + (s.size - k) = s.size by omega] at this
  exact dead_fin this

/-- The final state of a number. -/
theorem fin_at (hok : D.Ok) {q : Int} (h0 : 0 ≤ q) (h1 : q < D.next.length) : D.final[q.toNat]? = some (finD D q) := by
  have hfl := hok.fl
  obtain ⟨f, hf⟩ := get_some (l := D.final) (k := q.toNat) (by omega)
  unfold finD
  rw [hf, decide_eq_true h0]; rfl

end
end Go.Proofs.Ytkgmhkcncemmkaa
