/- One cell of an element of a slice of the call's own. -/
import Derived.Test.YtfdlhakfmbdamaaDoorVList
set_option linter.unusedVariables false
set_option linter.unusedSimpArgs false
namespace Go.VC
section
variable {α : Type} {T : Ty α} {B : Nat → Prop} {H0 H : Heap} {ps : List Pc} {e : TypeId} {b n cap : Nat} {xs : List α}
/-- Its cells. -/
theorem StB.cellsE {j : Nat} {x : α} (st : StB B H0 H ps) (i : Nat) (hp : ps[i]? = some (pS T e (some ⟨b, 0, none⟩) n cap xs)) (hx : xs[j]? = some x) : ∃ c, Cells H b (j * T.size) c ∧ T.rep none_ H c x := by
  have hi := (List.getElem?_eq_some_iff.1 hx).1
  obtain ⟨-, -, -, l, -, -, h, -⟩ := (st.at_ i hp).1.placeS hi
  exact h x hx
theorem StB.ltE (st : StB B H0 H ps) (i : Nat) (hp : ps[i]? = some (pS T e (some ⟨b, 0, none⟩) n cap xs)) : b < H.size := (st.in_ i hp (.inl ⟨0, n, cap, rfl⟩)).2
/-- Its place. -/
theorem ixE {P : Program} {t by_ j : Nat} {z : Value} {k : IntKind} {ji : Int} {S0 : Nat → Prop} {H2 : Heap} {K : Value → Prop} (ht : SlT P t e T.size by_ z) (st : StB B H0 H ps) (i : Nat) (hp : ps[i]? = some (pS T e (some ⟨b, 0, none⟩) n cap xs))
    (hj : j < xs.length) (hji : ji = (j : Int)) (hk : K (.pointer (some ⟨b, j * T.size, none⟩))) : VDet P (Instr.indexAt t (.slice (some ⟨b, 0, none⟩) n cap) (.int k ji)) S0 H2 K := by
  have hn := st.len i hp
  exact ix ht (by omega) (by omega) (by rw [hji, Int.toNat_natCast, Nat.zero_add]; exact hk)
/-- One cell written. -/
theorem st1E {P : Program} {t j k : Nat} {v : Value} {x x' : α} {K : Heap → Prop} (st : StB B H0 H ps) (i : Nat) (ht : CellT P t) (hp : ps[i]? = some (pS T e (some ⟨b, 0, none⟩) n cap xs)) (hx : xs[j]? = some x) (hk : k < T.size) (hv : v.oneCell' = true)
    (hr : ∀ H' c, T.rep none_ H' c x → T.rep none_ H' (c.set k v) x') (kk : ∀ H', StB B H0 H' (ps.set i (pS T e (some ⟨b, 0, none⟩) n cap (xs.set j x'))) → Agr (fun q => q ≠ b) H H' → K H') :
    VEffU P (Instr.storeAt t (.pointer (some ⟨b, j * T.size + k, none⟩)) v) H K := by
  have hj := (List.getElem?_eq_some_iff.1 hx).1
  have hok := st.at_ i hp
  obtain ⟨-, -, -, l, hblk, hlen, hc, hput⟩ := hok.1.placeS hj
  obtain ⟨c, hc, hrep⟩ := hc x hx
  have hcl := T.len hrep
  refine VC.st1 ht hblk (by omega) hv ?_
  intro H' hb' ha' hs'
  have hSH : Agr none_ H H' := fun q hq => hq.elim
  have hrep' := hr H' c (T.frame hrep hSH)
  have hown := hput H' (c.set k v) x' (by
    have : splice l (j * T.size) (c.set k v) = l.set (j * T.size + k) v := by
      apply List.ext_getElem?
      intro m
      rw [splice_get (by rw [List.length_set, hcl]; exact hlen), List.length_set, hcl]
      by_cases hm : j * T.size ≤ m ∧ m < j * T.size + T.size
      · rw [if_pos hm]
        have hcm : m - j * T.size < c.length := by omega
        have hce : (c[m - j * T.size]?) = l[m]? := by
          have h1 := hc (m - j * T.size) _ (List.getElem?_eq_getElem hcm)
          rw [show j * T.size + (m - j * T.size) = m by omega, hblk.cell] at h1
          rw [List.getElem?_eq_getElem hcm, h1]
        by_cases hmk : m = j * T.size + k
        · subst hmk
          rw [show j * T.size + k - j * T.size = k by omega, List.getElem?_set_self (by omega), List.getElem?_set_self (by omega)]
        · rw [List.getElem?_set_ne (by omega), List.getElem?_set_ne (by omega), hce]
      · rw [if_neg hm, List.getElem?_set_ne (by omega)]
    rw [this]; exact hb') hSH hrep'
  exact kk H' (st.upd i hp (ha'.mono fun q hq hkb => hq.2 (.inl (by subst hkb; exact ⟨0, n, cap, rfl⟩))) _ ⟨hown, hok.2⟩ (fun q hq => .inl hq) (fun q hq => by rw [hs']; exact (st.in_ i hp hq).2) (by omega)) ha'
end
end Go.VC
