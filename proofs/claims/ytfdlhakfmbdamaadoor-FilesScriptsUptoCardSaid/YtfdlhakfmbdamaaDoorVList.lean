/- Pieces at the ends of lists; storing with what stays. -/
import Derived.Test.YtfdlhakfmbdamaaDoorVMem
set_option linter.unusedVariables false
set_option linter.unusedSimpArgs false
namespace Go.VC
section
variable {α : Type} {ps qs l : List α} {i j : Nat} {p q : α}
theorem lgL (h : ps[i]? = some p) : (ps ++ qs)[i]? = some p := by rw [List.getElem?_append_left (List.getElem?_eq_some_iff.1 h).1]; exact h
theorem lsL (h : ps[i]? = some p) : (ps ++ qs).set i q = ps.set i q ++ qs := List.set_append_left _ _ (List.getElem?_eq_some_iff.1 h).1
theorem lgR (ps l : List α) (j : Nat) : (ps ++ l)[ps.length + j]? = l[j]? := by
  rw [List.getElem?_append_right (Nat.le_add_right _ _)]; congr 1; omega
theorem lsR (ps l : List α) (j : Nat) (x : α) : (ps ++ l).set (ps.length + j) x = ps ++ l.set j x := by
  rw [List.set_append_right _ _ (Nat.le_add_right _ _)]; congr 2; omega
theorem lgN (h : ps[j]? = some p) (hij : i ≠ j) : (ps.set i q)[j]? = some p := by rw [List.getElem?_set_ne hij]; exact h
theorem lgS (h : ps[i]? = some p) : (ps.set i q)[i]? = some q := List.getElem?_set_self (List.getElem?_eq_some_iff.1 h).1
theorem lset (h : ps[i]? = some p) : ps.set i p = ps := by
  refine List.ext_getElem? fun j => ?_
  by_cases hj : i = j
  · subst hj; rw [lgS h, h]
  · rw [List.getElem?_set_ne hj]
theorem lgR0 (ps l : List α) : (ps ++ l)[ps.length]? = l[0]? := lgR ps l 0
theorem lsR0 (ps l : List α) (x : α) : (ps ++ l).set ps.length x = ps ++ l.set 0 x := lsR ps l 0 x
end
section
variable {B : Nat → Prop} {H0 H : Heap} {ps qs : List Pc} {e : TypeId} {b : Nat} {l : List Value}
theorem StB.lft (st : StB B H0 H (ps ++ qs)) : StB B H0 H ps :=
  ⟨st.old, st.lt0, st.size, fun p hp => st.oks p (List.mem_append_left _ hp), fun p hp => st.rng p (List.mem_append_left _ hp), (List.pairwise_append.1 st.dis).1⟩
theorem StB.subl (st : StB B H0 H ps) (h : List.Sublist qs ps) : StB B H0 H qs :=
  ⟨st.old, st.lt0, st.size, fun p hp => st.oks p (h.subset hp), fun p hp => st.rng p (h.subset hp), st.dis.sublist h⟩
theorem stNBa {P : Program} {t o : Nat} {cs : List Value} {K : Heap → Prop} (st : StB B H0 H ps) (i : Nat) (ht : (P.info? t).map (·.size) = some cs.length) (hp : ps[i]? = some (pB e b l)) (ho : o + cs.length ≤ l.length) (hv : cs.all (·.oneCell') = true)
    (k : ∀ H', StB B H0 H' (ps.set i (pB e b (splice l o cs))) → Agr (fun k => k ≠ b) H H' → H'.size = H.size → K H') : VEffU P (Instr.storeAt t (.pointer (some ⟨b, o, none⟩)) (.agg cs.toArray)) H K := by
  refine VC.stN ht (st.at_ i hp) ho hv ?_
  intro H' hb' ha' hs'
  exact k H' (st.upd i hp (ha'.mono fun k hk hkb => hk.2 hkb) _ hb' (fun k hk => .inl hk) (fun k hk => by rw [hs']; exact (st.in_ i hp hk).2) (by omega)) ha' hs'
theorem st1Ba {P : Program} {t o : Nat} {v : Value} {K : Heap → Prop} (st : StB B H0 H ps) (i : Nat) (ht : CellT P t) (hp : ps[i]? = some (pB e b l)) (ho : o < l.length) (hv : v.oneCell' = true)
    (k : ∀ H', StB B H0 H' (ps.set i (pB e b (l.set o v))) → Agr (fun k => k ≠ b) H H' → H'.size = H.size → K H') : VEffU P (Instr.storeAt t (.pointer (some ⟨b, o, none⟩)) v) H K := by
  refine VC.st1 ht (st.at_ i hp) ho hv ?_
  intro H' hb' ha' hs'
  exact k H' (st.upd i hp (ha'.mono fun k hk hkb => hk.2 hkb) _ hb' (fun k hk => .inl hk) (fun k hk => by rw [hs']; exact (st.in_ i hp hk).2) (by omega)) ha' hs'
theorem splAll {l cs : List Value} (h : cs.length = l.length) : splice l 0 cs = cs := by unfold splice; simp [h]
end
end Go.VC
