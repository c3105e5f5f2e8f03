/- Small helps: empty slices, rows that are made, texts put together and cut. -/
import Derived.Test.YtpnnedkpbmilkaaVPtr
set_option linter.unusedVariables false
set_option linter.unusedSimpArgs false
namespace Go.VC
section
variable {P : Program} {t e : TypeId} {x y : Operand} {S : Nat → Prop} {H : Heap}
theorem vbuild0 {sz by_ : Nat} {z : Value} {K : Value → Heap → Prop} (ht : SlT P t e sz by_ z) (h : New H (fun b H' => K (.slice (some ⟨b, 0, none⟩) 0 0) H') e []) : VEff P (Instr.buildSlice t 0 ([] : List (Nat × Value)).toArray) H K := by
  refine VEff.mk fun w hw => ?_
  subst hw
  refine ⟨_, w.alloc (.cells [].toArray e), ?_, ⟨rfl, rfl, rfl⟩, h.go⟩
  obtain ⟨inf, hi, hs, _, hz⟩ := ht.info
  simp only [Instr.buildSlice, Sem.run_bind, run_underlying ht.under, Result.andThen_ok, sizeOf, typeInfo, zeroValue]
  have h0 : ((Array.range 0).map fun _ : Nat => (default : Value)) = #[] := by simp
  simp [hi, hs, hz, newRow, Instr.fill, h0]
theorem SlO.empty {α : Type} {T : Ty α} {lo b : Nat} (hlo : lo ≤ b) (hb : Blk H b e []) : SlO T S H lo e (.slice (some ⟨b, 0, none⟩) 0 0) [] :=
  ⟨[], by have := Sl.made (sz := T.size) (n := 0) (cap := 0) hlo hb (Nat.le_refl _) (by decide) (by simp); simpa using this, rfl⟩
theorem SlO.ofBlk {α : Type} {T : Ty α} {lo b n : Nat} {l : List Value} {xs : List α} (hlo : lo ≤ b) (hb : Blk H b e l) (hr : T.reps S H l xs) (hn : n = xs.length) (hm : n ≤ maxLen) : SlO T S H lo e (.slice (some ⟨b, 0, none⟩) n n) xs := by
  subst hn
  have hl := Ty.reps_len hr
  refine ⟨l, ?_, hr⟩
  have := Sl.made (sz := T.size) (n := xs.length) (cap := xs.length) hlo hb (Nat.le_refl _) hm hl
  rwa [← hl, List.take_length] at this
theorem reps_replicate {α : Type} {T : Ty α} {c : List Value} {v : α} (h : T.rep S H c v) : ∀ n, T.reps S H (List.replicate n c).flatten (List.replicate n v)
  | 0 => rfl
  | n + 1 => ⟨c, _, rfl, h, reps_replicate h n⟩
theorem made_flat (z : Array Value) (n : Nat) : (List.range (n * z.size)).map (z[· % z.size]!) = (List.replicate n z.toList).flatten := by
  induction n with
  | zero => simp
  | succ n ih =>
    rw [Nat.succ_mul, List.range_add, List.map_append, ih, List.replicate_succ', List.flatten_append]
    congr 1
    simp only [List.flatten_cons, List.flatten_nil, List.append_nil, List.map_map]
    apply List.ext_getElem?
    intro i
    by_cases hi : i < z.size
    · rw [List.getElem?_map, List.getElem?_range hi]
      simp only [Option.map_some, Function.comp, Array.getElem?_toList]
      have : (n * z.size + i) % z.size = i := by rw [Nat.mul_comm, Nat.mul_add_mod]; exact Nat.mod_eq_of_lt hi
      rw [this, getElem!_pos z i hi, getElem?_pos z i hi]
    · rw [List.getElem?_eq_none (by simp; omega), List.getElem?_eq_none (by simp; omega)]
theorem vmakeT {α : Type} {T : Ty α} {by_ : Nat} {z : Value} {kl kc : IntKind} {l c : Int} {v : α} {K : Value → Heap → Prop} (ht : SlT P t e T.size by_ z) (hv : T.rep S H z.cells.toList v) (h0 : 0 ≤ l) (hlc : l = c) (hb : (by_ : Int) * c ≤ 281474976710656) (h63 : c ≤ 9223372036854775807)
    (h : New H (fun b H' => K (.slice (some ⟨b, 0, none⟩) c.toNat c.toNat) H') e (List.replicate c.toNat z.cells.toList).flatten) : VEff P (Instr.makeSlice t (.int kl l) (.int kc c)) H K := by
  subst hlc
  refine vmake ht h0 (Int.le_refl _) hb h63 ?_
  rw [← ht.zsz, made_flat]
  exact h
/-- What is made, as a slice of the call's own. -/
theorem SlO.made {α : Type} {T : Ty α} {lo b n : Nat} {c : List Value} {v : α} (hlo : lo ≤ b) (hb : Blk H b e (List.replicate n c).flatten) (hv : T.rep S H c v) (hm : n ≤ maxLen) : SlO T S H lo e (.slice (some ⟨b, 0, none⟩) n n) (List.replicate n v) :=
  SlO.ofBlk hlo hb (reps_replicate hv n) (by simp) hm

/-- The place of an element, to be written, where the slice is known. -/
theorem SlO.placeS {α : Type} {T : Ty α} {lo b o n cap i : Nat} {xs : List α} (h : SlO T S H lo e (.slice (some ⟨b, o, none⟩) n cap) xs) (hi : i < xs.length) : n = xs.length ∧ o = 0 ∧ lo ≤ b ∧ ∃ l, Blk H b e l ∧ i * T.size + T.size ≤ l.length ∧
    (∀ x, xs[i]? = some x → ∃ c, Cells H b (i * T.size) c ∧ T.rep S H c x) ∧
    ∀ (H' : Heap) (c : List Value) (x : α), Blk H' b e (splice l (i * T.size) c) → Agr S H H' → T.rep S H' c x → SlO T S H' lo e (.slice (some ⟨b, o, none⟩) n cap) (xs.set i x) := by
  obtain ⟨b', cap', l, cs, e1, h1, h2, h3, h4, h5, h6⟩ := h.place hi
  have e2 := e1
  injection e1 with e3 e4 e5
  injection e3 with e3
  injection e3 with e6 e7 e8
  subst e6; subst e7; subst e4; subst e5
  exact ⟨rfl, rfl, h1, l, h2, h3, h4, h6⟩

/-! ### whole division -/
theorem vquo {k : IntKind} {a b : Nat} {K : Value → Prop} (hb : 0 < b) (ha : inK k (a : Int)) (hk : K (.int k ((a / b : Nat) : Int))) : VDet P (do eqGuard .quo t x y (.int k a) (.int k b); binOp .quo t (.int k a) (.int k b)) S H K := by
  refine VDet.mk _ (fun w _ => ?_) hk
  have h0 : ¬ ((b : Int) = 0) := by omega
  have e1 : ((a : Int).tdiv (b : Int)) = ((a / b : Nat) : Int) := by rw [Int.tdiv_eq_ediv_of_nonneg (by omega)]; rfl
  have hin := wrap_in (inK_le ha (Nat.div_le_self a b))
  simp only [run_eqGuard_int, binOp, Op.intDiv, Sem.run_bind, Result.andThen_ok, h0, if_false, e1, hin, Sem.run_pure, ne_eq, not_true_eq_false]
theorem vrem {k : IntKind} {a b : Nat} {K : Value → Prop} (hb : 0 < b) (hk : K (.int k ((a % b : Nat) : Int))) : VDet P (do eqGuard .rem t x y (.int k a) (.int k b); binOp .rem t (.int k a) (.int k b)) S H K := by
  refine VDet.mk _ (fun w _ => ?_) hk
  have h0 : ¬ ((b : Int) = 0) := by omega
  have e1 : ((a : Int).tmod (b : Int)) = ((a % b : Nat) : Int) := by rw [Int.tmod_eq_emod_of_nonneg (by omega)]; rfl
  simp only [run_eqGuard_int, binOp, Op.intDiv, Sem.run_bind, Result.andThen_ok, h0, if_false, e1, Sem.run_pure, ne_eq, not_true_eq_false]

/-! ### a cut behind a region whose order is open -/
theorem VDraw.cut {l : List Oper} {fr : Fr} {K : Fr → Heap → Prop} {α : Type} (ts : List Nat) (enc : α → List Value) (I : α → Heap → Prop)
    (h : VDraw P l fr H (fun fr' H' => keptK (wsOps l []) fr fr' (rdsK fr' ts fun vs => ∃ y, vs = enc y ∧ I y H')))
    (k : ∀ (z : α) (H1 : Heap) (junk : Nat → Value), I z H1 → havocK junk fr (wsOps l []) fun fr0 => wrsK fr0 ts (enc z) fun fr1 => K fr1 H1) : VDraw P l fr H K := by
  generalize wsOps l [] = ws at h k
  have h := h.out_
  refine ⟨?_⟩
  intro id Q a w hat hw hp hq
  refine h id Q a w hat hw hp fun fr' a' w' hat' henv h3 => hq fr' a' w' hat' henv ?_
  simp only [keptK, havocK_eq, rdsK_eq] at h3
  obtain ⟨hk, z, hz, hi⟩ := h3
  have h := k z w'.heap (rd fr') hi
  rw [havocK_eq, wrsK_eq, havoc_of_blank hk, ← hz, wrs_self ts fr'] at h
  exact h

/-! ### texts -/
theorem vcat {a b : ByteArray} {K : Value → Prop} (h : a.size + b.size ≤ maxLen) (k : K (.string (a ++ b))) : VDet P (do eqGuard .add t x y (.string a) (.string b); binOp .add t (.string a) (.string b)) S H K := by
  refine VDet.mk _ (fun w _ => ?_) k
  have h1 : ((a.size + b.size : Nat) : Int) ≤ 9223372036854775807 := by
    unfold maxLen at h
    omega
  have h2 : IntKind.i64.max = 9223372036854775807 := rfl
  rw [Int.natCast_add] at h1
  simp [run_eqGuard_string, binOp, Op.stringOp, h2, h1]
theorem vcutS {s : ByteArray} {k k' : IntKind} {l h : Int} {K : Value → Prop} (ht : P.underlying t = some .string) (h0 : 0 ≤ l) (h1 : l ≤ h) (h2 : h ≤ s.size) (hk : K (.string (s.extract l.toNat h.toNat))) :
    VDet P (Instr.sliceAt t (.string s) (some (.int k l)) (some (.int k' h)) none) S H K := by
  refine VDet.mk _ (fun w _ => ?_) hk
  have h3 : 0 ≤ h := by omega
  have h4 : l ≤ max h 0 := by omega
  simp [Instr.sliceAt, Instr.slice, run_underlying ht, Instr.sliceBounds, Instr.sliceBound, asIntOf, h0, h1, h2, h3, h4]
theorem vcutSH {s : ByteArray} {k' : IntKind} {h : Int} {K : Value → Prop} (ht : P.underlying t = some .string) (h3 : 0 ≤ h) (h2 : h ≤ s.size) (hk : K (.string (s.extract 0 h.toNat))) :
    VDet P (Instr.sliceAt t (.string s) none (some (.int k' h)) none) S H K := by
  refine VDet.mk _ (fun w _ => ?_) hk
  simp [Instr.sliceAt, Instr.slice, run_underlying ht, Instr.sliceBounds, Instr.sliceBound, asIntOf, h2, h3]
theorem vcutSL {s : ByteArray} {k : IntKind} {l : Int} {K : Value → Prop} (ht : P.underlying t = some .string) (h0 : 0 ≤ l) (h1 : l ≤ s.size) (hk : K (.string (s.extract l.toNat s.size))) :
    VDet P (Instr.sliceAt t (.string s) (some (.int k l)) none none) S H K := by
  refine VDet.mk _ (fun w _ => ?_) hk
  simp [Instr.sliceAt, Instr.slice, run_underlying ht, Instr.sliceBounds, Instr.sliceBound, asIntOf, h0, h1]
end

/-! ### lists that are filled from the front -/
theorem fill_set {α : Type} {l : List α} {k : Nat} {x z : α} (h : l[k]? = some x) : (l.take k ++ List.replicate (l.length - k) z).set k x = l.take (k + 1) ++ List.replicate (l.length - (k + 1)) z := by
  have hk := (List.getElem?_eq_some_iff.1 h).1
  have hx := (List.getElem?_eq_some_iff.1 h).2
  rw [List.set_append_right _ _ (by simp; omega), List.length_take, Nat.min_eq_left (by omega), Nat.sub_self, show l.length - k = (l.length - (k + 1)) + 1 by omega, List.replicate_succ, List.set_cons_zero, List.take_succ_eq_append_getElem hk, hx, List.append_assoc]
  rfl
theorem fill_get {α : Type} {l : List α} {k : Nat} {z : α} (h : k < l.length) : (l.take k ++ List.replicate (l.length - k) z)[k]? = some z := by
  rw [List.getElem?_append_right (by simp; omega), List.length_take, Nat.min_eq_left (by omega), Nat.sub_self, List.getElem?_replicate, if_pos (by omega)]
theorem fill_len {α : Type} {l : List α} {k : Nat} {z : α} (h : k ≤ l.length) : (l.take k ++ List.replicate (l.length - k) z).length = l.length := by simp; omega
theorem fill_end {α : Type} {l : List α} {z : α} : l.take l.length ++ List.replicate (l.length - l.length) z = l := by simp
theorem fill_beg {α : Type} {l : List α} {z : α} : l.take 0 ++ List.replicate (l.length - 0) z = List.replicate l.length z := by simp

theorem splice_one {l : List Value} {o : Nat} {v : Value} (h : o < l.length) : splice l o [v] = l.set o v := by
  apply List.ext_getElem?
  intro j
  rw [splice_get (by simp; omega), List.getElem?_set]
  simp only [List.length_singleton]
  by_cases hj : o = j
  · subst hj; simp [h]
  · rw [if_neg (by omega), if_neg hj]

theorem vbuild2 {P : Program} {t e : TypeId} {sz by_ : Nat} {z v1 v2 : Value} {H : Heap} {K : Value → Heap → Prop} (ht : SlT P t e sz by_ z) (l1 l2 : List Value) (hv1 : v1.cells = l1.toArray) (hv2 : v2.cells = l2.toArray) (hl1 : l1.length = sz) (hl2 : l2.length = sz) (h0 : 0 < sz) (h1 : 2 * sz ≤ 16777216)
    (h : New H (fun b H' => K (.slice (some ⟨b, 0, none⟩) 2 2) H') e (l1 ++ l2)) : VEff P (Instr.buildSlice t 2 [(0, v1), (1, v2)].toArray) H K := by
  refine vbuild ht (l1 ++ l2) (by omega) (by omega) ?_ h
  rw [show ([(0, v1), (1, v2)].toArray).toList = (0, v1) :: (1, v2) :: [] from rfl, fill_cons (off := 0) (size := sz) (by simp) (by rw [hv1]; simpa using hl1) (by simp; omega),
    fill_cons (off := sz) (size := sz) (by simp) (by rw [hv2]; simpa using hl2) (by simp [splice, hv1]; omega)]
  rw [Instr.fill, hv1, hv2]
  congr 1
  apply Array.ext'
  simp [splice, hl1, hl2]
  omega

theorem splice_mid {p r cs : List Value} {o : Nat} (hp : p.length = o) : splice (p ++ r) o cs = p ++ (cs ++ r.drop cs.length) := by
  subst hp
  unfold splice
  rw [List.take_left, List.drop_length_add_append, List.append_assoc]
theorem fill_all {sz : Nat} : ∀ (ps : List (List Value)) (vs : List Value) (i : Nat) (d w : List Value), vs.map (·.cells) = ps.map (·.toArray) → (∀ l ∈ ps, l.length = sz) → d.length = i * sz → w.length = ps.length * sz →
    Instr.fill (fun i => some (i * sz, sz)) (d ++ w).toArray ((vs.zipIdx i).map fun p => (p.2, p.1)) = some (d ++ ps.flatten).toArray
  | [], [], i, d, w, _, _, _, hw => by
    have : w = [] := List.eq_nil_of_length_eq_zero (by simpa using hw)
    simp [Instr.fill, this]
  | [], v :: vs, i, d, w, h, _, _, _ => by simp at h
  | p :: ps, [], i, d, w, h, _, _, _ => by simp at h
  | p :: ps, v :: vs, i, d, w, h, hl, hd, hw => by
    simp only [List.map_cons, List.cons.injEq] at h
    have hp := hl p List.mem_cons_self
    simp only [List.length_cons, Nat.succ_mul] at hw
    rw [List.zipIdx_cons, List.map_cons, fill_cons (off := i * sz) (size := sz) rfl (by rw [h.1]; simpa using hp) (by simp [hd]; omega), h.1, List.toList_toArray, splice_mid hd]
    have := fill_all ps vs (i + 1) (d ++ p) (w.drop p.length) h.2 (fun l hl' => hl l (List.mem_cons_of_mem _ hl')) (by simp [hd, hp, Nat.succ_mul]) (by simp [hp]; omega)
    rw [List.append_assoc] at this
    rw [List.flatten_cons]
    simpa using this
/-- A slice of several elements. -/
theorem vbuildL {P : Program} {t e : TypeId} {sz by_ n : Nat} {z : Value} {H : Heap} {K : Value → Heap → Prop} (ht : SlT P t e sz by_ z) (vs : List Value) (ps : List (List Value)) (hv : vs.map (·.cells) = ps.map (·.toArray)) (hl : ∀ l ∈ ps, l.length = sz) (hn : n = ps.length) (h0 : 0 < n * sz) (h1 : n * sz ≤ 16777216)
    (h : New H (fun b H' => K (.slice (some ⟨b, 0, none⟩) n n) H') e ps.flatten) : VEff P (Instr.buildSlice t n ((vs.zipIdx).map fun p => (p.2, p.1)).toArray) H K := by
  subst hn
  refine vbuild ht ps.flatten h1 h0 ?_ h
  have := fill_all (sz := sz) ps vs 0 [] ((List.range (ps.length * sz)).map (z.cells[· % z.cells.size]!)) hv hl (by simp) (by simp)
  simp only [List.nil_append] at this
  rw [← this]
  congr 1
  apply Array.ext'
  simp

end Go.VC
