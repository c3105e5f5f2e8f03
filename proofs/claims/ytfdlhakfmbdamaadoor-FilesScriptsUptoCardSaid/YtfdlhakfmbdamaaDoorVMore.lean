import Derived.Test.YtfdlhakfmbdamaaDoorVMem
import Derived.MapKept
import Derived.Laws.BytesArg
import Derived.Laws.Cover1
import Derived.Test.YtfdlhakfmbdamaaDoorVBase
/- Maps of the call's own: what they hold; looking up, laying, striking. -/
set_option linter.unusedVariables false
set_option linter.unusedSimpArgs false
namespace Go.VC

structure MapT (P : Program) (t kt et : TypeId) (d : TypeDesc) (z : Value) : Prop where
  under : P.underlying t = some (.map kt et)
  key : P.underlying kt = some d
  zero : (P.info? et).bind (·.zero) = some z
structure KeyE (d : TypeDesc) {α : Type} (enc : α → Value) : Prop where
  isKey : ∀ a, Go.MapKept.IsKey d (enc a)
  inj : ∀ a b, enc a = enc b → a = b
theorem keyS : KeyE .string Value.string := ⟨fun _ => trivial, fun a b h => by cases h; rfl⟩
theorem keyI (k : IntKind) : KeyE (.int k) (Value.int k) := ⟨fun _ => rfl, fun a b h => by cases h; rfl⟩

/-- The map in block b holds m. -/
def MapF {α : Type} (enc : α → Value) (H : Heap) (b : Nat) (m : α → Option Value) : Prop :=
  ∃ es clock, H[b]? = some (.map es clock) ∧ Go.MapKept.Stamped es clock ∧ (∀ (i : Nat) (x : MapEntry), es[i]? = some x → ∃ a, x.key = enc a ∧ m a = some x.val) ∧
    ∀ a v, m a = some v → ∃ (i : Nat) (x : MapEntry), es[i]? = some x ∧ x.key = enc a ∧ x.val = v
theorem MapF.agr {α : Type} {enc : α → Value} {H H' : Heap} {b : Nat} {m : α → Option Value} {S : Nat → Prop} (h : MapF enc H b m) (k : Agr S H H') (hb : S b) : MapF enc H' b m := by
  obtain ⟨es, clock, h1, h2⟩ := h
  exact ⟨es, clock, (k b hb).trans h1, h2⟩
theorem MapF.lt {α : Type} {enc : α → Value} {H : Heap} {b : Nat} {m : α → Option Value} (h : MapF enc H b m) : b < H.size := by
  obtain ⟨es, clock, h1, h2⟩ := h
  exact (Array.getElem?_eq_some_iff.1 h1).1
theorem MapF.ext {α : Type} {enc : α → Value} {H : Heap} {b : Nat} {m m' : α → Option Value} (h : MapF enc H b m) (hm : ∀ a, m a = m' a) : MapF enc H b m' := (funext hm : m = m') ▸ h

/-- The stamp of a's entry. -/
def StampF {α : Type} (enc : α → Value) (H : Heap) (b : Nat) (a : α) (s : Nat) : Prop :=
  ∃ es clock, H[b]? = some (.map es clock) ∧ ∀ (i : Nat) (x : MapEntry), es[i]? = some x → (x.born = s ↔ x.key = enc a)
theorem StampF.agr {α : Type} {enc : α → Value} {H H' : Heap} {b : Nat} {a : α} {s : Nat} {S : Nat → Prop} (h : StampF enc H b a s) (k : Agr S H H') (hb : S b) : StampF enc H' b a s := by
  obtain ⟨es, clock, h1, h2⟩ := h
  exact ⟨es, clock, (k b hb).trans h1, h2⟩

/-- The map has turned. -/
def TurnM {α : Type} (enc : α → Value) (H : Heap) (K : Heap → Prop) (b : Nat) (m : α → Option Value) : Prop :=
  ∀ H', MapF enc H' b m → Agr (fun k => k ≠ b) H H' → H'.size = H.size → K H'
open Classical in
noncomputable def put {α : Type} (m : α → Option Value) (a : α) (v : Option Value) : α → Option Value := fun b => if b = a then v else m b
theorem put_self {α : Type} (m : α → Option Value) (a : α) (v : Option Value) : put m a v a = v := if_pos rfl
theorem put_ne {α : Type} {m : α → Option Value} {a b : α} {v : Option Value} (h : b ≠ a) : put m a v b = m b := if_neg h

section
variable {α : Type} {enc : α → Value} {P : Program} {t kt et : TypeId} {d : TypeDesc} {z : Value} {S : Nat → Prop} {H : Heap} {b : Nat} {m : α → Option Value} {a : α}
theorem stamped_key {es : Array MapEntry} {clock : Nat} (h : Go.MapKept.Stamped es clock) {i j : Nat} {x y : MapEntry} (hx : es[i]? = some x) (hy : es[j]? = some y) (e : x.key = y.key) : i = j := by
  have hn := h.2.2
  have hx' : (es.toList.map (·.key))[i]? = some x.key := by simp [hx]
  have hy' : (es.toList.map (·.key))[j]? = some x.key := by simp [hy, e]
  exact (List.getElem?_inj (List.getElem?_eq_some_iff.1 hx').1 hn).1 (hx'.trans hy'.symm)
theorem stamped_born {es : Array MapEntry} {clock : Nat} (h : Go.MapKept.Stamped es clock) {i j : Nat} {x y : MapEntry} (hx : es[i]? = some x) (hy : es[j]? = some y) (e : x.born = y.born) : i = j := by
  have hn := h.2.1
  have hx' : (es.toList.map (·.born))[i]? = some x.born := by simp [hx]
  have hy' : (es.toList.map (·.born))[j]? = some x.born := by simp [hy, e]
  exact (List.getElem?_inj (List.getElem?_eq_some_iff.1 hx').1 hn).1 (hx'.trans hy'.symm)
theorem zero_run (hz : (P.info? et).bind (·.zero) = some z) (w : World) : (zeroValue et).run P w = .ok z w := by
  cases hi : P.info? et with
  | none => rw [hi] at hz; cases hz
  | some i =>
    have hz' : i.zero = some z := by simpa [hi] using hz
    simp [zeroValue, typeInfo, hi, hz']
theorem find_spec (hk : KeyE d enc) {es : Array MapEntry} (hes : ∀ (i : Nat) (x : MapEntry), es[i]? = some x → ∃ a, x.key = enc a ∧ m a = some x.val) (hm : ∀ a v, m a = some v → ∃ (i : Nat) (x : MapEntry), es[i]? = some x ∧ x.key = enc a ∧ x.val = v) (a : α) :
    (Instr.findNow d (enc a) es.toList 0 = some none ∧ m a = none ∧ ∀ x ∈ es.toList, x.key ≠ enc a) ∨ ∃ j e, Instr.findNow d (enc a) es.toList 0 = some (some (j, e.val)) ∧ es[j]? = some e ∧ e.key = enc a ∧ m a = some e.val := by
  have hall : ∀ x ∈ es.toList, Go.MapKept.IsKey d x.key := fun x hx => by
    obtain ⟨i, hi⟩ := List.getElem?_of_mem hx
    obtain ⟨b, e1, _⟩ := hes i x (by simpa using hi)
    rw [e1]; exact hk.isKey b
  rcases Go.MapKept.findNow_spec (hk.isKey a) es.toList 0 hall with ⟨h1, h2⟩ | ⟨j, e, h1, h2, h3⟩
  · refine .inl ⟨h1, ?_, h2⟩
    cases hma : m a with
    | none => rfl
    | some v =>
      obtain ⟨i, x, hx, he, _⟩ := hm a v hma
      exact absurd he (h2 x (List.mem_of_getElem? (by simpa using hx)))
  · have hj : es[j]? = some e := by simpa using h2
    refine .inr ⟨j, e, by simpa using h1, hj, h3, ?_⟩
    obtain ⟨a', e1, e2⟩ := hes j e hj
    rw [hk.inj a a' (h3.symm.trans e1)]; exact e2

theorem mlook (ht : MapT P t kt et d z) (hk : KeyE d enc) (h : MapF enc H b m) (hb : S b) {K : Value → Prop} (k : K ((m a).getD z)) : VDet P (Instr.lookup t (.map (some b)) (enc a) false) S H K := by
  obtain ⟨es, clock, h1, h2, h3, h4⟩ := h
  refine VDet.mk _ (fun w hw => ?_) k
  have hb' := (hw b hb).trans h1
  rcases find_spec hk h3 h4 a with ⟨e1, e2, e3⟩ | ⟨j, e, e1, e2, e3, e4⟩
  · simp [Instr.lookup, run_underlying ht.under, Go.MapKept.run_getObj_map hb', Go.MapKept.run_checkKey ht.key (hk.isKey a), Go.MapKept.run_findKey ht.key e1, zero_run ht.zero, e2]
  · simp [Instr.lookup, run_underlying ht.under, Go.MapKept.run_getObj_map hb', Go.MapKept.run_checkKey ht.key (hk.isKey a), Go.MapKept.run_findKey ht.key e1, e4]
theorem mlookOk (ht : MapT P t kt et d z) (hk : KeyE d enc) (h : MapF enc H b m) (hb : S b) {K : Value → Prop} (k : K (.tuple #[(m a).getD z, .bool (m a).isSome])) : VDet P (Instr.lookup t (.map (some b)) (enc a) true) S H K := by
  obtain ⟨es, clock, h1, h2, h3, h4⟩ := h
  refine VDet.mk _ (fun w hw => ?_) k
  have hb' := (hw b hb).trans h1
  rcases find_spec hk h3 h4 a with ⟨e1, e2, e3⟩ | ⟨j, e, e1, e2, e3, e4⟩
  · simp [Instr.lookup, run_underlying ht.under, Go.MapKept.run_getObj_map hb', Go.MapKept.run_checkKey ht.key (hk.isKey a), Go.MapKept.run_findKey ht.key e1, zero_run ht.zero, e2]
  · simp [Instr.lookup, run_underlying ht.under, Go.MapKept.run_getObj_map hb', Go.MapKept.run_checkKey ht.key (hk.isKey a), Go.MapKept.run_findKey ht.key e1, e4]

abbrev setW (w : World) (b : Nat) (o : Obj) : World := { w with heap := w.heap.setIfInBounds b o }
theorem set_turn {w : World} {o o' : Obj} (h : w.heap[b]? = some o) : (setW w b o').heap[b]? = some o' ∧ Agr (fun k => k ≠ b) w.heap (setW w b o').heap ∧ (setW w b o').heap.size = w.heap.size :=
  ⟨(Go.MapKept.heap_set h).1, fun k hk => (Go.MapKept.heap_set h).2 k hk, by simp⟩
theorem push_new {es : Array MapEntry} {clock : Nat} (hs : Go.MapKept.Stamped es clock) (h3 : ∀ (i : Nat) (x : MapEntry), es[i]? = some x → ∃ a, x.key = enc a ∧ m a = some x.val) (h4 : ∀ a v, m a = some v → ∃ (i : Nat) (x : MapEntry), es[i]? = some x ∧ x.key = enc a ∧ x.val = v) (hne : ∀ x ∈ es.toList, x.key ≠ enc a) {H' : Heap} {v : Value}
    (hb : H'[b]? = some (.map (es.push ⟨enc a, v, clock⟩) (clock + 1))) : MapF enc H' b (put m a (some v)) ∧ StampF enc H' b a clock := by
  have hgt : ∀ i x, (es.push ⟨enc a, v, clock⟩)[i]? = some x → (i < es.size ∧ es[i]? = some x) ∨ (i = es.size ∧ x = ⟨enc a, v, clock⟩) := by
    intro i x hx
    rw [Array.getElem?_push] at hx
    by_cases hi : i = es.size
    · rw [if_pos hi] at hx; exact .inr ⟨hi, by cases hx; rfl⟩
    · rw [if_neg hi] at hx; exact .inl ⟨(Array.getElem?_eq_some_iff.1 hx).1, hx⟩
  refine ⟨⟨_, _, hb, Go.MapKept.stamped_push hs hne, fun i x hx => ?_, fun a' v' hv => ?_⟩, _, _, hb, fun i x hx => ?_⟩
  · rcases hgt i x hx with ⟨_, hx⟩ | ⟨_, rfl⟩
    · obtain ⟨a', e1, e2⟩ := h3 i x hx
      have : a' ≠ a := fun h => hne x (List.mem_of_getElem? (by simpa using hx)) (by rw [e1, h])
      exact ⟨a', e1, by rw [put_ne this]; exact e2⟩
    · exact ⟨a, rfl, put_self _ _ _⟩
  · by_cases ha : a' = a
    · subst ha
      rw [put_self] at hv
      cases hv
      exact ⟨es.size, ⟨enc a', v, clock⟩, by simp, rfl, rfl⟩
    · rw [put_ne ha] at hv
      obtain ⟨i, x, hx, e⟩ := h4 a' v' hv
      exact ⟨i, x, by rw [Array.getElem?_push, if_neg (by have := (Array.getElem?_eq_some_iff.1 hx).1; omega)]; exact hx, e⟩
  · rcases hgt i x hx with ⟨_, hx⟩ | ⟨_, rfl⟩
    · have hmem : x ∈ es.toList := List.mem_of_getElem? (by simpa using hx)
      have := hs.1 x hmem
      exact ⟨fun h => by omega, fun h => absurd h (hne x hmem)⟩
    · simp
theorem modify_old (hk : KeyE d enc) {es : Array MapEntry} {clock : Nat} (hs : Go.MapKept.Stamped es clock) (h3 : ∀ (i : Nat) (x : MapEntry), es[i]? = some x → ∃ a, x.key = enc a ∧ m a = some x.val) (h4 : ∀ a v, m a = some v → ∃ (i : Nat) (x : MapEntry), es[i]? = some x ∧ x.key = enc a ∧ x.val = v) {j : Nat} {e : MapEntry} (hj : es[j]? = some e) (he : e.key = enc a) {f : MapEntry → MapEntry} {v : Value}
    (hf1 : (f e).key = enc a) (hf2 : (f e).val = v) (hf3 : ∀ x, (f x).born = x.born) {H' : Heap}
    (hb : H'[b]? = some (.map (es.modify j f) clock)) : MapF enc H' b (put m a (some v)) ∧ StampF enc H' b a e.born := by
  have hgt : ∀ i x, (es.modify j f)[i]? = some x → (i ≠ j ∧ es[i]? = some x) ∨ (i = j ∧ x = f e) := by
    intro i x hx
    rw [Array.getElem?_modify] at hx
    by_cases hi : j = i
    · subst hi; rw [if_pos rfl, hj] at hx; exact .inr ⟨rfl, by cases hx; rfl⟩
    · rw [if_neg hi] at hx; exact .inl ⟨Ne.symm hi, hx⟩
  refine ⟨⟨_, _, hb, Go.MapKept.stamped_modify hs _ _ (fun x _ => hf3 x) (fun x _ hx => ?_), fun i x hx => ?_, fun a' v' hv => ?_⟩, _, _, hb, fun i x hx => ?_⟩
  · rw [hj] at hx; cases hx; rw [hf1, he]
  · rcases hgt i x hx with ⟨hne, hx⟩ | ⟨_, rfl⟩
    · obtain ⟨a', e1, e2⟩ := h3 i x hx
      have : a' ≠ a := fun h => hne (stamped_key hs hx hj (by rw [e1, h, he]))
      exact ⟨a', e1, by rw [put_ne this]; exact e2⟩
    · exact ⟨a, hf1, by rw [put_self, hf2]⟩
  · by_cases ha : a' = a
    · subst ha
      rw [put_self] at hv
      cases hv
      exact ⟨j, f e, by rw [Array.getElem?_modify, if_pos rfl, hj]; rfl, hf1, hf2⟩
    · rw [put_ne ha] at hv
      obtain ⟨i, x, hx, e1, e2⟩ := h4 a' v' hv
      refine ⟨i, x, ?_, e1, e2⟩
      rw [Array.getElem?_modify, if_neg ?_]
      · exact hx
      · rintro rfl
        rw [hj] at hx; cases hx
        exact ha (hk.inj _ _ (e1.symm.trans he))
  · rcases hgt i x hx with ⟨hne, hx⟩ | ⟨_, rfl⟩
    · exact ⟨fun h => absurd (stamped_born hs hx hj h) hne, fun h => absurd (stamped_key hs hx hj (h.trans he.symm)) hne⟩
    · exact ⟨fun _ => hf1, fun _ => hf3 e⟩

theorem mput (ht : MapT P t kt et d z) (hk : KeyE d enc) (h : MapF enc H b m) {v : Value} {K : Heap → Prop} (k : TurnM enc H K b (put m a (some v))) : VEffU P (Instr.mapUpdate t (.map (some b)) (enc a) v) H K := by
  obtain ⟨es, clock, h1, h2, h3, h4⟩ := h
  refine VEffU.mk fun w hw => ?_
  subst hw
  rcases find_spec hk h3 h4 a with ⟨e1, e2, e3⟩ | ⟨j, e, e1, e2, e3, e4⟩
  · obtain ⟨t1, t2, t3⟩ := set_turn (o' := .map (es.push ⟨enc a, v, clock⟩) (clock + 1)) h1
    exact ⟨setW w b (.map (es.push ⟨enc a, v, clock⟩) (clock + 1)), by simp [Instr.mapUpdate, run_underlying ht.under, Go.MapKept.run_getObj_map h1, Go.MapKept.run_checkKey ht.key (hk.isKey a), Go.MapKept.run_findKey ht.key e1, Go.MapKept.run_setObj_map _ h1], ⟨rfl, rfl, rfl⟩, k _ (push_new h2 h3 h4 e3 t1).1 t2 t3⟩
  · obtain ⟨t1, t2, t3⟩ := set_turn (o' := .map (es.modify j fun e => { e with key := enc a, val := v }) clock) h1
    exact ⟨setW w b (.map (es.modify j fun e => { e with key := enc a, val := v }) clock), by simp [Instr.mapUpdate, run_underlying ht.under, Go.MapKept.run_getObj_map h1, Go.MapKept.run_checkKey ht.key (hk.isKey a), Go.MapKept.run_findKey ht.key e1, Go.MapKept.run_setObj_map _ h1, e2, e3, Go.MapKept.run_keyThatStays (hk.isKey a)], ⟨rfl, rfl, rfl⟩, k _ (modify_old hk h2 h3 h4 e2 e3 (f := fun e => { e with key := enc a, val := v }) rfl rfl (fun _ => rfl) t1).1 t2 t3⟩
theorem mdel {vt : TypeId} {ats : Array TypeId} (ht : MapT P t kt et d z) (hk : KeyE d enc) (h : MapF enc H b m) {K : Value → Heap → Prop} (hat : ats[0]? = some t) (k : TurnM enc H (K (.tuple #[])) b (put m a none)) : VEff P (Builtin.delete_ ats vt [.map (some b), enc a].toArray) H K := by
  obtain ⟨es, clock, h1, h2, h3, h4⟩ := h
  refine VEff.mk fun w hw => ?_
  subst hw
  rcases find_spec hk h3 h4 a with ⟨e1, e2, e3⟩ | ⟨j, e, e1, e2, e3, e4⟩
  · obtain ⟨t1, t2, t3⟩ := set_turn (o' := .map es clock) h1
    refine ⟨_, setW w b (.map es clock), by simp [Builtin.delete_, hat, run_underlying ht.under, Go.MapKept.run_getObj_map h1, Go.MapKept.run_checkKey ht.key (hk.isKey a), Go.MapKept.run_findKey ht.key e1, Go.MapKept.run_setObj_map _ h1], ⟨rfl, rfl, rfl⟩, k _ ⟨es, clock, t1, h2, fun i x hx => ?_, fun a' v' hv => ?_⟩ t2 t3⟩
    · obtain ⟨a', e1, e2⟩ := h3 i x hx
      exact ⟨a', e1, by rw [put_ne (fun h => e3 x (List.mem_of_getElem? (by simpa using hx)) (by rw [e1, h]))]; exact e2⟩
    · by_cases ha : a' = a
      · subst ha; rw [put_self] at hv; cases hv
      · rw [put_ne ha] at hv; exact h4 a' v' hv
  · obtain ⟨t1, t2, t3⟩ := set_turn (o' := .map (es.eraseIdxIfInBounds j) clock) h1
    have hjl : j < es.size := (Array.getElem?_eq_some_iff.1 e2).1
    have hlist : (es.eraseIdxIfInBounds j).toList = es.toList.eraseIdx j := by simp [Array.eraseIdxIfInBounds, hjl]
    have hmem : ∀ x, x ∈ (es.eraseIdxIfInBounds j).toList ↔ ∃ i, i ≠ j ∧ es[i]? = some x := fun x => by
      rw [hlist, List.mem_eraseIdx_iff_getElem?]; simp
    refine ⟨_, setW w b (.map (es.eraseIdxIfInBounds j) clock), by simp [Builtin.delete_, hat, run_underlying ht.under, Go.MapKept.run_getObj_map h1, Go.MapKept.run_checkKey ht.key (hk.isKey a), Go.MapKept.run_findKey ht.key e1, Go.MapKept.run_setObj_map _ h1], ⟨rfl, rfl, rfl⟩, k _ ⟨_, clock, t1, Go.MapKept.stamped_erase h2 j, fun i x hx => ?_, fun a' v' hv => ?_⟩ t2 t3⟩
    · obtain ⟨i', hne, hx'⟩ := (hmem x).1 (List.mem_of_getElem? (i := i) (by rw [Array.getElem?_toList]; exact hx))
      obtain ⟨a', q1, q2⟩ := h3 i' x hx'
      exact ⟨a', q1, by rw [put_ne (fun h => hne (stamped_key h2 hx' e2 (by rw [q1, h, e3])))]; exact q2⟩
    · by_cases ha : a' = a
      · subst ha; rw [put_self] at hv; cases hv
      · rw [put_ne ha] at hv
        obtain ⟨i, x, hx, q1, q2⟩ := h4 a' v' hv
        have hij : i ≠ j := by
          rintro rfl
          rw [e2] at hx; cases hx
          exact ha (hk.inj _ _ (q1.symm.trans e3))
        obtain ⟨i', hi'⟩ := List.getElem?_of_mem ((hmem x).2 ⟨i, hij, hx⟩)
        exact ⟨i', x, by rw [← Array.getElem?_toList]; exact hi', q1, q2⟩
theorem mentry (ht : MapT P t kt et d z) (hk : KeyE d enc) (h : MapF enc H b m) {K : Value → Heap → Prop}
    (k : ∀ H' s, MapF enc H' b (put m a (some ((m a).getD z))) → StampF enc H' b a s → Agr (fun k => k ≠ b) H H' → H'.size = H.size → K (.tuple #[(m a).getD z, .int .i64 (s : Int)]) H') : VEff P (Instr.mapEntry t (.map (some b)) (enc a)) H K := by
  obtain ⟨es, clock, h1, h2, h3, h4⟩ := h
  refine VEff.mk fun w hw => ?_
  subst hw
  rcases find_spec hk h3 h4 a with ⟨e1, e2, e3⟩ | ⟨j, e, e1, e2, e3, e4⟩
  · obtain ⟨t1, t2, t3⟩ := set_turn (o' := .map (es.push ⟨enc a, z, clock⟩) (clock + 1)) h1
    have hp := push_new h2 h3 h4 e3 t1
    refine ⟨.tuple #[z, .int .i64 (clock : Int)], setW w b (.map (es.push ⟨enc a, z, clock⟩) (clock + 1)), by simp [Instr.mapEntry, run_underlying ht.under, Go.MapKept.run_getObj_map h1, Go.MapKept.run_checkKey ht.key (hk.isKey a), Go.MapKept.run_findKey ht.key e1, Go.MapKept.run_setObj_map _ h1, zero_run ht.zero, goInt], ⟨rfl, rfl, rfl⟩, ?_⟩
    have := k _ clock (by rw [e2]; exact hp.1) hp.2 t2 t3
    rw [e2] at this
    exact this
  · obtain ⟨t1, t2, t3⟩ := set_turn (o' := .map (es.modify j fun e => { e with key := enc a }) clock) h1
    have hp := modify_old hk h2 h3 h4 e2 e3 (f := fun e => { e with key := enc a }) (v := e.val) rfl rfl (fun _ => rfl) t1
    refine ⟨.tuple #[e.val, .int .i64 (e.born : Int)], setW w b (.map (es.modify j fun e => { e with key := enc a }) clock), by simp [Instr.mapEntry, run_underlying ht.under, Go.MapKept.run_getObj_map h1, Go.MapKept.run_checkKey ht.key (hk.isKey a), Go.MapKept.run_findKey ht.key e1, Go.MapKept.run_setObj_map _ h1, e2, e3, Go.MapKept.run_keyThatStays (hk.isKey a), goInt], ⟨rfl, rfl, rfl⟩, ?_⟩
    have := k _ e.born (by rw [e4]; exact hp.1) hp.2 t2 t3
    rw [e4] at this
    exact this
theorem mstore {u : TypeId} (hk : KeyE d enc) (h : MapF enc H b m) {s : Nat} (hs : StampF enc H b a s) (hin : (m a).isSome = true) {v : Value} {K : Heap → Prop} (k : TurnM enc H K b (put m a (some v))) : VEffU P (Instr.entryStore u (.map (some b)) (.int .i64 (s : Int)) v) H K := by
  obtain ⟨es, clock, h1, h2, h3, h4⟩ := h
  obtain ⟨es', clock', h1', h5⟩ := hs
  rw [h1] at h1'; cases h1'
  refine VEffU.mk fun w hw => ?_
  subst hw
  obtain ⟨v0, hv0⟩ := Option.isSome_iff_exists.1 hin
  obtain ⟨i, x, hx, q1, q2⟩ := h4 a v0 hv0
  have hb := (h5 i x hx).2 q1
  have hfi : es.findIdx? (fun e => (e.born : Int) == (s : Int)) = some i := by
    rw [Array.findIdx?_eq_some_iff_getElem]
    have hil := (Array.getElem?_eq_some_iff.1 hx).1
    have hxi : es[i] = x := (Array.getElem?_eq_some_iff.1 hx).2
    refine ⟨hil, by simp [hxi, hb], fun j hji => ?_⟩
    have hjx : es[j]? = some es[j] := Array.getElem?_eq_getElem (by omega)
    intro hbj
    have hbj' : es[j].born = s := by
      have : (es[j].born : Int) = (s : Int) := by simpa using hbj
      omega
    have := stamped_born h2 hjx hx (hbj'.trans hb.symm)
    omega
  obtain ⟨t1, t2, t3⟩ := set_turn (o' := .map (es.modify i fun e => { e with val := v }) clock) h1
  exact ⟨setW w b (.map (es.modify i fun e => { e with val := v }) clock), by simp [Instr.entryStore, Go.MapKept.run_getObj_map h1, asInt, asIntOf, hfi, Go.MapKept.run_setObj_map _ h1], ⟨rfl, rfl, rfl⟩, k _ (modify_old hk h2 h3 h4 hx q1 (f := fun e => { e with val := v }) q1 rfl (fun _ => rfl) t1).1 t2 t3⟩
theorem mmake {K : Value → Heap → Prop} (k : ∀ b H', b = H.size → H'.size = b + 1 → MapF enc H' b (fun _ => none) → Agr (fun k => k < b) H H' → K (.map (some b)) H') : VEff P (Instr.makeMap t none) H K := by
  refine VEff.mk fun w hw => ?_
  subst hw
  exact ⟨_, w.alloc (.map #[] 0), by simp [Instr.makeMap], ⟨rfl, rfl, rfl⟩, k w.heap.size _ rfl (by rw [alloc_heap]; simp) ⟨#[], 0, by rw [alloc_heap]; simp, Go.MapKept.stamped_empty 0, by simp, by simp⟩ (heap_push_old _ _)⟩
end

end Go.VC

/- Maps of the call's own as pieces. -/
set_option linter.unusedVariables false
set_option linter.unusedSimpArgs false
namespace Go.VC
section
variable {α : Type} {enc : α → Value} {b : Nat} {m m' : α → Option Value} {B : Nat → Prop} {H0 H H' : Heap} {ps : List Pc}
def pM (enc : α → Value) (b : Nat) (m : α → Option Value) : Pc := ⟨fun k => k = b, fun H => MapF enc H b m, fun h hp => hp.agr h rfl⟩
theorem StB.mapNew (st : StB B H0 H ps) (hb : b = H.size) (hs : H'.size = b + 1) (hm : MapF enc H' b (fun _ => none)) (ha : Agr (fun k => k < b) H H') : StB B H0 H' (ps ++ [pM enc b fun _ => none]) := by
  subst hb
  exact st.add (ha.mono fun k hk => hk) _ hm fun k hk => by have : k = H.size := hk; omega
theorem StB.map (st : StB B H0 H ps) (i : Nat) (hp : ps[i]? = some (pM enc b m)) : MapF enc H b m := st.at_ i hp
theorem mputP {P : Program} {t kt et : TypeId} {d : TypeDesc} {z v : Value} {a : α} {K : Heap → Prop} (st : StB B H0 H ps) (i : Nat) (ht : MapT P t kt et d z) (hk : KeyE d enc) (hp : ps[i]? = some (pM enc b m)) (hm : ∀ a', put m a (some v) a' = m' a')
    (k : ∀ H', StB B H0 H' (ps.set i (pM enc b m')) → K H') : VEffU P (Instr.mapUpdate t (.map (some b)) (enc a) v) H K := by
  refine mput ht hk (st.map i hp) ?_
  intro H' hb' ha' hs'
  exact k H' (st.upd i hp (ha'.mono fun k hk hkb => hk.2 hkb) (pM enc b m') (hb'.ext hm) (fun k hk => .inl hk) (fun k hk => by rw [hs']; exact (st.in_ i hp hk).2) (by omega))
end
end Go.VC

/- Maps of slices of the call's own; cutting a slice's head off. -/
set_option linter.unusedVariables false
set_option linter.unusedSimpArgs false
namespace Go.VC
open Classical in
noncomputable def upd {α β : Type} (f : α → β) (a : α) (v : β) : α → β := fun b => if b = a then v else f b
theorem upd_self {α β : Type} (f : α → β) (a : α) (v : β) : upd f a v a = v := if_pos rfl
theorem upd_ne {α β : Type} {f : α → β} {a b : α} {v : β} (h : b ≠ a) : upd f a v b = f b := if_neg h

/-- What the map holds at a, nil where it holds nothing. -/
def slAt {α : Type} (m : α → Option Value) (a : α) : Value := (m a).getD (.slice none 0 0)
theorem slAt_put {α : Type} (m : α → Option Value) (a : α) (v : Value) : slAt (put m a (some v)) a = v := by simp [slAt, put_self]
theorem slAt_ne {α : Type} {m : α → Option Value} {a b : α} {v : Option Value} (h : b ≠ a) : slAt (put m a v) b = slAt m b := by simp [slAt, put_ne h]
structure Qs {α β : Type} (enc : α → Value) (T : Ty β) (H : Heap) (lo : Nat) (e : TypeId) (mb : Nat) (m : α → Option Value) (xs : α → List β) : Prop where
  map : MapF enc H mb m
  lt : mb < lo
  own : ∀ k, SlO T (fun _ => False) H lo e (slAt m k) (xs k)
  apart : ∀ k k' b, k ≠ k' → slB (slAt m k) b → ¬ slB (slAt m k') b
section
variable {α β : Type} {enc : α → Value} {T : Ty β} {H H1 H2 : Heap} {lo mb : Nat} {e : TypeId} {m : α → Option Value} {xs : α → List β} {S' : Nat → Prop}
theorem Qs.agr (h : Qs enc T H lo e mb m xs) (k : Agr S' H H1) (hm : S' mb) (hlo : ∀ b, lo ≤ b → b < H.size → S' b) : Qs enc T H1 lo e mb m xs :=
  ⟨h.map.agr k hm, h.lt, fun a => (h.own a).agr k (fun b hb => hlo b ((h.own a).lt hb).1 ((h.own a).lt hb).2) (fun _ f => f.elim), h.apart⟩
theorem Qs.new (h : MapF enc H mb (fun _ => none)) (hl : mb < lo) : Qs enc T H lo e mb (fun _ => none) (fun _ => []) :=
  ⟨h, hl, fun _ => SlO.nil, fun k k' b _ hb => by obtain ⟨o, n, c, h⟩ := hb; cases h⟩
theorem Qs.ext {ys : α → List β} (h : Qs enc T H lo e mb m xs) (hx : ∀ k, xs k = ys k) : Qs enc T H lo e mb m ys := (funext hx : xs = ys) ▸ h
theorem Qs.push {a : α} {v' : Value} {x' : List β} (h : Qs enc T H lo e mb m xs) (hown : SlO T (fun _ => False) H1 lo e v' x') (ha : Agr (fun k => k < H.size ∧ ¬ slB (slAt m a) k) H H1)
    (hfresh : ∀ k, slB v' k → slB (slAt m a) k ∨ H.size ≤ k) (hmap : MapF enc H2 mb (put m a (some v'))) (ha2 : Agr (fun k => k ≠ mb) H1 H2) : Qs enc T H2 lo e mb (put m a (some v')) (upd xs a x') := by
  have hl := h.lt
  refine ⟨hmap, h.lt, fun k => ?_, fun k k' b hkk hb hb' => ?_⟩
  · by_cases hk : k = a
    · subst hk
      rw [slAt_put, upd_self]
      exact hown.agr ha2 (fun b hb => by have := (hown.lt hb).1; omega) (fun _ f => f.elim)
    · rw [slAt_ne hk, upd_ne hk]
      have h1 := h.own k
      exact (h1.agr ha (fun b hb => ⟨(h1.lt hb).2, h.apart k a b hk hb⟩) (fun _ f => f.elim)).agr ha2 (fun b hb => by have := (h1.lt hb).1; omega) (fun _ f => f.elim)
  · have old : ∀ j, j ≠ a → slB (slAt (put m a (some v')) j) b → ¬ slB v' b := by
      intro j hj hjb hv
      rw [slAt_ne hj] at hjb
      rcases hfresh b hv with h1 | h1
      · exact h.apart j a b hj hjb h1
      · have := ((h.own j).lt hjb).2; omega
    by_cases hk : k = a
    · subst hk
      rw [slAt_put] at hb
      exact old k' (Ne.symm hkk) hb' hb
    · by_cases hk' : k' = a
      · subst hk'
        rw [slAt_put] at hb'
        exact old k hk hb hb'
      · rw [slAt_ne hk] at hb
        rw [slAt_ne hk'] at hb'
        exact h.apart k k' b hkk hb hb'
/-- The slices, to be read only. -/
theorem Qs.view (h : Qs enc T H lo e mb m xs) (k : α) : ∃ a cap, slAt m k = .slice a (xs k).length cap ∧ SlD T (fun j => lo ≤ j ∧ j < H.size) H a cap (xs k) := by
  obtain ⟨a, cap, h1, h2, -⟩ := (h.own k).view (S' := fun j => lo ≤ j ∧ j < H.size) (fun b hb => (h.own k).lt hb) (fun _ f => f.elim)
  exact ⟨a, cap, h1, h2⟩
end

theorem Ty.reps_drop {α : Type} {T : Ty α} {S : Nat → Prop} {H : Heap} : ∀ {xs : List α} {cs : List Value} (i : Nat), i ≤ xs.length → T.reps S H cs xs → ∃ l r, cs = l ++ r ∧ l.length = i * T.size ∧ T.reps S H r (xs.drop i)
  | xs, cs, 0, _, h => ⟨[], cs, rfl, by simp, h⟩
  | x :: xs, cs, i + 1, hi, ⟨c, r, e, h1, h2⟩ => by
    obtain ⟨l, r', e', hl, hr⟩ := Ty.reps_drop i (by simpa using hi) h2
    exact ⟨c ++ l, r', by rw [e, e', List.append_assoc], by rw [List.length_append, T.len h1, hl, Nat.succ_mul]; omega, hr⟩
  | [], cs, i + 1, hi, _ => by simp at hi
theorem vcutL {α : Type} {T : Ty α} {P : Program} {t e by_ : Nat} {z : Value} {S S' : Nat → Prop} {H : Heap} {K : Value → Prop} {a : Option Addr} {cap l : Nat} {ki : IntKind} {i : Int} {xs : List α} (ht : SlT P t e T.size by_ z) (h : SlD T S' H a cap xs) (hi : i = (l : Int)) (hl : l ≤ xs.length)
    (k : ∀ a', SlD T S' H a' (cap - l) (xs.drop l) → K (.slice a' (xs.drop l).length (cap - l))) : VDet P (Instr.sliceAt t (.slice a xs.length cap) (some (.int ki i)) none none) S H K := by
  subst hi
  obtain ⟨inf, hi, hs, _, _⟩ := ht.info
  have hle := h.le
  have hk : K (.slice (if cap = l then a else a.map (·.add (l * T.size))) (xs.length - l) (cap - l)) := by
    have := k (if cap = l then a else a.map (·.add (l * T.size))) ?_
    · rwa [List.length_drop] at this
    · by_cases hc : cap = l
      · rw [if_pos hc]
        cases a with
        | none => obtain ⟨rfl, rfl⟩ := h; simp [SlD]
        | some ad => exact ⟨by simp; omega, by omega, .inl (by omega)⟩
      · rw [if_neg hc]
        cases a with
        | none => obtain ⟨rfl, rfl⟩ := h; simp [SlD]
        | some ad =>
          obtain ⟨h3, h4, h0 | ⟨h1, h2, ec, h5, h6⟩⟩ := h
          · omega
          · obtain ⟨b, o, sp⟩ := ad
            simp only at h1 h2 h5
            subst h1
            obtain ⟨l', r, rfl, hl', hr⟩ := Ty.reps_drop l hl h6
            refine ⟨by simp; omega, by omega, .inr ?_⟩
            show (Addr.add ⟨b, o, none⟩ (l * T.size)).spot = none ∧ _
            simp only [Addr.add_mid]
            exact ⟨trivial, h2, r, by rw [← hl']; exact h5.right, hr⟩
  refine VDet.mk _ (fun w _ => ?_) hk
  have h1 : ¬ (xs.length < l) := by omega
  simp [Instr.sliceAt, Instr.slice, run_underlying ht.under, Instr.sliceBounds, Instr.sliceBound, asIntOf, h1, sizeOf, typeInfo, hi, hs]

theorem text_beq (a b : ByteArray) : (a.toList == b.toList) = decide (a.data.toList = b.data.toList) := by
  rw [ByteArray.toList_eq, ByteArray.toList_eq]
  by_cases h : a.data.toList = b.data.toList
  · rw [decide_eq_true h, h]; simp
  · rw [decide_eq_false h]
    exact Bool.eq_false_iff.2 fun hh => h (by simpa using hh)
theorem text_inj {a b : ByteArray} (h : a.data.toList = b.data.toList) : a = b := by
  cases a; cases b; simp_all [Array.toList_inj]
theorem text_eq (a b : ByteArray) : (a.toList == b.toList) = true ↔ a = b := by
  rw [text_beq, decide_eq_true_eq]
  exact ⟨text_inj, fun h => by rw [h]⟩
end Go.VC

/- Slices of the call's own whose head is cut off and that are appended to: queues; bytes put together as texts. -/
set_option linter.unusedVariables false
set_option linter.unusedSimpArgs false
namespace Go.VC

/-- v is a slice over a block of the call's own, from wherever in it, or nil; it holds xs. -/
def SlQ {α : Type} (T : Ty α) (S : Nat → Prop) (H : Heap) (e : TypeId) (v : Value) (xs : List α) : Prop :=
  ∃ cs, cs.length = xs.length * T.size ∧ T.reps S H cs xs ∧ ((v = .slice none 0 0 ∧ xs = []) ∨
    ∃ b o cap l, v = .slice (some ⟨b, o, none⟩) xs.length cap ∧ Blk H b e l ∧ xs.length ≤ cap ∧ cap ≤ maxLen ∧ o + cap * T.size ≤ l.length ∧ ∀ j u, cs[j]? = some u → l[o + j]? = some u)
section
variable {α : Type} {T : Ty α} {S S' : Nat → Prop} {H H' : Heap} {e : TypeId} {v : Value} {xs : List α}
theorem SlQ.agr (h : SlQ T S H e v xs) (k : Agr S' H H') (hb : ∀ b, slB v b → S' b) (hs : ∀ b, S b → S' b) : SlQ T S H' e v xs := by
  obtain ⟨cs, h1, h2, h3⟩ := h
  refine ⟨cs, h1, Ty.reps_frame (k.mono hs) h2, ?_⟩
  rcases h3 with h3 | ⟨b, o, cap, l, rfl, h4, r⟩
  · exact .inl h3
  · exact .inr ⟨b, o, cap, l, rfl, h4.agr k (hb b ⟨_, _, _, rfl⟩), r⟩
theorem SlQ.hull (h : SlQ T S H e v xs) : ∃ a cap, v = .slice a xs.length cap := by
  obtain ⟨cs, h1, h2, ⟨rfl, rfl⟩ | ⟨b, o, cap, l, rfl, r⟩⟩ := h
  · exact ⟨_, _, rfl⟩
  · exact ⟨_, _, rfl⟩
theorem SlQ.lt (h : SlQ T S H e v xs) {b : Nat} (hb : slB v b) : b < H.size := by
  obtain ⟨o', n', c', rfl⟩ := hb
  obtain ⟨cs, h1, h2, ⟨h3, h4⟩ | ⟨b', o, cap, l, h3, h4, r⟩⟩ := h
  · cases h3
  · injection h3 with h3
    injection h3 with h3
    injection h3 with h3
    subst h3
    exact h4.lt
theorem SlQ.ofO {lo : Nat} (h : SlO T S H lo e v xs) : SlQ T S H e v xs := by
  obtain ⟨cs, ⟨h0, h1⟩, h2⟩ := h
  refine ⟨cs, h0, h2, ?_⟩
  rcases h1 with ⟨rfl, h1⟩ | ⟨b, cap, l, rfl, h4, h5, h6, h7, h8, h9⟩
  · exact .inl ⟨rfl, List.eq_nil_of_length_eq_zero h1⟩
  · refine .inr ⟨b, 0, cap, l, rfl, h5, h6, h7, by omega, fun j u hu => ?_⟩
    rw [← h9, List.getElem?_take] at hu
    split at hu
    · rw [Nat.zero_add]; exact hu
    · cases hu
theorem SlQ.view {n cap : Nat} {a : Option Addr} (h : SlQ T S H e (.slice a n cap) xs) (hb : ∀ b, slB (.slice a n cap) b → S' b) (hs : ∀ b, S b → S' b) : n = xs.length ∧ SlD T S' H a cap xs := by
  obtain ⟨cs, h1, h2, ⟨h3, h4⟩ | ⟨b, o, cap', l, h3, h4, h5, h6, h7, h8⟩⟩ := h
  · injection h3 with e1 e2 e3
    subst e1; subst e2; subst e3; subst h4
    exact ⟨rfl, rfl, rfl⟩
  · injection h3 with e1 e2 e3
    subst e1; subst e2; subst e3
    exact ⟨rfl, SlD.intro (hb b ⟨_, _, _, rfl⟩) h5 h6 (h4.cells h8) (Ty.reps_mono hs h2)⟩
theorem vappendQ {P : Program} {t ty by_ : Nat} {z : Value} {K : Value → Heap → Prop} (ht : SlT P t e T.size by_ z) {q o m cap : Nat} {ys : List α} {ds : List Value}
    (hs : SlQ T S H e v xs) (hS : ∀ k, S k → k < H.size ∧ ¬ slB v k) (hd : Cells H q o ds) (hy : T.reps S H ds ys) (hm : m = ys.length) (h1 : ∀ u ∈ ds, u.oneCell' = true)
    (h63 : xs.length + ys.length ≤ maxLen) (hby : (xs.length + ys.length) * by_ ≤ 140737488355328)
    (h : ∀ v' H', SlQ T S H' e v' (xs ++ ys) → Agr (fun k => k < H.size ∧ ¬ slB v k) H H' → H.size ≤ H'.size → (∀ k, slB v' k → slB v k ∨ H.size ≤ k) → K v' H') :
    VEff P (Builtin.append_ #[t, t] ty [v, .slice (some ⟨q, o, none⟩) m cap].toArray) H K := by
  subst hm
  refine VEff.mk fun w hw => ?_
  subst hw
  obtain ⟨inf, hi, hsi, hbi, hz⟩ := ht.info
  have hsrc : Src P inf.size t (.slice (some ⟨q, o, none⟩) ys.length cap) ys.length ds w := by
    rw [hsi]
    refine Src.ofSlice w ht.under ⟨q, o, none⟩ ys.length cap ds (Ty.reps_len hy) (fun j u hu => ?_) h1
    rw [Addr.add_mid, cell_w]
    exact hd j u hu
  have hnl : ds.length = ys.length * T.size := Ty.reps_len hy
  obtain ⟨cs, hcl, hr, hs2⟩ := hs
  have h63' : xs.length + ys.length ≤ 9223372036854775807 := by simp only [maxLen] at h63; omega
  have hlen : (cs ++ ds).length = (xs ++ ys).length * T.size := by rw [List.length_append, List.length_append, hcl, hnl, Nat.add_mul]
  have reps : ∀ {H' : Heap}, Agr (fun k => k < w.heap.size ∧ ¬ slB v k) w.heap H' → T.reps S H' (cs ++ ds) (xs ++ ys) := fun k => Ty.reps_append (Ty.reps_frame (k.mono hS) hr) (Ty.reps_frame (k.mono hS) hy)
  have grow : ∀ (base : Option Addr) (cap' : Nat), v = .slice base xs.length cap' → cap' < xs.length + ys.length → (Builtin.firstCells inf.size xs.length (.slice base xs.length cap')).run P w.drew = .ok cs.toArray w.drew →
      ∃ v' w', (Builtin.append_ #[t, t] ty [v, .slice (some ⟨q, o, none⟩) ys.length cap].toArray).run P w = .ok v' w' ∧ Env w w' ∧ K v' w'.heap := by
    intro base cap' hv hcap hold
    subst hv
    have hrun := run_append_grow_src (P := P) w t t ty e inf z ht.under hi hz base xs.length cap' cs hold _ ys.length ds hsrc hcap (by omega) (growslice_fits (by omega) (by rw [hbi]; exact hby))
    refine ⟨_, _, hrun, ⟨rfl, rfl, rfl⟩, ?_⟩
    have hge := grownCap_ge w (xs.length + ys.length) cap' e
    have hle := grownCap_le_maxLen w (xs.length + ys.length) cap' e h63
    have hagr : Agr (fun k => k < w.heap.size ∧ ¬ slB (.slice base xs.length cap') k) w.heap (w.drew.alloc (.cells ((cs ++ ds).toArray ++ Builtin.zeroCells z.cells (grownCap w (xs.length + ys.length) cap' e - (xs.length + ys.length))) e)).heap := fun k hk => heap_push_old w.heap _ k hk.1
    have hblk : Blk (w.drew.alloc (.cells ((cs ++ ds).toArray ++ Builtin.zeroCells z.cells (grownCap w (xs.length + ys.length) cap' e - (xs.length + ys.length))) e)).heap w.heap.size e
        ((cs ++ ds) ++ (Builtin.zeroCells z.cells (grownCap w (xs.length + ys.length) cap' e - (xs.length + ys.length))).toList) := by
      unfold Blk
      have : (w.drew.alloc (.cells ((cs ++ ds).toArray ++ Builtin.zeroCells z.cells (grownCap w (xs.length + ys.length) cap' e - (xs.length + ys.length))) e)).heap = w.heap.push (.cells ((cs ++ ds).toArray ++ Builtin.zeroCells z.cells (grownCap w (xs.length + ys.length) cap' e - (xs.length + ys.length))) e) := rfl
      rw [this]
      simp
    refine h _ _ ⟨cs ++ ds, hlen, reps hagr, .inr ⟨w.heap.size, 0, _, _, by rw [List.length_append], hblk, by rw [List.length_append]; exact hge, hle, ?_, ?_⟩⟩ hagr ?_ ?_
    · have e2 : (cs ++ ds).length = (xs.length + ys.length) * T.size := by rw [hlen, List.length_append]
      have e3 : ∀ g : Nat, (Builtin.zeroCells z.cells g).toList.length = g * T.size := fun g => by rw [Array.length_toList, size_zeroCells, ht.zsz]
      rw [List.length_append (as := cs ++ ds), e2, e3, ← Nat.add_mul, Nat.zero_add]
      exact Nat.mul_le_mul_right _ (by omega)
    · intro j u hu
      rw [Nat.zero_add, List.getElem?_append_left (List.getElem?_eq_some_iff.1 hu).1]
      exact hu
    · show w.heap.size ≤ (w.heap.push _).size
      simp
    · rintro k ⟨o, n', c, hk⟩
      cases hk
      exact .inr (Nat.le_refl _)
  rcases hs2 with ⟨rfl, rfl⟩ | ⟨b, oo, cap', l, rfl, hb, hnc, hcm, hll, hget⟩
  · have hcs : cs = [] := List.eq_nil_of_length_eq_zero (by simpa using hcl)
    subst hcs
    by_cases hm : ys.length = 0
    · obtain rfl : ys = [] := List.eq_nil_of_length_eq_zero hm
      have hn : ds = [] := List.eq_nil_of_length_eq_zero (by simpa using hnl)
      subst hn
      refine ⟨.slice none 0 0, w, ?_, Env.refl w, h _ _ ⟨[], by simp, rfl, .inl ⟨rfl, rfl⟩⟩ (Agr.refl _ _) (Nat.le_refl _) (fun k hk => .inl hk)⟩
      have k1 := hsrc.len
      have k2 := hsrc.cells
      simp only [List.length_nil] at k1 k2
      rcases hsrc.kind with ⟨e', hk⟩ | hk <;> simp [Builtin.append_, run_underlying ht.under, run_underlying hk, sizeOf, typeInfo, hi, k1, k2]
    · exact grow none 0 rfl (by simp; omega) (by simp [Builtin.firstCells])
  · by_cases hroom : xs.length + ys.length ≤ cap'
    · have hmul : xs.length * T.size + ds.length ≤ cap' * T.size := by rw [hnl, ← Nat.add_mul]; exact Nat.mul_le_mul_right _ hroom
      have hrun := run_append_room_src (P := P) w t t ty e inf ht.under hi b oo xs.length cap' _ ys.length ds hsrc hroom
        (fun j hj => by rw [cell_w, hb.cell, hsi]; simp; omega) (fun j hj => frozen_blk hb)
      have hfit : oo + xs.length * inf.size + ds.length ≤ l.length := by rw [hsi]; omega
      obtain ⟨h1', h2, h3, h4⟩ := setCells_blk ds (oo + xs.length * inf.size) l w hb hfit
      have hagr : Agr (fun k => k < w.heap.size ∧ ¬ slB (.slice (some ⟨b, oo, none⟩) xs.length cap') k) w.heap (w.setCells b (oo + xs.length * inf.size) ds).heap := h2.mono fun k hk hkb => by subst hkb; exact hk.2 ⟨oo, _, cap', rfl⟩
      refine ⟨_, _, hrun, h4, h _ _ ⟨cs ++ ds, hlen, reps hagr, .inr ⟨b, oo, cap', _, by rw [List.length_append], h1', by rw [List.length_append]; exact hroom, hcm, ?_, ?_⟩⟩ hagr (by omega) ?_⟩
      · rw [splice_length hfit]; exact hll
      · intro j u hu
        rw [splice_get hfit, hsi]
        by_cases hj : j < cs.length
        · rw [List.getElem?_append_left hj] at hu
          rw [if_neg (by omega)]
          exact hget j u hu
        · rw [List.getElem?_append_right (by omega)] at hu
          have := (List.getElem?_eq_some_iff.1 hu).1
          rw [if_pos (by omega), show oo + j - (oo + xs.length * T.size) = j - cs.length by omega]
          exact hu
      · rintro k ⟨o, n', c, hk⟩
        cases hk
        exact .inl ⟨oo, xs.length, cap', rfl⟩
    · refine grow (some ⟨b, oo, none⟩) cap' rfl (by omega) ?_
      have hc : Cells w.heap b oo cs := hb.cells hget
      have := run_firstCells_some (P := P) w.drew inf.size xs.length ⟨b, oo, none⟩ xs.length cap' cs (by rw [hsi]; exact hcl) (fun j v hv => by
        rw [Addr.add_mid]
        exact range_w (w := w.drew) (H := w.heap) hc rfl j v hv)
      exact this
/-- The head is cut off. -/
theorem vcutQ {P : Program} {t by_ : Nat} {z : Value} {ki : IntKind} {S0 : Nat → Prop} {a : Option Addr} {n cap : Nat} {x : α} {H2 : Heap} {K : Value → Prop} (ht : SlT P t e T.size by_ z) (h : SlQ T S H e (.slice a n cap) (x :: xs))
    (k : ∀ a' cap', SlQ T S H e (.slice a' xs.length cap') xs → (∀ b, slB (.slice a' xs.length cap') b → slB (.slice a n cap) b) → K (.slice a' xs.length cap')) : VDet P (Instr.sliceAt t (.slice a n cap) (some (.int ki 1)) none none) S0 H2 K := by
  obtain ⟨inf, hi, hs, _, _⟩ := ht.info
  obtain ⟨cs, h1, h2, ⟨h3, h4⟩ | ⟨b, o, cap', l, h3, h4, h5, h6, h7, h8⟩⟩ := h
  · cases h4
  · injection h3 with e1 e2 e3
    subst e1; subst e2; subst e3
    simp only [List.length_cons] at h5 h1
    obtain ⟨c, r, rfl, hc, hr⟩ := h2
    have hcl := T.len hc
    have hk : K (.slice (if cap = 1 then some ⟨b, o, none⟩ else some ⟨b, o + T.size, none⟩) xs.length (cap - 1)) := by
      refine k _ _ ⟨r, by rw [List.length_append, Nat.add_mul] at h1; omega, hr, .inr ?_⟩ ?_
      · have hm : cap * T.size = (cap - 1) * T.size + T.size := by rw [← Nat.succ_mul]; congr 1; omega
        by_cases hc1 : cap = 1
        · rw [if_pos hc1]
          have hx : xs = [] := List.eq_nil_of_length_eq_zero (by omega)
          subst hx
          have hr0 : r = [] := by simpa [Ty.reps] using hr
          subst hr0
          exact ⟨b, o, cap - 1, l, rfl, h4, by simp, by omega, by subst hc1; simp; omega, fun j u hu => by simp at hu⟩
        · rw [if_neg hc1]
          refine ⟨b, o + T.size, cap - 1, l, rfl, h4, by omega, by omega, by omega, fun j u hu => ?_⟩
          have := h8 (c.length + j) u (by rw [List.getElem?_append_right (by omega), Nat.add_sub_cancel_left]; exact hu)
          rw [hcl, ← Nat.add_assoc] at this
          exact this
      · rintro k ⟨o', n', c', hk⟩
        by_cases hc1 : cap = 1
        · rw [if_pos hc1] at hk; cases hk; exact ⟨_, _, _, rfl⟩
        · rw [if_neg hc1] at hk; cases hk; exact ⟨_, _, _, rfl⟩
    refine VDet.mk _ (fun w _ => ?_) hk
    have ha : (⟨b, o, none⟩ : Addr).add (1 * T.size) = ⟨b, o + T.size, none⟩ := by rw [Nat.one_mul]; exact Addr.add_mid _ _ _
    have h9 : ¬ ((xs.length : Int) + 1 < 1) := by omega
    have h10 : (1 : Int) ≤ (xs.length : Int) + 1 := by omega
    by_cases hc1 : cap = 1
    · subst hc1
      simp [Instr.sliceAt, Instr.slice, run_underlying ht.under, Instr.sliceBounds, Instr.sliceBound, asIntOf, sizeOf, typeInfo, hi, hs, h9, h10]
    · simp [Instr.sliceAt, Instr.slice, run_underlying ht.under, Instr.sliceBounds, Instr.sliceBound, asIntOf, sizeOf, typeInfo, hi, hs, hc1, h9, h10]
      simp [Nat.one_mul] at ha
      exact ha
end

/-! ### as pieces -/
section
variable {α : Type} {T : Ty α} {e : TypeId} {a : Option Addr} {n cap : Nat} {xs : List α} {B : Nat → Prop} {H0 H H' : Heap} {ps : List Pc}
def pQ (T : Ty α) (e : TypeId) (a : Option Addr) (n cap : Nat) (xs : List α) : Pc := ⟨fun k => slB (.slice a n cap) k, fun H => SlQ T none_ H e (.slice a n cap) xs, fun h hp => hp.agr h (fun _ hb => hb) (fun _ f => f.elim)⟩
theorem StB.qview (st : StB B H0 H ps) (i : Nat) (hp : ps[i]? = some (pQ T e a n cap xs)) : n = xs.length ∧ SlD T (Old H) H a cap xs :=
  SlQ.view (st.at_ i hp) (fun b hb => (st.in_ i hp hb).2) (fun _ f => f.elim)
/-- A slice turns to a queue. -/
theorem StB.toQ (st : StB B H0 H ps) (i : Nat) (hp : ps[i]? = some (pS T e a n cap xs)) : StB B H0 H (ps.set i (pQ T e a n cap xs)) :=
  st.say i hp _ (SlQ.ofO (st.at_ i hp).1) fun k hk => .inl hk
theorem appQ {P : Program} {t ty q o m cap2 by_ : Nat} {z : Value} {ys : List α} {ds : List Value} {K : Value → Heap → Prop} (st : StB B H0 H ps) (i : Nat) (ht : SlT P t e T.size by_ z) (hp : ps[i]? = some (pQ T e a n cap xs))
    (hd : Cells H q o ds) (hy : T.reps none_ H ds ys) (hm : m = ys.length) (h1 : ∀ u ∈ ds, u.oneCell' = true) (h63 : xs.length + ys.length ≤ maxLen) (hby : (xs.length + ys.length) * by_ ≤ 140737488355328)
    (k : ∀ a' cap' H', StB B H0 H' (ps.set i (pQ T e a' (xs.length + ys.length) cap' (xs ++ ys))) → Agr (fun k => k < H.size ∧ ¬ slB (.slice a n cap) k) H H' → K (.slice a' (xs.length + ys.length) cap') H') :
    VEff P (Builtin.append_ #[t, t] ty [.slice a n cap, .slice (some ⟨q, o, none⟩) m cap2].toArray) H K := by
  refine vappendQ (T := T) (S := none_) ht (st.at_ i hp) (fun k hk => hk.elim) hd hy hm h1 h63 hby ?_
  intro v' H' hown hagr hsz hfr
  obtain ⟨a', cap', rfl⟩ := hown.hull
  rw [List.length_append] at hown hfr ⊢
  exact k a' cap' H' (st.upd i hp (hagr.mono fun k hk => ⟨hk.1, fun hb => hk.2 hb⟩) _ hown (fun k hk => hfr k hk) (fun k hk => hown.lt hk) hsz) hagr
theorem cutQ {P : Program} {t by_ : Nat} {z : Value} {ki : IntKind} {S0 : Nat → Prop} {x : α} {H2 : Heap} {K : Value → Prop} (st : StB B H0 H ps) (i : Nat) (ht : SlT P t e T.size by_ z) (hp : ps[i]? = some (pQ T e a n cap (x :: xs)))
    (k : ∀ a' cap', StB B H0 H (ps.set i (pQ T e a' xs.length cap' xs)) → K (.slice a' xs.length cap')) : VDet P (Instr.sliceAt t (.slice a n cap) (some (.int ki 1)) none none) S0 H2 K :=
  vcutQ (T := T) ht (st.at_ i hp) fun a' cap' h1 h2 => k a' cap' (st.say i hp _ h1 h2)
end

/-! ### bytes and texts -/
theorem vb2s {P : Program} {s d e b o n cap : Nat} {H : Heap} {K : Value → Heap → Prop} (bs : List Nat) (hs : P.underlying s = some (.slice e)) (he : P.underlying e = some (.int .u8)) (hd : P.underlying d = some .string)
    (hc : ∀ (j x : Nat), bs[j]? = some x → cell H b (o + j) = some (.int .u8 (x : Int))) (hn : n = bs.length) (k : K (.string ⟨(bs.map UInt8.ofNat).toArray⟩) H) : VEff P (convert s d (.slice (some ⟨b, o, none⟩) n cap)) H K := by
  subst hn
  refine VEff.mk fun w hw => ?_
  subst hw
  have := run_convert_bytes_arg (P := P) w s e hs he b o bs.length cap (bs.map fun (n : Nat) => (n : Int)) (by simp) (fun i hi => by
    rw [cell_w, hc i bs[i] (List.getElem?_eq_getElem hi)]
    simp [List.getD, hi]) d hd
  have e1 : strOfNums (bs.map fun (n : Nat) => (n : Int)) = ⟨(bs.map UInt8.ofNat).toArray⟩ := by
    unfold strOfNums
    rw [List.map_map]
    congr 2
  rw [e1] at this
  exact ⟨_, w, this, Env.refl w, k⟩
theorem vb2s0 {P : Program} {s d e n cap : Nat} {H : Heap} {K : Value → Heap → Prop} (hs : P.underlying s = some (.slice e)) (he : P.underlying e = some (.int .u8)) (hd : P.underlying d = some .string)
    (k : K (.string ⟨#[]⟩) H) : VEff P (convert s d (.slice none n cap)) H K := by
  refine VEff.mk fun w hw => ?_
  subst hw
  exact ⟨_, w, run_convert_bytes_nil (P := P) w s e hs he n cap d hd, Env.refl w, k⟩
end Go.VC

/- Regions whose order is open, once more: the last operations may change what the quiet ones have read. -/
set_option linter.unusedVariables false
set_option linter.unusedSimpArgs false
namespace Go.VC

/-- Operation j waits for i, if only by way of others. -/
def needsB (ops : Array Oper) : Nat → Nat → Nat → Bool
  | 0, _, _ => false
  | f + 1, j, i => match ops[j]? with
    | none => false
    | some o => o.after.toList.any fun e => Region.binds .any e && (Nat.beq e.on i || needsB ops f e.on i)
/-- What is listed has all that it waits for listed. -/
def Shut (ops : Array Oper) (listed : Array Bool) : Prop :=
  ∀ (j : Nat) (o : Oper), ops[j]? = some o → listed.getD j false = true → ∀ e ∈ o.after, Region.binds .any e = true → listed.getD e.on false = true
theorem Shut.chain {ops : Array Oper} {listed : Array Bool} (h : Shut ops listed) {i : Nat} : ∀ (f j : Nat), needsB ops f j i = true → (∀ (o : Oper), ops[j]? = some o → ∀ e ∈ o.after, Region.binds .any e = true → listed.getD e.on false = true) → listed.getD i false = true
  | 0, _, hn, _ => by simp [needsB] at hn
  | f + 1, j, hn, hd => by
    unfold needsB at hn
    split at hn
    · cases hn
    · rename_i o ho
      obtain ⟨e, he, hb⟩ := List.any_eq_true.1 hn
      simp only [Bool.and_eq_true, Bool.or_eq_true] at hb
      have hl := hd o ho e (by simpa using he) hb.1
      rcases hb.2 with h1 | h1
      · rw [← Nat.eq_of_beq_eq_true h1]; exact hl
      · exact h.chain f e.on h1 fun o' ho' e' he' hb' => h e.on o' ho' hl e' he' hb'
theorem Shut.not_ready {ops : Array Oper} {listed : Array Bool} (h : Shut ops listed) {i j f : Nat} (hn : needsB ops f j i = true) (hi : listed.getD i false = false) : j ∉ Region.ready .any ops listed := by
  intro hj
  obtain ⟨_, o, ho, hall⟩ := mem_ready.1 hj
  have := h.chain f j hn fun o' ho' e he hb => by rw [ho] at ho'; cases ho'; exact hall e he hb
  rw [hi] at this; cases this
theorem getD_put {l : Array Bool} {i k : Nat} (h : (l.setIfInBounds i true).getD k false = true) : k = i ∨ l.getD k false = true := by
  by_cases hk : k = i
  · exact .inl hk
  · rw [getD_set_ne false (Ne.symm hk)] at h; exact .inr h
theorem Shut.put {ops : Array Oper} {listed : Array Bool} (h : Shut ops listed) {j : Nat} (hj : j ∈ Region.ready .any ops listed) : Shut ops (listed.setIfInBounds j true) := by
  intro k o ho hk e he hb
  rcases getD_put hk with rfl | hk
  · obtain ⟨_, o', ho', hall⟩ := mem_ready.1 hj
    rw [ho] at ho'; cases ho'
    exact getD_set_true (hall e he hb)
  · exact getD_set_true (h k o ho hk e he hb)

/-- Whatever order is picked from here on, and S holds behind every operation but those of Z. -/
def wpAnyZ (P : Program) (ops : Array Oper) (Q : Exit → Act → World → Prop) (S : World → Prop) (Z : List Nat) : Nat → Array Bool → Act → World → Prop
  | 0, listed, a, w => Region.ready .any ops listed = [] ∧ Q .normal a w
  | fuel + 1, listed, a, w =>
    (Region.ready .any ops listed = [] → Q .normal a w) ∧
    ∀ i ∈ Region.ready .any ops listed, wpOp P ops Q i (fun a' w' => (Z.contains i = false → S w') ∧ wpAnyZ P ops Q S Z fuel (listed.setIfInBounds i true) a' w') a w
theorem wpAny_of_Z {P : Program} {ops : Array Oper} {Q : Exit → Act → World → Prop} {S : World → Prop} {Z : List Nat} : ∀ (fuel : Nat) (listed : Array Bool) (a : Act) (w : World),
    wpAnyZ P ops Q S Z fuel listed a w → wpAny P .any ops Q fuel listed a w
  | 0, _, _, _, h => h
  | fuel + 1, _, _, _, h => ⟨h.1, fun i hi => wpOp_mono (fun a' w' h' => wpAny_of_Z fuel _ a' w' h'.2) (h.2 i hi)⟩
theorem wpAnyZ_first {P : Program} {ops : Array Oper} {Q : Exit → Act → World → Prop} {S : World → Prop} {Z : List Nat} {i f : Nat} {oi : Oper} {v : Value} (hi : ops[i]? = some oi)
    (hsel : ∀ (j : Nat) (o : Oper) cs b, ops[j]? = some o → o.op ≠ .select cs b)
    (hQ : ∀ c a w, Q (.panic c) (a.put oi.dst v) w → Q (.panic c) a w) (hiz : Z.contains i = false) (hz : ∀ j, Z.contains j = true → needsB ops f j i = true) :
    ∀ (fuel : Nat) (listed : Array Bool) (a : Act) (w : World), Shut ops listed →
      (∀ j oj, ops[j]? = some oj → j ≠ i → listed.getD j true = false → (∀ e ∈ oj.after, Region.binds .any e = true → e.on ≠ i) → oi.apart ops oj = true) →
      i ∈ Region.ready .any ops listed → YieldsIf P ops S oi v a → S w →
      wpAnyZ P ops Q S Z fuel (listed.setIfInBounds i true) (a.put oi.dst v) w → wpAnyZ P ops Q S Z (fuel + 1) listed a w := by
  intro fuel
  induction fuel with
  | zero =>
    intro listed a w _ _ hr hy hS H
    refine ⟨fun h => (by rw [h] at hr; cases hr), fun j hj => ?_⟩
    by_cases hji : j = i
    · subst hji; exact hy.wpOp hi hS ⟨fun _ => hS, H⟩
    · have := ready_mono hj hji
      rw [H.1] at this
      cases this
  | succ fuel ih =>
    intro listed a w hsh hfree hr hy hS H
    refine ⟨fun h => (by rw [h] at hr; cases hr), fun j hj => ?_⟩
    by_cases hji : j = i
    · subst hji; exact hy.wpOp hi hS ⟨fun _ => hS, H⟩
    · have h1 := H.2 j (ready_mono hj hji)
      obtain ⟨hjun, oj, hoj, hall⟩ := mem_ready.1 hj
      have hun : listed.getD i false = false := by
        have h0 := (mem_ready.1 hr).1
        rcases Nat.lt_or_ge i listed.size with h' | h'
        · simp [h'] at h0 ⊢; exact h0
        · simp [Array.getElem?_eq_none h'] at h0
      have hnot : ∀ e ∈ oj.after, Region.binds .any e = true → e.on ≠ i := fun e he hb heq => by
        have h1 := hall e he hb
        rw [heq, hun] at h1; cases h1
      have hjz : Z.contains j = false := by
        cases hc : Z.contains j with
        | false => rfl
        | true => exact absurd hj (hsh.not_ready (hz j hc) hun)
      have h2 := wpOp_putIf hoj (hfree j oj hoj hji hjun hnot) (fun cs b => hsel i oi cs b hi) (fun cs b => hsel j oj cs b hoj) hQ hy h1
      have hfree' : ∀ k ok, ops[k]? = some ok → k ≠ i → (listed.setIfInBounds j true).getD k true = false →
          (∀ e ∈ ok.after, Region.binds .any e = true → e.on ≠ i) → oi.apart ops ok = true := fun k ok hk hki hun hno => by
        refine hfree k ok hk hki ?_ hno
        by_cases hjk : j = k
        · subst hjk; exact hjun
        · rw [getD_set_ne true hjk] at hun; exact hun
      refine wpOp_mono (fun a' w' h3 => ⟨fun _ => h3.2.1 hjz, ih (listed.setIfInBounds j true) a' w' (hsh.put hj) hfree' (ready_mono hr (Ne.symm hji)) h3.1 (h3.2.1 hjz) ?_⟩) h2
      rw [Array.setIfInBounds_comm _ _ hji]
      exact h3.2.2

/-- One operation of the order, carried out here. -/
def stepZ (P : Program) (S : Nat → Prop) (Z : List Nat) (H0 : Heap) (all : List Oper) (i : Nat) (fr : Fr) (H : Heap) (next : Fr → Heap → Prop) : Prop :=
  match all[i]? with
  | none => False
  | some o => match o.guard with
    | some _ => False
    | none => match Z.contains i with
      | true => opK P false (fun _ => True) o fr H fun v H' => putK o.dst fr v fun fr' => next fr' H'
      | false => opK P false (fun _ => True) o fr H fun v H' => Agr S H0 H' ∧ putK o.dst fr v fun fr' => next fr' H'
def heldZ (P : Program) (S : Nat → Prop) (Z : List Nat) (H0 : Heap) (all : List Oper) (s : Sch) : Fr → Heap → (Fr → Heap → Prop) → Prop :=
  Sch.rec (motive := fun _ => Fr → Heap → (Fr → Heap → Prop) → Prop) (fun fr H K => K fr H)
    (fun i _ ih fr H K => match all[i]? with
      | none => False
      | some o => match o.guard with
        | some _ => False
        | none => match isDet o && convDet P o with
          | true => detK P S o fr H fun v => putK o.dst fr v fun fr' => ih fr' H K
          | false => False)
    (fun i _ ih fr H K => stepZ P S Z H0 all i fr H fun fr' H' => ih fr' H' K)
    (fun i _ j _ ih ih' fr H K => (stepZ P S Z H0 all i fr H fun fr' H' => ih fr' H' K) ∧ stepZ P S Z H0 all j fr H fun fr' H' => ih' fr' H' K) s
theorem heldZ_q (P : Program) (S : Nat → Prop) (Z : List Nat) (H0 : Heap) (all : List Oper) (i : Nat) (s : Sch) (fr : Fr) (H : Heap) (K : Fr → Heap → Prop) : heldZ P S Z H0 all (.q i s) fr H K =
    (match all[i]? with
      | none => False
      | some o => match o.guard with
        | some _ => False
        | none => match isDet o && convDet P o with
          | true => detK P S o fr H fun v => putK o.dst fr v fun fr' => heldZ P S Z H0 all s fr' H K
          | false => False) := rfl
/-- Z comes behind all quiet ones; behind an operation of Z there is none. -/
def hasQ : Sch → Bool
  | .e => false
  | .q _ _ => true
  | .f _ s => hasQ s
  | .b _ s _ s' => hasQ s || hasQ s'
def zAll (Z : List Nat) : Sch → Bool
  | .e => true
  | .q _ _ => false
  | .f i s => Z.contains i && zAll Z s
  | .b i s j s' => Z.contains i && Z.contains j && zAll Z s && zAll Z s'
def heldBZ (ops : Array Oper) (Z : List Nat) : Sch → Array Bool → Bool
  | .e, listed => (Region.ready .any ops listed).isEmpty
  | .q i s, listed => (Region.ready .any ops listed).contains i && Region.free .any ops listed i && !(Z.contains i) && (Z.all fun z => needsB ops ops.size z i) && heldBZ ops Z s (listed.setIfInBounds i true)
  | .f i s, listed => Region.ready .any ops listed == [i] && (!(Z.contains i) || zAll Z s) && heldBZ ops Z s (listed.setIfInBounds i true)
  | .b i s j s', listed => Region.ready .any ops listed == [i, j] && ((!(Z.contains i) && !(Z.contains j)) || (zAll Z s && zAll Z s')) && heldBZ ops Z s (listed.setIfInBounds i true) && heldBZ ops Z s' (listed.setIfInBounds j true)
theorem stepZ_sound {P : Program} {S : Nat → Prop} {Z : List Nat} {w0 : World} {all : List Oper} {Q : Exit → Act → World → Prop} {i : Nat} {fr : Fr} {a : Act} {w : World} {next : Fr → Heap → Prop} {N : Act → World → Prop}
    (hat : At fr a) (hc : Env w0 w) (h : stepZ P S Z w0.heap all i fr w.heap next)
    (hn : ∀ fr' a' w', At fr' a' → Env w0 w' → (Z.contains i = false → Cls w0 S w') → next fr' w'.heap → N a' w') : wpOp P all.toArray Q i N a w := by
  unfold stepZ at h
  split at h
  · exact h.elim
  · rename_i o ho
    have ho' : all.toArray[i]? = some o := by simpa using ho
    split at h
    · exact h.elim
    · rename_i hg
      have hwant : Region.wanted o (yielded all.toArray a.tmps) = true := by simp [Region.wanted, hg]
      unfold wpOp
      rw [ho']
      dsimp only
      rw [if_pos hwant]
      split at h
      · rename_i hz
        refine .inl (Oper.wp_mono ?_ (opK_sound hat h _))
        rintro a' w' ⟨v, rfl, henv, hk⟩
        rw [putK_eq] at hk
        exact hn _ _ _ (hat.put o.dst v) (hc.trans henv) (fun hne => by rw [hz] at hne; cases hne) hk
      · refine .inl (Oper.wp_mono ?_ (opK_sound hat h _))
        rintro a' w' ⟨v, rfl, henv, hagr, hk⟩
        rw [putK_eq] at hk
        exact hn _ _ _ (hat.put o.dst v) (hc.trans henv) (fun _ => ⟨hc.trans henv, hagr⟩) hk
theorem heldZ_sound {P : Program} {S : Nat → Prop} {Z : List Nat} {w0 : World} {all : List Oper} {Q : Exit → Act → World → Prop} (hs : Region.noSelect all.toArray = true)
    (hp : ∀ c a w, ¬ Q (.panic c) a w) : ∀ (l : Sch) (listed : Array Bool) (fr : Fr) (a : Act) (w : World) (K : Fr → Heap → Prop), At fr a → Env w0 w → (zAll Z l = false → Cls w0 S w) → Shut all.toArray listed →
    (∀ fr' a' w', At fr' a' → Env w0 w' → K fr' w'.heap → Q .normal a' w') → heldBZ all.toArray Z l listed = true → l.even = true →
    heldZ P S Z w0.heap all l fr w.heap K → wpAnyZ P all.toArray Q (Cls w0 S) Z l.len listed a w
  | .e, listed, fr, a, w, K, hat, he, _, _, hq, hB, _, h => ⟨by simpa [heldBZ] using hB, hq fr a w hat he h⟩
  | .q i s, listed, fr, a, w, K, hat, he, hc, hsh, hq, hB, hev, h => by
    have hc := hc rfl
    simp only [heldBZ, Bool.and_eq_true, Bool.not_eq_true', List.all_eq_true] at hB
    obtain ⟨⟨⟨⟨b1, b2⟩, b3⟩, b4⟩, hB2⟩ := hB
    rw [heldZ_q] at h
    split at h
    · exact h.elim
    · rename_i o ho
      have ho' : all.toArray[i]? = some o := by simpa using ho
      have hri : i ∈ Region.ready .any all.toArray listed := by simpa using b1
      split at h
      · exact h.elim
      · rename_i hg
        have hwant : Region.wanted o (yielded all.toArray a.tmps) = true := by simp [Region.wanted, hg]
        split at h
        · obtain ⟨v, hv, hk⟩ := detK_sound h
          rw [putK_eq] at hk
          refine wpAnyZ_first (v := v) (f := all.toArray.size) ho' (Region.noSelect_spec hs) (fun c a' w' hh => (hp _ _ _ hh).elim) b3 (fun j hj => b4 j (by simpa using hj)) s.len listed a w hsh (Region.free_spec ho' b2) hri
            (.inl ⟨hwant, fun w' hw' => ?_⟩) hc ?_
          · rw [hat.evalF]
            exact hv w' fun k hk => (hw'.2 k hk).trans (hc.2 k hk).symm
          · exact heldZ_sound hs hp s _ _ _ w K (hat.put o.dst v) he (fun _ => hc) (hsh.put hri) hq hB2 hev hk
        · exact h.elim
  | .f i s, listed, fr, a, w, K, hat, he, hc, hsh, hq, hB, hev, h => by
    simp only [heldBZ, Bool.and_eq_true, Bool.or_eq_true, Bool.not_eq_true', beq_iff_eq] at hB
    obtain ⟨⟨b1, b2⟩, hB2⟩ := hB
    refine ⟨(fun h0 => by rw [b1] at h0; cases h0), fun j hj => ?_⟩
    have hj0 := hj
    rw [b1] at hj
    obtain rfl : j = i := by simpa using hj
    refine stepZ_sound hat he h fun fr' a' w' h1 h2 h3 h4 => ⟨h3, heldZ_sound hs hp s _ _ _ w' K h1 h2 (fun hz => ?_) (hsh.put hj0) hq hB2 hev h4⟩
    rcases b2 with b2 | b2
    · exact h3 b2
    · rw [b2] at hz; cases hz
  | .b i s j s', listed, fr, a, w, K, hat, he, hc, hsh, hq, hB, hev, h => by
    simp only [heldBZ, Bool.and_eq_true, Bool.or_eq_true, Bool.not_eq_true', beq_iff_eq] at hB
    obtain ⟨⟨⟨b1, b2⟩, hB2⟩, hB3⟩ := hB
    simp only [Sch.even, Bool.and_eq_true, beq_iff_eq] at hev
    obtain ⟨⟨e1, e2⟩, e3⟩ := hev
    refine ⟨(fun h0 => by rw [b1] at h0; cases h0), fun k hk => ?_⟩
    have hk0 := hk
    rw [b1] at hk
    rcases List.mem_cons.1 hk with rfl | hk
    · refine stepZ_sound hat he h.1 fun fr' a' w' h1 h2 h3 h4 => ⟨h3, heldZ_sound hs hp s _ _ _ w' K h1 h2 (fun hz => ?_) (hsh.put hk0) hq hB2 e1 h4⟩
      rcases b2 with b2 | b2
      · exact h3 b2.1
      · rw [b2.1] at hz; cases hz
    · obtain rfl : k = j := by simpa using hk
      rw [e3]
      refine stepZ_sound hat he h.2 fun fr' a' w' h1 h2 h3 h4 => ⟨h3, heldZ_sound hs hp s' _ _ _ w' K h1 h2 (fun hz => ?_) (hsh.put hk0) hq hB3 e2 h4⟩
      rcases b2 with b2 | b2
      · exact h3 b2.2
      · rw [b2.2] at hz; cases hz
theorem VDraw.heldZ {P : Program} {l : List Oper} {fr : Fr} {H : Heap} {K : Fr → Heap → Prop} (S : Nat → Prop) (Z : List Nat) (sched : Sch) (hm : P.follows .mixedOrders = true)
    (hB : (Region.noSelect l.toArray && (sched.len == l.length) && sched.even && heldBZ l.toArray Z sched (Array.replicate l.length false)) = true)
    (h : VC.heldZ P S Z H l sched fr H K) : VDraw P l fr H K := by
  refine ⟨?_⟩
  intro id Q a w hat hw hp hq
  subst hw
  simp only [Bool.and_eq_true, beq_iff_eq] at hB
  refine wp_region_any hm (wpAny_of_Z (S := Cls w S) (Z := Z) _ _ _ _ ?_)
  have hsh : Shut l.toArray (Array.replicate l.length false) := fun j o _ hj => by
    rw [Array.getD_eq_getD_getElem?, Array.getElem?_replicate] at hj
    split at hj <;> simp at hj
  have := heldZ_sound (P := P) (S := S) (Z := Z) (w0 := w) (Q := Q) hB.1.1.1 hp sched (Array.replicate l.length false) fr a { w with drawn := w.drawn + 1 } K hat ⟨rfl, rfl, rfl⟩ (fun _ => ⟨⟨rfl, rfl, rfl⟩, Agr.refl _ _⟩) hsh hq hB.2 hB.1.2 h
  rw [hB.1.1.2] at this
  simpa using this
end Go.VC

/- Tables of slices: rows laid fresh, elements written. -/
set_option linter.unusedVariables false
set_option linter.unusedSimpArgs false
namespace Go.VC
section
variable {α : Type} {T : Ty α} {B : Nat → Prop} {H0 H H1 : Heap} {ps : List Pc} {e te : TypeId} {nb : Nat} {vs : List Value} {xs : List (List α)}
/-- A fresh row, to be stored. -/
theorem Mid.fresh {i t : Nat} {v' : Value} {x' : List α} (st : StB B H0 H ps) (hp : ps[i]? = some (pT T e te nb vs xs)) (ht : t < xs.length) (h : Agr (Old H) H H1) (hown : SlO T none_ H1 H.size e v' x') : Mid T B H0 H H1 ps i e te nb vs xs t v' x' := by
  have tab := st.tab i hp
  obtain ⟨v, hv⟩ : ∃ v, vs[t]? = some v := ⟨vs[t]'(by rw [tab.len]; exact ht), List.getElem?_eq_getElem _⟩
  exact ⟨st, hp, hown.lower tab.blk.lt, ⟨v, hv, h.mono fun k hk => hk.1, fun k hk => .inr (hown.lt hk).1⟩, old_size h⟩
/-- The address of a row that isn't empty. -/
theorem StB.rowA (st : StB B H0 H ps) (i : Nat) (hp : ps[i]? = some (pT T e te nb vs xs)) {t : Nat} {x : List α} (hx : xs[t]? = some x) (hn : 0 < x.length) : ∃ b cap, vs[t]? = some (.slice (some ⟨b, 0, none⟩) x.length cap) := by
  have tab := st.tab i hp
  have ht := (List.getElem?_eq_some_iff.1 hx).1
  obtain ⟨v, x', hv, hx', hown⟩ := tab.get ht
  rw [hx] at hx'; cases hx'
  obtain ⟨cs, ⟨h0, h1⟩, h2⟩ := hown
  rcases h1 with ⟨rfl, h1⟩ | ⟨b, cap, l, rfl, r⟩
  · omega
  · exact ⟨b, cap, hv⟩
/-- A value of one cell is written into row t at place j. -/
theorem stE {P : Program} {t b o j n cap : Nat} {v : Value} {x : List α} {y : α} {K : Heap → Prop} (st : StB B H0 H ps) (i : Nat) (ht : CellT P e) (hp : ps[i]? = some (pT T e te nb vs xs)) (hv : vs[t]? = some (.slice (some ⟨b, 0, none⟩) n cap)) (hx : xs[t]? = some x)
    (hsz : T.size = 1) (ho : o = j) (hj : j < x.length) (hone : v.oneCell' = true) (hr : ∀ H', T.rep none_ H' [v] y) (k : ∀ H', StB B H0 H' (ps.set i (pT T e te nb vs (xs.set t (x.set j y)))) → K H') : VEffU P (Instr.storeAt e (.pointer (some ⟨b, o, none⟩)) v) H K := by
  subst ho
  have tab := st.tab i hp
  have hown := tab.own t _ x hv hx
  obtain ⟨-, -, hlo, l, hblk, hlen, -, hput⟩ := hown.placeS hj
  rw [hsz, Nat.mul_one] at hlen hput
  refine VC.st1 ht hblk (by omega) hone ?_
  intro H' hb' ha' hs'
  have hown' := hput H' [v] y (by rw [splice_one (by omega)]; exact hb') (fun j hj => hj.elim) (hr H')
  have htl := (List.getElem?_eq_some_iff.1 hx).1
  have slb : ∀ c, slB (.slice (some ⟨b, 0, none⟩) n cap) c ↔ c = b := fun c => ⟨fun h => by obtain ⟨_, _, _, e⟩ := h; cases e; rfl, fun h => by subst h; exact ⟨0, n, cap, rfl⟩⟩
  have htab : Tab T none_ H' (nb + 1) e nb te vs (xs.set t (x.set o y)) := by
    refine ⟨by rw [List.length_set]; exact tab.len, tab.blk.agr ha' (by omega), tab.nlo, fun q w z hw hz => ?_, tab.apart⟩
    by_cases hq : t = q
    · subst hq
      rw [hv] at hw; cases hw
      rw [List.getElem?_set_self htl] at hz
      cases hz
      exact hown'
    · rw [List.getElem?_set_ne hq] at hz
      exact (tab.own q w z hw hz).agr ha' (fun c hc hcb => tab.apart t q _ w c hq hv hw ((slb c).2 hcb) hc) (fun _ f => f.elim)
  refine k H' (st.upd i hp (ha'.mono fun c hc hcb => hc.2 (.inr ⟨t, _, hv, (slb c).2 hcb⟩)) _ htab (fun c hc => .inl hc) (fun c hc => by rw [hs']; exact (st.in_ i hp hc).2) (by omega))
end
end Go.VC
