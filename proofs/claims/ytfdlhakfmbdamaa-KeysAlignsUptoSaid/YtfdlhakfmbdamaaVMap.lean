/- Maps of the call's own: what they hold; looking up, laying, striking. -/
import Derived.Test.YtfdlhakfmbdamaaVHelp
import Derived.MapKept
set_option linter.unusedVariables false
set_option linter.unusedSimpArgs false
namespace Go.VC

structure MapT (P : Program) (t kt et : TypeId) (d : TypeDesc) (z : Value) : Prop where
  under : P.underlying t = some (.map kt et)
  key : P.underlying kt = some d
  zero : (P.info? et).bind (·.zero) = some z
structure KeyE (d : TypeDesc) {α : Type} (enc : α → Value) : Prop where
  isKey : ∀ a, Go.MapKept.IsKey d (enc a)
  inj : ∀ a b, enc a = enc b → a = b
theorem keyS : KeyE .string Value.string := ⟨fun _ => trivial, fun a b h => by cases h; rfl⟩
theorem keyI (k : IntKind) : KeyE (.int k) (Value.int k) := ⟨fun _ => rfl, fun a b h => by cases h; rfl⟩

/-- The map in block b holds m. -/
def MapF {α : Type} (enc : α → Value) (H : Heap) (b : Nat) (m : α → Option Value) : Prop :=
  ∃ es clock, H[b]? = some (.map es clock) ∧ Go.MapKept.Stamped es clock ∧ (∀ (i : Nat) (x : MapEntry), es[i]? = some x → ∃ a, x.key = enc a ∧ m a = some x.val) ∧
    ∀ a v, m a = some v → ∃ (i : Nat) (x : MapEntry), es[i]? = some x ∧ x.key = enc a ∧ x.val = v
theorem MapF.agr {α : Type} {enc : α → Value} {H H' : Heap} {b : Nat} {m : α → Option Value} {S : Nat → Prop} (h : MapF enc H b m) (k : Agr S H H') (hb : S b) : MapF enc H' b m := by
  obtain ⟨es, clock, h1, h2⟩ := h
  exact ⟨es, clock, (k b hb).trans h1, h2⟩
theorem MapF.lt {α : Type} {enc : α → Value} {H : Heap} {b : Nat} {m : α → Option Value} (h : MapF enc H b m) : b < H.size := by
  obtain ⟨es, clock, h1, h2⟩ := h
  exact (Array.getElem?_eq_some_iff.1 h1).1
theorem MapF.ext {α : Type} {enc : α → Value} {H : Heap} {b : Nat} {m m' : α → Option Value} (h : MapF enc H b m) (hm : ∀ a, m a = m' a) : MapF enc H b m' := (funext hm : m = m') ▸ h

/-- The stamp of a's entry. -/
def StampF {α : Type} (enc : α → Value) (H : Heap) (b : Nat) (a : α) (s : Nat) : Prop :=
  ∃ es clock, H[b]? = some (.map es clock) ∧ ∀ (i : Nat) (x : MapEntry), es[i]? = some x → (x.born = s ↔ x.key = enc a)
theorem StampF.agr {α : Type} {enc : α → Value} {H H' : Heap} {b : Nat} {a : α} {s : Nat} {S : Nat → Prop} (h : StampF enc H b a s) (k : Agr S H H') (hb : S b) : StampF enc H' b a s := by
  obtain ⟨es, clock, h1, h2⟩ := h
  exact ⟨es, clock, (k b hb).trans h1, h2⟩

/-- The map has turned. -/
def TurnM {α : Type} (enc : α → Value) (H : Heap) (K : Heap → Prop) (b : Nat) (m : α → Option Value) : Prop :=
  ∀ H', MapF enc H' b m → Agr (fun k => k ≠ b) H H' → H'.size = H.size → K H'
open Classical in
noncomputable def put {α : Type} (m : α → Option Value) (a : α) (v : Option Value) : α → Option Value := fun b => if b = a then v else m b
theorem put_self {α : Type} (m : α → Option Value) (a : α) (v : Option Value) : put m a v a = v := if_pos rfl
theorem put_ne {α : Type} {m : α → Option Value} {a b : α} {v : Option Value} (h : b ≠ a) : put m a v b = m b := if_neg h

section
variable {α : Type} {enc : α → Value} {P : Program} {t kt et : TypeId} {d : TypeDesc} {z : Value} {S : Nat → Prop} {H : Heap} {b : Nat} {m : α → Option Value} {a : α}
theorem stamped_key {es : Array MapEntry} {clock : Nat} (h : Go.MapKept.Stamped es clock) {i j : Nat} {x y : MapEntry} (hx : es[i]? = some x) (hy : es[j]? = some y) (e : x.key = y.key) : i = j := by
  have hn := h.2.2
  have hx' : (es.toList.map (·.key))[i]? = some x.key := by simp [hx]
  have hy' : (es.toList.map (·.key))[j]? = some x.key := by simp [hy, e]
  exact (List.getElem?_inj (List.getElem?_eq_some_iff.1 hx').1 hn).1 (hx'.trans hy'.symm)
theorem stamped_born {es : Array MapEntry} {clock : Nat} (h : Go.MapKept.Stamped es clock) {i j : Nat} {x y : MapEntry} (hx : es[i]? = some x) (hy : es[j]? = some y) (e : x.born = y.born) : i = j := by
  have hn := h.2.1
  have hx' : (es.toList.map (·.born))[i]? = some x.born := by simp [hx]
  have hy' : (es.toList.map (·.born))[j]? = some x.born := by simp [hy, e]
  exact (List.getElem?_inj (List.getElem?_eq_some_iff.1 hx').1 hn).1 (hx'.trans hy'.symm)
theorem zero_run (hz : (P.info? et).bind (·.zero) = some z) (w : World) : (zeroValue et).run P w = .ok z w := by
  cases hi : P.info? et with
  | none => rw [hi] at hz; cases hz
  | some i =>
    have hz' : i.zero = some z := by simpa [hi] using hz
    simp [zeroValue, typeInfo, hi, hz']
theorem find_spec (hk : KeyE d enc) {es : Array MapEntry} (hes : ∀ (i : Nat) (x : MapEntry), es[i]? = some x → ∃ a, x.key = enc a ∧ m a = some x.val) (hm : ∀ a v, m a = some v → ∃ (i : Nat) (x : MapEntry), es[i]? = some x ∧ x.key = enc a ∧ x.val = v) (a : α) :
    (Instr.findNow d (enc a) es.toList 0 = some none ∧ m a = none ∧ ∀ x ∈ es.toList, x.key ≠ enc a) ∨ ∃ j e, Instr.findNow d (enc a) es.toList 0 = some (some (j, e.val)) ∧ es[j]? = some e ∧ e.key = enc a ∧ m a = some e.val := by
  have hall : ∀ x ∈ es.toList, Go.MapKept.IsKey d x.key := fun x hx => by
    obtain ⟨i, hi⟩ := List.getElem?_of_mem hx
    obtain ⟨b, e1, _⟩ := hes i x (by simpa using hi)
    rw [e1]; exact hk.isKey b
  rcases Go.MapKept.findNow_spec (hk.isKey a) es.toList 0 hall with ⟨h1, h2⟩ | ⟨j, e, h1, h2, h3⟩
  · refine .inl ⟨h1, ?_, h2⟩
    cases hma : m a with
    | none => rfl
    | some v =>
      obtain ⟨i, x, hx, he, _⟩ := hm a v hma
      exact absurd he (h2 x (List.mem_of_getElem? (by simpa using hx)))
  · have hj : es[j]? = some e := by simpa using h2
    refine .inr ⟨j, e, by simpa using h1, hj, h3, ?_⟩
    obtain ⟨a', e1, e2⟩ := hes j e hj
    rw [hk.inj a a' (h3.symm.trans e1)]; exact e2

theorem mlook (ht : MapT P t kt et d z) (hk : KeyE d enc) (h : MapF enc H b m) (hb : S b) {K : Value → Prop} (k : K ((m a).getD z)) : VDet P (Instr.lookup t (.map (some b)) (enc a) false) S H K := by
  obtain ⟨es, clock, h1, h2, h3, h4⟩ := h
  refine VDet.mk _ (fun w hw => ?_) k
  have hb' := (hw b hb).trans h1
  rcases find_spec hk h3 h4 a with ⟨e1, e2, e3⟩ | ⟨j, e, e1, e2, e3, e4⟩
  · simp [Instr.lookup, run_underlying ht.under, Go.MapKept.run_getObj_map hb', Go.MapKept.run_checkKey ht.key (hk.isKey a), Go.MapKept.run_findKey ht.key e1, zero_run ht.zero, e2]
  · simp [Instr.lookup, run_underlying ht.under, Go.MapKept.run_getObj_map hb', Go.MapKept.run_checkKey ht.key (hk.isKey a), Go.MapKept.run_findKey ht.key e1, e4]
theorem mlookOk (ht : MapT P t kt et d z) (hk : KeyE d enc) (h : MapF enc H b m) (hb : S b) {K : Value → Prop} (k : K (.tuple #[(m a).getD z, .bool (m a).isSome])) : VDet P (Instr.lookup t (.map (some b)) (enc a) true) S H K := by
  obtain ⟨es, clock, h1, h2, h3, h4⟩ := h
  refine VDet.mk _ (fun w hw => ?_) k
  have hb' := (hw b hb).trans h1
  rcases find_spec hk h3 h4 a with ⟨e1, e2, e3⟩ | ⟨j, e, e1, e2, e3, e4⟩
  · simp [Instr.lookup, run_underlying ht.under, Go.MapKept.run_getObj_map hb', Go.MapKept.run_checkKey ht.key (hk.isKey a), Go.MapKept.run_findKey ht.key e1, zero_run ht.zero, e2]
  · simp [Instr.lookup, run_underlying ht.under, Go.MapKept.run_getObj_map hb', Go.MapKept.run_checkKey ht.key (hk.isKey a), Go.MapKept.run_findKey ht.key e1, e4]

abbrev setW (w : World) (b : Nat) (o : Obj) : World := { w with heap := w.heap.setIfInBounds b o }
theorem set_turn {w : World} {o o' : Obj} (h : w.heap[b]? = some o) : (setW w b o').heap[b]? = some o' ∧ Agr (fun k => k ≠ b) w.heap (setW w b o').heap ∧ (setW w b o').heap.size = w.heap.size :=
  ⟨(Go.MapKept.heap_set h).1, fun k hk => (Go.MapKept.heap_set h).2 k hk, by simp⟩
theorem push_new {es : Array MapEntry} {clock : Nat} (hs : Go.MapKept.Stamped es clock) (h3 : ∀ (i : Nat) (x : MapEntry), es[i]? = some x → ∃ a, x.key = enc a ∧ m a = some x.val) (h4 : ∀ a v, m a = some v → ∃ (i : Nat) (x : MapEntry), es[i]? = some x ∧ x.key = enc a ∧ x.val = v) (hne : ∀ x ∈ es.toList, x.key ≠ enc a) {H' : Heap} {v : Value}
    (hb : H'[b]? = some (.map (es.push ⟨enc a, v, clock⟩) (clock + 1))) : MapF enc H' b (put m a (some v)) ∧ StampF enc H' b a clock := by
  have hgt : ∀ i x, (es.push ⟨enc a, v, clock⟩)[i]? = some x → (i < es.size ∧ es[i]? = some x) ∨ (i = es.size ∧ x = ⟨enc a, v, clock⟩) := by
    intro i x hx
    rw [Array.getElem?_push] at hx
    by_cases hi : i = es.size
    · rw [if_pos hi] at hx; exact .inr ⟨hi, by cases hx; rfl⟩
    · rw [if_neg hi] at hx; exact .inl ⟨(Array.getElem?_eq_some_iff.1 hx).1, hx⟩
  refine ⟨⟨_, _, hb, Go.MapKept.stamped_push hs hne, fun i x hx => ?_, fun a' v' hv => ?_⟩, _, _, hb, fun i x hx => ?_⟩
  · rcases hgt i x hx with ⟨_, hx⟩ | ⟨_, rfl⟩
    · obtain ⟨a', e1, e2⟩ := h3 i x hx
      have : a' ≠ a := fun h => hne x (List.mem_of_getElem? (by simpa using hx)) (by rw [e1, h])
      exact ⟨a', e1, by rw [put_ne this]; exact e2⟩
    · exact ⟨a, rfl, put_self _ _ _⟩
  · by_cases ha : a' = a
    · subst ha
      rw [put_self] at hv
      cases hv
      exact ⟨es.size, ⟨enc a', v, clock⟩, by simp, rfl, rfl⟩
    · rw [put_ne ha] at hv
      obtain ⟨i, x, hx, e⟩ := h4 a' v' hv
      exact ⟨i, x, by rw [Array.getElem?_push, if_neg (by have := (Array.getElem?_eq_some_iff.1 hx).1; omega)]; exact hx, e⟩
  · rcases hgt i x hx with ⟨_, hx⟩ | ⟨_, rfl⟩
    · have hmem : x ∈ es.toList := List.mem_of_getElem? (by simpa using hx)
      have := hs.1 x hmem
      exact ⟨fun h => by omega, fun h => absurd h (hne x hmem)⟩
    · simp
theorem modify_old (hk : KeyE d enc) {es : Array MapEntry} {clock : Nat} (hs : Go.MapKept.Stamped es clock) (h3 : ∀ (i : Nat) (x : MapEntry), es[i]? = some x → ∃ a, x.key = enc a ∧ m a = some x.val) (h4 : ∀ a v, m a = some v → ∃ (i : Nat) (x : MapEntry), es[i]? = some x ∧ x.key = enc a ∧ x.val = v) {j : Nat} {e : MapEntry} (hj : es[j]? = some e) (he : e.key = enc a) {f : MapEntry → MapEntry} {v : Value}
    (hf1 : (f e).key = enc a) (hf2 : (f e).val = v) (hf3 : ∀ x, (f x).born = x.born) {H' : Heap}
    (hb : H'[b]? = some (.map (es.modify j f) clock)) : MapF enc H' b (put m a (some v)) ∧ StampF enc H' b a e.born := by
  have hgt : ∀ i x, (es.modify j f)[i]? = some x → (i ≠ j ∧ es[i]? = some x) ∨ (i = j ∧ x = f e) := by
    intro i x hx
    rw [Array.getElem?_modify] at hx
    by_cases hi : j = i
    · subst hi; rw [if_pos rfl, hj] at hx; exact .inr ⟨rfl, by cases hx; rfl⟩
    · rw [if_neg hi] at hx; exact .inl ⟨Ne.symm hi, hx⟩
  refine ⟨⟨_, _, hb, Go.MapKept.stamped_modify hs _ _ (fun x _ => hf3 x) (fun x _ hx => ?_), fun i x hx => ?_, fun a' v' hv => ?_⟩, _, _, hb, fun i x hx => ?_⟩
  · rw [hj] at hx; cases hx; rw [hf1, he]
  · rcases hgt i x hx with ⟨hne, hx⟩ | ⟨_, rfl⟩
    · obtain ⟨a', e1, e2⟩ := h3 i x hx
      have : a' ≠ a := fun h => hne (stamped_key hs hx hj (by rw [e1, h, he]))
      exact ⟨a', e1, by rw [put_ne this]; exact e2⟩
    · exact ⟨a, hf1, by rw [put_self, hf2]⟩
  · by_cases ha : a' = a
    · subst ha
      rw [put_self] at hv
      cases hv
      exact ⟨j, f e, by rw [Array.getElem?_modify, if_pos rfl, hj]; rfl, hf1, hf2⟩
    · rw [put_ne ha] at hv
      obtain ⟨i, x, hx, e1, e2⟩ := h4 a' v' hv
      refine ⟨i, x, ?_, e1, e2⟩
      rw [Array.getElem?_modify, if_neg ?_]
      · exact hx
      · rintro rfl
        rw [hj] at hx; cases hx
        exact ha (hk.inj _ _ (e1.symm.trans he))
  · rcases hgt i x hx with ⟨hne, hx⟩ | ⟨_, rfl⟩
    · exact ⟨fun h => absurd (stamped_born hs hx hj h) hne, fun h => absurd (stamped_key hs hx hj (h.trans he.symm)) hne⟩
    · exact ⟨fun _ => hf1, fun _ => hf3 e⟩

theorem mput (ht : MapT P t kt et d z) (hk : KeyE d enc) (h : MapF enc H b m) {v : Value} {K : Heap → Prop} (k : TurnM enc H K b (put m a (some v))) : VEffU P (Instr.mapUpdate t (.map (some b)) (enc a) v) H K := by
  obtain ⟨es, clock, h1, h2, h3, h4⟩ := h
  refine VEffU.mk fun w hw => ?_
  subst hw
  rcases find_spec hk h3 h4 a with ⟨e1, e2, e3⟩ | ⟨j, e, e1, e2, e3, e4⟩
  · obtain ⟨t1, t2, t3⟩ := set_turn (o' := .map (es.push ⟨enc a, v, clock⟩) (clock + 1)) h1
    exact ⟨setW w b (.map (es.push ⟨enc a, v, clock⟩) (clock + 1)), by simp [Instr.mapUpdate, run_underlying ht.under, Go.MapKept.run_getObj_map h1, Go.MapKept.run_checkKey ht.key (hk.isKey a), Go.MapKept.run_findKey ht.key e1, Go.MapKept.run_setObj_map _ h1], ⟨rfl, rfl, rfl⟩, k _ (push_new h2 h3 h4 e3 t1).1 t2 t3⟩
  · obtain ⟨t1, t2, t3⟩ := set_turn (o' := .map (es.modify j fun e => { e with key := enc a, val := v }) clock) h1
    exact ⟨setW w b (.map (es.modify j fun e => { e with key := enc a, val := v }) clock), by simp [Instr.mapUpdate, run_underlying ht.under, Go.MapKept.run_getObj_map h1, Go.MapKept.run_checkKey ht.key (hk.isKey a), Go.MapKept.run_findKey ht.key e1, Go.MapKept.run_setObj_map _ h1, e2, e3, Go.MapKept.run_keyThatStays (hk.isKey a)], ⟨rfl, rfl, rfl⟩, k _ (modify_old hk h2 h3 h4 e2 e3 (f := fun e => { e with key := enc a, val := v }) rfl rfl (fun _ => rfl) t1).1 t2 t3⟩
theorem mdel {vt : TypeId} {ats : Array TypeId} (ht : MapT P t kt et d z) (hk : KeyE d enc) (h : MapF enc H b m) {K : Value → Heap → Prop} (hat : ats[0]? = some t) (k : TurnM enc H (K (.tuple #[])) b (put m a none)) : VEff P (Builtin.delete_ ats vt [.map (some b), enc a].toArray) H K := by
  obtain ⟨es, clock, h1, h2, h3, h4⟩ := h
  refine VEff.mk fun w hw => ?_
  subst hw
  rcases find_spec hk h3 h4 a with ⟨e1, e2, e3⟩ | ⟨j, e, e1, e2, e3, e4⟩
  · obtain ⟨t1, t2, t3⟩ := set_turn (o' := .map es clock) h1
    refine ⟨_, setW w b (.map es clock), by simp [Builtin.delete_, hat, run_underlying ht.under, Go.MapKept.run_getObj_map h1, Go.MapKept.run_checkKey ht.key (hk.isKey a), Go.MapKept.run_findKey ht.key e1, Go.MapKept.run_setObj_map _ h1], ⟨rfl, rfl, rfl⟩, k _ ⟨es, clock, t1, h2, fun i x hx => ?_, fun a' v' hv => ?_⟩ t2 t3⟩
    · obtain ⟨a', e1, e2⟩ := h3 i x hx
      exact ⟨a', e1, by rw [put_ne (fun h => e3 x (List.mem_of_getElem? (by simpa using hx)) (by rw [e1, h]))]; exact e2⟩
    · by_cases ha : a' = a
      · subst ha; rw [put_self] at hv; cases hv
      · rw [put_ne ha] at hv; exact h4 a' v' hv
  · obtain ⟨t1, t2, t3⟩ := set_turn (o' := .map (es.eraseIdxIfInBounds j) clock) h1
    have hjl : j < es.size := (Array.getElem?_eq_some_iff.1 e2).1
    have hlist : (es.eraseIdxIfInBounds j).toList = es.toList.eraseIdx j := by simp [Array.eraseIdxIfInBounds, hjl]
    have hmem : ∀ x, x ∈ (es.eraseIdxIfInBounds j).toList ↔ ∃ i, i ≠ j ∧ es[i]? = some x := fun x => by
      rw [hlist, List.mem_eraseIdx_iff_getElem?]; simp
    refine ⟨_, setW w b (.map (es.eraseIdxIfInBounds j) clock), by simp [Builtin.delete_, hat, run_underlying ht.under, Go.MapKept.run_getObj_map h1, Go.MapKept.run_checkKey ht.key (hk.isKey a), Go.MapKept.run_findKey ht.key e1, Go.MapKept.run_setObj_map _ h1], ⟨rfl, rfl, rfl⟩, k _ ⟨_, clock, t1, Go.MapKept.stamped_erase h2 j, fun i x hx => ?_, fun a' v' hv => ?_⟩ t2 t3⟩
    · obtain ⟨i', hne, hx'⟩ := (hmem x).1 (List.mem_of_getElem? (i := i) (by rw [Array.getElem?_toList]; exact hx))
      obtain ⟨a', q1, q2⟩ := h3 i' x hx'
      exact ⟨a', q1, by rw [put_ne (fun h => hne (stamped_key h2 hx' e2 (by rw [q1, h, e3])))]; exact q2⟩
    · by_cases ha : a' = a
      · subst ha; rw [put_self] at hv; cases hv
      · rw [put_ne ha] at hv
        obtain ⟨i, x, hx, q1, q2⟩ := h4 a' v' hv
        have hij : i ≠ j := by
          rintro rfl
          rw [e2] at hx; cases hx
          exact ha (hk.inj _ _ (q1.symm.trans e3))
        obtain ⟨i', hi'⟩ := List.getElem?_of_mem ((hmem x).2 ⟨i, hij, hx⟩)
        exact ⟨i', x, by rw [← Array.getElem?_toList]; exact hi', q1, q2⟩
theorem mentry (ht : MapT P t kt et d z) (hk : KeyE d enc) (h : MapF enc H b m) {K : Value → Heap → Prop}
    (k : ∀ H' s, MapF enc H' b (put m a (some ((m a).getD z))) → StampF enc H' b a s → Agr (fun k => k ≠ b) H H' → H'.size = H.size → K (.tuple #[(m a).getD z, .int .i64 (s : Int)]) H') : VEff P (Instr.mapEntry t (.map (some b)) (enc a)) H K := by
  obtain ⟨es, clock, h1, h2, h3, h4⟩ := h
  refine VEff.mk fun w hw => ?_
  subst hw
  rcases find_spec hk h3 h4 a with ⟨e1, e2, e3⟩ | ⟨j, e, e1, e2, e3, e4⟩
  · obtain ⟨t1, t2, t3⟩ := set_turn (o' := .map (es.push ⟨enc a, z, clock⟩) (clock + 1)) h1
    have hp := push_new h2 h3 h4 e3 t1
    refine ⟨.tuple #[z, .int .i64 (clock : Int)], setW w b (.map (es.push ⟨enc a, z, clock⟩) (clock + 1)), by simp [Instr.mapEntry, run_underlying ht.under, Go.MapKept.run_getObj_map h1, Go.MapKept.run_checkKey ht.key (hk.isKey a), Go.MapKept.run_findKey ht.key e1, Go.MapKept.run_setObj_map _ h1, zero_run ht.zero, goInt], ⟨rfl, rfl, rfl⟩, ?_⟩
    have := k _ clock (by rw [e2]; exact hp.1) hp.2 t2 t3
    rw [e2] at this
    exact this
  · obtain ⟨t1, t2, t3⟩ := set_turn (o' := .map (es.modify j fun e => { e with key := enc a }) clock) h1
    have hp := modify_old hk h2 h3 h4 e2 e3 (f := fun e => { e with key := enc a }) (v := e.val) rfl rfl (fun _ => rfl) t1
    refine ⟨.tuple #[e.val, .int .i64 (e.born : Int)], setW w b (.map (es.modify j fun e => { e with key := enc a }) clock), by simp [Instr.mapEntry, run_underlying ht.under, Go.MapKept.run_getObj_map h1, Go.MapKept.run_checkKey ht.key (hk.isKey a), Go.MapKept.run_findKey ht.key e1, Go.MapKept.run_setObj_map _ h1, e2, e3, Go.MapKept.run_keyThatStays (hk.isKey a), goInt], ⟨rfl, rfl, rfl⟩, ?_⟩
    have := k _ e.born (by rw [e4]; exact hp.1) hp.2 t2 t3
    rw [e4] at this
    exact this
theorem mstore {u : TypeId} (hk : KeyE d enc) (h : MapF enc H b m) {s : Nat} (hs : StampF enc H b a s) (hin : (m a).isSome = true) {v : Value} {K : Heap → Prop} (k : TurnM enc H K b (put m a (some v))) : VEffU P (Instr.entryStore u (.map (some b)) (.int .i64 (s : Int)) v) H K := by
  obtain ⟨es, clock, h1, h2, h3, h4⟩ := h
  obtain ⟨es', clock', h1', h5⟩ := hs
  rw [h1] at h1'; cases h1'
  refine VEffU.mk fun w hw => ?_
  subst hw
  obtain ⟨v0, hv0⟩ := Option.isSome_iff_exists.1 hin
  obtain ⟨i, x, hx, q1, q2⟩ := h4 a v0 hv0
  have hb := (h5 i x hx).2 q1
  have hfi : es.findIdx? (fun e => (e.born : Int) == (s : Int)) = some i := by
    rw [Array.findIdx?_eq_some_iff_getElem]
    have hil := (Array.getElem?_eq_some_iff.1 hx).1
    have hxi : es[i] = x := (Array.getElem?_eq_some_iff.1 hx).2
    refine ⟨hil, by simp [hxi, hb], fun j hji => ?_⟩
    have hjx : es[j]? = some es[j] := Array.getElem?_eq_getElem (by omega)
    intro hbj
    have hbj' : es[j].born = s := by
      have : (es[j].born : Int) = (s : Int) := by simpa using hbj
      omega
    have := stamped_born h2 hjx hx (hbj'.trans hb.symm)
    omega
  obtain ⟨t1, t2, t3⟩ := set_turn (o' := .map (es.modify i fun e => { e with val := v }) clock) h1
  exact ⟨setW w b (.map (es.modify i fun e => { e with val := v }) clock), by simp [Instr.entryStore, Go.MapKept.run_getObj_map h1, asInt, asIntOf, hfi, Go.MapKept.run_setObj_map _ h1], ⟨rfl, rfl, rfl⟩, k _ (modify_old hk h2 h3 h4 hx q1 (f := fun e => { e with val := v }) q1 rfl (fun _ => rfl) t1).1 t2 t3⟩
theorem mmake {K : Value → Heap → Prop} (k : ∀ b H', b = H.size → H'.size = b + 1 → MapF enc H' b (fun _ => none) → Agr (fun k => k < b) H H' → K (.map (some b)) H') : VEff P (Instr.makeMap t none) H K := by
  refine VEff.mk fun w hw => ?_
  subst hw
  exact ⟨_, w.alloc (.map #[] 0), by simp [Instr.makeMap], ⟨rfl, rfl, rfl⟩, k w.heap.size _ rfl (by rw [alloc_heap]; simp) ⟨#[], 0, by rw [alloc_heap]; simp, Go.MapKept.stamped_empty 0, by simp, by simp⟩ (heap_push_old _ _)⟩
end

end Go.VC
