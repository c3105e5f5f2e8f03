/- Parts of the proof: VMore, VMapX, VBook, VFacts, PClass, PNfa1 -/
import Derived.Test.YthomdogheamfpaaDoorKS1
import Derived.MapKept
import Derived.Laws.BytesArg
import Derived.Laws.Cover1
import Derived.DeepKeys3
import Derived.Maps.RangeRun
import Derived.Test.YthomdogheamfpaaDoorProg
/- Maps of the call's own: what they hold; looking up, laying, striking. -/
set_option linter.unusedVariables false
set_option linter.unusedSimpArgs false
namespace Go.VC

structure MapT (P : Program) (t kt et : TypeId) (d : TypeDesc) (z : Value) : Prop where
  under : P.underlying t = some (.map kt et)
  key : P.underlying kt = some d
  zero : (P.info? et).bind (·.zero) = some z
structure KeyE (d : TypeDesc) {α : Type} (enc : α → Value) : Prop where
  isKey : ∀ a, Go.MapKept.IsKey d (enc a)
  inj : ∀ a b, enc a = enc b → a = b
theorem keyS : KeyE .string Value.string := ⟨fun _ => trivial, fun a b h => by cases h; rfl⟩
theorem keyI (k : IntKind) : KeyE (.int k) (Value.int k) := ⟨fun _ => rfl, fun a b h => by cases h; rfl⟩

/-- The map in block b holds m. -/
def MapF {α : Type} (enc : α → Value) (H : Heap) (b : Nat) (m : α → Option Value) : Prop :=
  ∃ es clock, H[b]? = some (.map es clock) ∧ Go.MapKept.Stamped es clock ∧ (∀ (i : Nat) (x : MapEntry), es[i]? = some x → ∃ a, x.key = enc a ∧ m a = some x.val) ∧
    ∀ a v, m a = some v → ∃ (i : Nat) (x : MapEntry), es[i]? = some x ∧ x.key = enc a ∧ x.val = v
theorem MapF.agr {α : Type} {enc : α → Value} {H H' : Heap} {b : Nat} {m : α → Option Value} {S : Nat → Prop} (h : MapF enc H b m) (k : Agr S H H') (hb : S b) : MapF enc H' b m := by
  obtain ⟨es, clock, h1, h2⟩ := h
  exact ⟨es, clock, (k b hb).trans h1, h2⟩
theorem MapF.lt {α : Type} {enc : α → Value} {H : Heap} {b : Nat} {m : α → Option Value} (h : MapF enc H b m) : b < H.size := by
  obtain ⟨es, clock, h1, h2⟩ := h
  exact (Array.getElem?_eq_some_iff.1 h1).1
theorem MapF.ext {α : Type} {enc : α → Value} {H : Heap} {b : Nat} {m m' : α → Option Value} (h : MapF enc H b m) (hm : ∀ a, m a = m' a) : MapF enc H b m' := (funext hm : m = m') ▸ h

/-- The stamp of a's entry. -/
def StampF {α : Type} (enc : α → Value) (H : Heap) (b : Nat) (a : α) (s : Nat) : Prop :=
  ∃ es clock, H[b]? = some (.map es clock) ∧ ∀ (i : Nat) (x : MapEntry), es[i]? = some x → (x.born = s ↔ x.key = enc a)
theorem StampF.agr {α : Type} {enc : α → Value} {H H' : Heap} {b : Nat} {a : α} {s : Nat} {S : Nat → Prop} (h : StampF enc H b a s) (k : Agr S H H') (hb : S b) : StampF enc H' b a s := by
  obtain ⟨es, clock, h1, h2⟩ := h
  exact ⟨es, clock, (k b hb).trans h1, h2⟩

/-- The map has turned. -/
def TurnM {α : Type} (enc : α → Value) (H : Heap) (K : Heap → Prop) (b : Nat) (m : α → Option Value) : Prop :=
  ∀ H', MapF enc H' b m → Agr (fun k => k ≠ b) H H' → H'.size = H.size → K H'
open Classical in
noncomputable def put {α : Type} (m : α → Option Value) (a : α) (v : Option Value) : α → Option Value := fun b => if b = a then v else m b
theorem put_self {α : Type} (m : α → Option Value) (a : α) (v : Option Value) : put m a v a = v := if_pos rfl
theorem put_ne {α : Type} {m : α → Option Value} {a b : α} {v : Option Value} (h : b ≠ a) : put m a v b = m b := if_neg h

section
variable {α : Type} {enc : α → Value} {P : Program} {t kt et : TypeId} {d : TypeDesc} {z : Value} {S : Nat → Prop} {H : Heap} {b : Nat} {m : α → Option Value} {a : α}
theorem stamped_key {es : Array MapEntry} {clock : Nat} (h : Go.MapKept.Stamped es clock) {i j : Nat} {x y : MapEntry} (hx : es[i]? = some x) (hy : es[j]? = some y) (e : x.key = y.key) : i = j := by
  have hn := h.2.2
  have hx' : (es.toList.map (·.key))[i]? = some x.key := by simp [hx]
  have hy' : (es.toList.map (·.key))[j]? = some x.key := by simp [hy, e]
  exact (List.getElem?_inj (List.getElem?_eq_some_iff.1 hx').1 hn).1 (hx'.trans hy'.symm)
theorem stamped_born {es : Array MapEntry} {clock : Nat} (h : Go.MapKept.Stamped es clock) {i j : Nat} {x y : MapEntry} (hx : es[i]? = some x) (hy : es[j]? = some y) (e : x.born = y.born) : i = j := by
  have hn := h.2.1
  have hx' : (es.toList.map (·.born))[i]? = some x.born := by simp [hx]
  have hy' : (es.toList.map (·.born))[j]? = some x.born := by simp [hy, e]
  exact (List.getElem?_inj (List.getElem?_eq_some_iff.1 hx').1 hn).1 (hx'.trans hy'.symm)
theorem zero_run (hz : (P.info? et).bind (·.zero) = some z) (w : World) : (zeroValue et).run P w = .ok z w := by
  cases hi : P.info? et with
  | none => rw [hi] at hz; cases hz
  | some i =>
    have hz' : i.zero = some z := by simpa [hi] using hz
    simp [zeroValue, typeInfo, hi, hz']
theorem find_spec (hk : KeyE d enc) {es : Array MapEntry} (hes : ∀ (i : Nat) (x : MapEntry), es[i]? = some x → ∃ a, x.key = enc a ∧ m a = some x.val) (hm : ∀ a v, m a = some v → ∃ (i : Nat) (x : MapEntry), es[i]? = some x ∧ x.key = enc a ∧ x.val = v) (a : α) :
    (Instr.findNow d (enc a) es.toList 0 = some none ∧ m a = none ∧ ∀ x ∈ es.toList, x.key ≠ enc a) ∨ ∃ j e, Instr.findNow d (enc a) es.toList 0 = some (some (j, e.val)) ∧ es[j]? = some e ∧ e.key = enc a ∧ m a = some e.val := by
  have hall : ∀ x ∈ es.toList, Go.MapKept.IsKey d x.key := fun x hx => by
    obtain ⟨i, hi⟩ := List.getElem?_of_mem hx
    obtain ⟨b, e1, _⟩ := hes i x (by simpa using hi)
    rw [e1]; exact hk.isKey b
  rcases Go.MapKept.findNow_spec (hk.isKey a) es.toList 0 hall with ⟨h1, h2⟩ | ⟨j, e, h1, h2, h3⟩
  · refine .inl ⟨h1, ?_, h2⟩
    cases hma : m a with
    | none => rfl
    | some v =>
      obtain ⟨i, x, hx, he, _⟩ := hm a v hma
      exact absurd he (h2 x (List.mem_of_getElem? (by simpa using hx)))
  · have hj : es[j]? = some e := by simpa using h2
    refine .inr ⟨j, e, by simpa using h1, hj, h3, ?_⟩
    obtain ⟨a', e1, e2⟩ := hes j e hj
    rw [hk.inj a a' (h3.symm.trans e1)]; exact e2

theorem mlook (ht : MapT P t kt et d z) (hk : KeyE d enc) (h : MapF enc H b m) (hb : S b) {K : Value → Prop} (k : K ((m a).getD z)) : VDet P (Instr.lookup t (.map (some b)) (enc a) false) S H K := by
  obtain ⟨es, clock, h1, h2, h3, h4⟩ := h
  refine VDet.mk _ (fun w hw => ?_) k
  have hb' := (hw b hb).trans h1
  rcases find_spec hk h3 h4 a with ⟨e1, e2, e3⟩ | ⟨j, e, e1, e2, e3, e4⟩
  · simp [Instr.lookup, run_underlying ht.under, Go.MapKept.run_getObj_map hb', Go.MapKept.run_checkKey ht.key (hk.isKey a), Go.MapKept.run_findKey ht.key e1, zero_run ht.zero, e2]
  · simp [Instr.lookup, run_underlying ht.under, Go.MapKept.run_getObj_map hb', Go.MapKept.run_checkKey ht.key (hk.isKey a), Go.MapKept.run_findKey ht.key e1, e4]
theorem mlookOk (ht : MapT P t kt et d z) (hk : KeyE d enc) (h : MapF enc H b m) (hb : S b) {K : Value → Prop} (k : K (.tuple #[(m a).getD z, .bool (m a).isSome])) : VDet P (Instr.lookup t (.map (some b)) (enc a) true) S H K := by
  obtain ⟨es, clock, h1, h2, h3, h4⟩ := h
  refine VDet.mk _ (fun w hw => ?_) k
  have hb' := (hw b hb).trans h1
  rcases find_spec hk h3 h4 a with ⟨e1, e2, e3⟩ | ⟨j, e, e1, e2, e3, e4⟩
  · simp [Instr.lookup, run_underlying ht.under, Go.MapKept.run_getObj_map hb', Go.MapKept.run_checkKey ht.key (hk.isKey a), Go.MapKept.run_findKey ht.key e1, zero_run ht.zero, e2]
  · simp [Instr.lookup, run_underlying ht.under, Go.MapKept.run_getObj_map hb', Go.MapKept.run_checkKey ht.key (hk.isKey a), Go.MapKept.run_findKey ht.key e1, e4]

abbrev setW (w : World) (b : Nat) (o : Obj) : World := { w with heap := w.heap.setIfInBounds b o }
theorem set_turn {w : World} {o o' : Obj} (h : w.heap[b]? = some o) : (setW w b o').heap[b]? = some o' ∧ Agr (fun k => k ≠ b) w.heap (setW w b o').heap ∧ (setW w b o').heap.size = w.heap.size :=
  ⟨(Go.MapKept.heap_set h).1, fun k hk => (Go.MapKept.heap_set h).2 k hk, by simp⟩
theorem push_new {es : Array MapEntry} {clock : Nat} (hs : Go.MapKept.Stamped es clock) (h3 : ∀ (i : Nat) (x : MapEntry), es[i]? = some x → ∃ a, x.key = enc a ∧ m a = some x.val) (h4 : ∀ a v, m a = some v → ∃ (i : Nat) (x : MapEntry), es[i]? = some x ∧ x.key = enc a ∧ x.val = v) (hne : ∀ x ∈ es.toList, x.key ≠ enc a) {H' : Heap} {v : Value}
    (hb : H'[b]? = some (.map (es.push ⟨enc a, v, clock⟩) (clock + 1))) : MapF enc H' b (put m a (some v)) ∧ StampF enc H' b a clock := by
  have hgt : ∀ i x, (es.push ⟨enc a, v, clock⟩)[i]? = some x → (i < es.size ∧ es[i]? = some x) ∨ (i = es.size ∧ x = ⟨enc a, v, clock⟩) := by
    intro i x hx
    rw [Array.getElem?_push] at hx
    by_cases hi : i = es.size
    · rw [if_pos hi] at hx; exact .inr ⟨hi, by cases hx; rfl⟩
    · rw [if_neg hi] at hx; exact .inl ⟨(Array.getElem?_eq_some_iff.1 hx).1, hx⟩
  refine ⟨⟨_, _, hb, Go.MapKept.stamped_push hs hne, fun i x hx => ?_, fun a' v' hv => ?_⟩, _, _, hb, fun i x hx => ?_⟩
  · rcases hgt i x hx with ⟨_, hx⟩ | ⟨_, rfl⟩
    · obtain ⟨a', e1, e2⟩ := h3 i x hx
      have : a' ≠ a := fun h => hne x (List.mem_of_getElem? (by simpa using hx)) (by rw [e1, h])
      exact ⟨a', e1, by rw [put_ne this]; exact e2⟩
    · exact ⟨a, rfl, put_self _ _ _⟩
  · by_cases ha : a' = a
    · subst ha
      rw [put_self] at hv
      cases hv
      exact ⟨es.size, ⟨enc a', v, clock⟩, by simp, rfl, rfl⟩
    · rw [put_ne ha] at hv
      obtain ⟨i, x, hx, e⟩ := h4 a' v' hv
      exact ⟨i, x, by rw [Array.getElem?_push, if_neg (by have := (Array.getElem?_eq_some_iff.1 hx).1; omega)]; exact hx, e⟩
  · rcases hgt i x hx with ⟨_, hx⟩ | ⟨_, rfl⟩
    · have hmem : x ∈ es.toList := List.mem_of_getElem? (by simpa using hx)
      have := hs.1 x hmem
      exact ⟨fun h => by omega, fun h => absurd h (hne x hmem)⟩
    · simp
theorem modify_old (hk : KeyE d enc) {es : Array MapEntry} {clock : Nat} (hs : Go.MapKept.Stamped es clock) (h3 : ∀ (i : Nat) (x : MapEntry), es[i]? = some x → ∃ a, x.key = enc a ∧ m a = some x.val) (h4 : ∀ a v, m a = some v → ∃ (i : Nat) (x : MapEntry), es[i]? = some x ∧ x.key = enc a ∧ x.val = v) {j : Nat} {e : MapEntry} (hj : es[j]? = some e) (he : e.key = enc a) {f : MapEntry → MapEntry} {v : Value}
    (hf1 : (f e).key = enc a) (hf2 : (f e).val = v) (hf3 : ∀ x, (f x).born = x.born) {H' : Heap}
    (hb : H'[b]? = some (.map (es.modify j f) clock)) : MapF enc H' b (put m a (some v)) ∧ StampF enc H' b a e.born := by
  have hgt : ∀ i x, (es.modify j f)[i]? = some x → (i ≠ j ∧ es[i]? = some x) ∨ (i = j ∧ x = f e) := by
    intro i x hx
    rw [Array.getElem?_modify] at hx
    by_cases hi : j = i
    · subst hi; rw [if_pos rfl, hj] at hx; exact .inr ⟨rfl, by cases hx; rfl⟩
    · rw [if_neg hi] at hx; exact .inl ⟨Ne.symm hi, hx⟩
  refine ⟨⟨_, _, hb, Go.MapKept.stamped_modify hs _ _ (fun x _ => hf3 x) (fun x _ hx => ?_), fun i x hx => ?_, fun a' v' hv => ?_⟩, _, _, hb, fun i x hx => ?_⟩
  · rw [hj] at hx; cases hx; rw [hf1, he]
  · rcases hgt i x hx with ⟨hne, hx⟩ | ⟨_, rfl⟩
    · obtain ⟨a', e1, e2⟩ := h3 i x hx
      have : a' ≠ a := fun h => hne (stamped_key hs hx hj (by rw [e1, h, he]))
      exact ⟨a', e1, by rw [put_ne this]; exact e2⟩
    · exact ⟨a, hf1, by rw [put_self, hf2]⟩
  · by_cases ha : a' = a
    · subst ha
      rw [put_self] at hv
      cases hv
      exact ⟨j, f e, by rw [Array.getElem?_modify, if_pos rfl, hj]; rfl, hf1, hf2⟩
    · rw [put_ne ha] at hv
      obtain ⟨i, x, hx, e1, e2⟩ := h4 a' v' hv
      refine ⟨i, x, ?_, e1, e2⟩
      rw [Array.getElem?_modify, if_neg ?_]
      · exact hx
      · rintro rfl
        rw [hj] at hx; cases hx
        exact ha (hk.inj _ _ (e1.symm.trans he))
  · rcases hgt i x hx with ⟨hne, hx⟩ | ⟨_, rfl⟩
    · exact ⟨fun h => absurd (stamped_born hs hx hj h) hne, fun h => absurd (stamped_key hs hx hj (h.trans he.symm)) hne⟩
    · exact ⟨fun _ => hf1, fun _ => hf3 e⟩

theorem mput (ht : MapT P t kt et d z) (hk : KeyE d enc) (h : MapF enc H b m) {v : Value} {K : Heap → Prop} (k : TurnM enc H K b (put m a (some v))) : VEffU P (Instr.mapUpdate t (.map (some b)) (enc a) v) H K := by
  obtain ⟨es, clock, h1, h2, h3, h4⟩ := h
  refine VEffU.mk fun w hw => ?_
  subst hw
  rcases find_spec hk h3 h4 a with ⟨e1, e2, e3⟩ | ⟨j, e, e1, e2, e3, e4⟩
  · obtain ⟨t1, t2, t3⟩ := set_turn (o' := .map (es.push ⟨enc a, v, clock⟩) (clock + 1)) h1
    exact ⟨setW w b (.map (es.push ⟨enc a, v, clock⟩) (clock + 1)), by simp [Instr.mapUpdate, run_underlying ht.under, Go.MapKept.run_getObj_map h1, Go.MapKept.run_checkKey ht.key (hk.isKey a), Go.MapKept.run_findKey ht.key e1, Go.MapKept.run_setObj_map _ h1], ⟨rfl, rfl, rfl⟩, k _ (push_new h2 h3 h4 e3 t1).1 t2 t3⟩
  · obtain ⟨t1, t2, t3⟩ := set_turn (o' := .map (es.modify j fun e => { e with key := enc a, val := v }) clock) h1
    exact ⟨setW w b (.map (es.modify j fun e => { e with key := enc a, val := v }) clock), by simp [Instr.mapUpdate, run_underlying ht.under, Go.MapKept.run_getObj_map h1, Go.MapKept.run_checkKey ht.key (hk.isKey a), Go.MapKept.run_findKey ht.key e1, Go.MapKept.run_setObj_map _ h1, e2, e3, Go.MapKept.run_keyThatStays (hk.isKey a)], ⟨rfl, rfl, rfl⟩, k _ (modify_old hk h2 h3 h4 e2 e3 (f := fun e => { e with key := enc a, val := v }) rfl rfl (fun _ => rfl) t1).1 t2 t3⟩
theorem mdel {vt : TypeId} {ats : Array TypeId} (ht : MapT P t kt et d z) (hk : KeyE d enc) (h : MapF enc H b m) {K : Value → Heap → Prop} (hat : ats[0]? = some t) (k : TurnM enc H (K (.tuple #[])) b (put m a none)) : VEff P (Builtin.delete_ ats vt [.map (some b), enc a].toArray) H K := by
  obtain ⟨es, clock, h1, h2, h3, h4⟩ := h
  refine VEff.mk fun w hw => ?_
  subst hw
  rcases find_spec hk h3 h4 a with ⟨e1, e2, e3⟩ | ⟨j, e, e1, e2, e3, e4⟩
  · obtain ⟨t1, t2, t3⟩ := set_turn (o' := .map es clock) h1
    refine ⟨_, setW w b (.map es clock), by simp [Builtin.delete_, hat, run_underlying ht.under, Go.MapKept.run_getObj_map h1, Go.MapKept.run_checkKey ht.key (hk.isKey a), Go.MapKept.run_findKey ht.key e1, Go.MapKept.run_setObj_map _ h1], ⟨rfl, rfl, rfl⟩, k _ ⟨es, clock, t1, h2, fun i x hx => ?_, fun a' v' hv => ?_⟩ t2 t3⟩
    · obtain ⟨a', e1, e2⟩ := h3 i x hx
      exact ⟨a', e1, by rw [put_ne (fun h => e3 x (List.mem_of_getElem? (by simpa using hx)) (by rw [e1, h]))]; exact e2⟩
    · by_cases ha : a' = a
      · subst ha; rw [put_self] at hv; cases hv
      · rw [put_ne ha] at hv; exact h4 a' v' hv
  · obtain ⟨t1, t2, t3⟩ := set_turn (o' := .map (es.eraseIdxIfInBounds j) clock) h1
    have hjl : j < es.size := (Array.getElem?_eq_some_iff.1 e2).1
    have hlist : (es.eraseIdxIfInBounds j).toList = es.toList.eraseIdx j := by simp [Array.eraseIdxIfInBounds, hjl]
    have hmem : ∀ x, x ∈ (es.eraseIdxIfInBounds j).toList ↔ ∃ i, i ≠ j ∧ es[i]? = some x := fun x => by
      rw [hlist, List.mem_eraseIdx_iff_getElem?]; simp
    refine ⟨_, setW w b (.map (es.eraseIdxIfInBounds j) clock), by simp [Builtin.delete_, hat, run_underlying ht.under, Go.MapKept.run_getObj_map h1, Go.MapKept.run_checkKey ht.key (hk.isKey a), Go.MapKept.run_findKey ht.key e1, Go.MapKept.run_setObj_map _ h1], ⟨rfl, rfl, rfl⟩, k _ ⟨_, clock, t1, Go.MapKept.stamped_erase h2 j, fun i x hx => ?_, fun a' v' hv => ?_⟩ t2 t3⟩
    · obtain ⟨i', hne, hx'⟩ := (hmem x).1 (List.mem_of_getElem? (i := i) (by rw [Array.getElem?_toList]; exact hx))
      obtain ⟨a', q1, q2⟩ := h3 i' x hx'
      exact ⟨a', q1, by rw [put_ne (fun h => hne (stamped_key h2 hx' e2 (by rw [q1, h, e3])))]; exact q2⟩
    · by_cases ha : a' = a
      · subst ha; rw [put_self] at hv; cases hv
      · rw [put_ne ha] at hv
        obtain ⟨i, x, hx, q1, q2⟩ := h4 a' v' hv
        have hij : i ≠ j := by
          rintro rfl
          rw [e2] at hx; cases hx
          exact ha (hk.inj _ _ (q1.symm.trans e3))
        obtain ⟨i', hi'⟩ := List.getElem?_of_mem ((hmem x).2 ⟨i, hij, hx⟩)
        exact ⟨i', x, by rw [← Array.getElem?_toList]; exact hi', q1, q2⟩
theorem mentry (ht : MapT P t kt et d z) (hk : KeyE d enc) (h : MapF enc H b m) {K : Value → Heap → Prop}
    (k : ∀ H' s, MapF enc H' b (put m a (some ((m a).getD z))) → StampF enc H' b a s → Agr (fun k => k ≠ b) H H' → H'.size = H.size → K (.tuple #[(m a).getD z, .int .i64 (s : Int)]) H') : VEff P (Instr.mapEntry t (.map (some b)) (enc a)) H K := by
  obtain ⟨es, clock, h1, h2, h3, h4⟩ := h
  refine VEff.mk fun w hw => ?_
  subst hw
  rcases find_spec hk h3 h4 a with ⟨e1, e2, e3⟩ | ⟨j, e, e1, e2, e3, e4⟩
  · obtain ⟨t1, t2, t3⟩ := set_turn (o' := .map (es.push ⟨enc a, z, clock⟩) (clock + 1)) h1
    have hp := push_new h2 h3 h4 e3 t1
    refine ⟨.tuple #[z, .int .i64 (clock : Int)], setW w b (.map (es.push ⟨enc a, z, clock⟩) (clock + 1)), by simp [Instr.mapEntry, run_underlying ht.under, Go.MapKept.run_getObj_map h1, Go.MapKept.run_checkKey ht.key (hk.isKey a), Go.MapKept.run_findKey ht.key e1, Go.MapKept.run_setObj_map _ h1, zero_run ht.zero, goInt], ⟨rfl, rfl, rfl⟩, ?_⟩
    have := k _ clock (by rw [e2]; exact hp.1) hp.2 t2 t3
    rw [e2] at this
    exact this
  · obtain ⟨t1, t2, t3⟩ := set_turn (o' := .map (es.modify j fun e => { e with key := enc a }) clock) h1
    have hp := modify_old hk h2 h3 h4 e2 e3 (f := fun e => { e with key := enc a }) (v := e.val) rfl rfl (fun _ => rfl) t1
    refine ⟨.tuple #[e.val, .int .i64 (e.born : Int)], setW w b (.map (es.modify j fun e => { e with key := enc a }) clock), by simp [Instr.mapEntry, run_underlying ht.under, Go.MapKept.run_getObj_map h1, Go.MapKept.run_checkKey ht.key (hk.isKey a), Go.MapKept.run_findKey ht.key e1, Go.MapKept.run_setObj_map _ h1, e2, e3, Go.MapKept.run_keyThatStays (hk.isKey a), goInt], ⟨rfl, rfl, rfl⟩, ?_⟩
    have := k _ e.born (by rw [e4]; exact hp.1) hp.2 t2 t3
    rw [e4] at this
    exact this
theorem mstore {u : TypeId} (hk : KeyE d enc) (h : MapF enc H b m) {s : Nat} (hs : StampF enc H b a s) (hin : (m a).isSome = true) {v : Value} {K : Heap → Prop} (k : TurnM enc H K b (put m a (some v))) : VEffU P (Instr.entryStore u (.map (some b)) (.int .i64 (s : Int)) v) H K := by
  obtain ⟨es, clock, h1, h2, h3, h4⟩ := h
  obtain ⟨es', clock', h1', h5⟩ := hs
  rw [h1] at h1'; cases h1'
  refine VEffU.mk fun w hw => ?_
  subst hw
  obtain ⟨v0, hv0⟩ := Option.isSome_iff_exists.1 hin
  obtain ⟨i, x, hx, q1, q2⟩ := h4 a v0 hv0
  have hb := (h5 i x hx).2 q1
  have hfi : es.findIdx? (fun e => (e.born : Int) == (s : Int)) = some i := by
    rw [Array.findIdx?_eq_some_iff_getElem]
    have hil := (Array.getElem?_eq_some_iff.1 hx).1
    have hxi : es[i] = x := (Array.getElem?_eq_some_iff.1 hx).2
    refine ⟨hil, by simp [hxi, hb], fun j hji => ?_⟩
    have hjx : es[j]? = some es[j] := Array.getElem?_eq_getElem (by omega)
    intro hbj
    have hbj' : es[j].born = s := by
      have : (es[j].born : Int) = (s : Int) := by simpa using hbj
      omega
    have := stamped_born h2 hjx hx (hbj'.trans hb.symm)
    omega
  obtain ⟨t1, t2, t3⟩ := set_turn (o' := .map (es.modify i fun e => { e with val := v }) clock) h1
  exact ⟨setW w b (.map (es.modify i fun e => { e with val := v }) clock), by simp [Instr.entryStore, Go.MapKept.run_getObj_map h1, asInt, asIntOf, hfi, Go.MapKept.run_setObj_map _ h1], ⟨rfl, rfl, rfl⟩, k _ (modify_old hk h2 h3 h4 hx q1 (f := fun e => { e with val := v }) q1 rfl (fun _ => rfl) t1).1 t2 t3⟩
theorem mmake {K : Value → Heap → Prop} (k : ∀ b H', b = H.size → H'.size = b + 1 → MapF enc H' b (fun _ => none) → Agr (fun k => k < b) H H' → K (.map (some b)) H') : VEff P (Instr.makeMap t none) H K := by
  refine VEff.mk fun w hw => ?_
  subst hw
  exact ⟨_, w.alloc (.map #[] 0), by simp [Instr.makeMap], ⟨rfl, rfl, rfl⟩, k w.heap.size _ rfl (by rw [alloc_heap]; simp) ⟨#[], 0, by rw [alloc_heap]; simp, Go.MapKept.stamped_empty 0, by simp, by simp⟩ (heap_push_old _ _)⟩
end

end Go.VC

/- Maps of the call's own as pieces. -/
set_option linter.unusedVariables false
set_option linter.unusedSimpArgs false
namespace Go.VC
section
variable {α : Type} {enc : α → Value} {b : Nat} {m m' : α → Option Value} {B : Nat → Prop} {H0 H H' : Heap} {ps : List Pc}
def pM (enc : α → Value) (b : Nat) (m : α → Option Value) : Pc := ⟨fun k => k = b, fun H => MapF enc H b m, fun h hp => hp.agr h rfl⟩
theorem StB.mapNew (st : StB B H0 H ps) (hb : b = H.size) (hs : H'.size = b + 1) (hm : MapF enc H' b (fun _ => none)) (ha : Agr (fun k => k < b) H H') : StB B H0 H' (ps ++ [pM enc b fun _ => none]) := by
  subst hb
  exact st.add (ha.mono fun k hk => hk) _ hm fun k hk => by have : k = H.size := hk; omega
theorem StB.map (st : StB B H0 H ps) (i : Nat) (hp : ps[i]? = some (pM enc b m)) : MapF enc H b m := st.at_ i hp
theorem mputP {P : Program} {t kt et : TypeId} {d : TypeDesc} {z v : Value} {a : α} {K : Heap → Prop} (st : StB B H0 H ps) (i : Nat) (ht : MapT P t kt et d z) (hk : KeyE d enc) (hp : ps[i]? = some (pM enc b m)) (hm : ∀ a', put m a (some v) a' = m' a')
    (k : ∀ H', StB B H0 H' (ps.set i (pM enc b m')) → K H') : VEffU P (Instr.mapUpdate t (.map (some b)) (enc a) v) H K := by
  refine mput ht hk (st.map i hp) ?_
  intro H' hb' ha' hs'
  exact k H' (st.upd i hp (ha'.mono fun k hk hkb => hk.2 hkb) (pM enc b m') (hb'.ext hm) (fun k hk => .inl hk) (fun k hk => by rw [hs']; exact (st.in_ i hp hk).2) (by omega))
end
end Go.VC

/- Maps of slices of the call's own; cutting a slice's head off. -/
set_option linter.unusedVariables false
set_option linter.unusedSimpArgs false
namespace Go.VC
open Classical in
noncomputable def upd {α β : Type} (f : α → β) (a : α) (v : β) : α → β := fun b => if b = a then v else f b
theorem upd_self {α β : Type} (f : α → β) (a : α) (v : β) : upd f a v a = v := if_pos rfl
theorem upd_ne {α β : Type} {f : α → β} {a b : α} {v : β} (h : b ≠ a) : upd f a v b = f b := if_neg h

/-- What the map holds at a, nil where it holds nothing. -/
def slAt {α : Type} (m : α → Option Value) (a : α) : Value := (m a).getD (.slice none 0 0)
theorem slAt_put {α : Type} (m : α → Option Value) (a : α) (v : Value) : slAt (put m a (some v)) a = v := by simp [slAt, put_self]
theorem slAt_ne {α : Type} {m : α → Option Value} {a b : α} {v : Option Value} (h : b ≠ a) : slAt (put m a v) b = slAt m b := by simp [slAt, put_ne h]
structure Qs {α β : Type} (enc : α → Value) (T : Ty β) (H : Heap) (lo : Nat) (e : TypeId) (mb : Nat) (m : α → Option Value) (xs : α → List β) : Prop where
  map : MapF enc H mb m
  lt : mb < lo
  own : ∀ k, SlO T (fun _ => False) H lo e (slAt m k) (xs k)
  apart : ∀ k k' b, k ≠ k' → slB (slAt m k) b → ¬ slB (slAt m k') b
section
variable {α β : Type} {enc : α → Value} {T : Ty β} {H H1 H2 : Heap} {lo mb : Nat} {e : TypeId} {m : α → Option Value} {xs : α → List β} {S' : Nat → Prop}
theorem Qs.agr (h : Qs enc T H lo e mb m xs) (k : Agr S' H H1) (hm : S' mb) (hlo : ∀ b, lo ≤ b → b < H.size → S' b) : Qs enc T H1 lo e mb m xs :=
  ⟨h.map.agr k hm, h.lt, fun a => (h.own a).agr k (fun b hb => hlo b ((h.own a).lt hb).1 ((h.own a).lt hb).2) (fun _ f => f.elim), h.apart⟩
theorem Qs.new (h : MapF enc H mb (fun _ => none)) (hl : mb < lo) : Qs enc T H lo e mb (fun _ => none) (fun _ => []) :=
  ⟨h, hl, fun _ => SlO.nil, fun k k' b _ hb => by obtain ⟨o, n, c, h⟩ := hb; cases h⟩
theorem Qs.ext {ys : α → List β} (h : Qs enc T H lo e mb m xs) (hx : ∀ k, xs k = ys k) : Qs enc T H lo e mb m ys := (funext hx : xs = ys) ▸ h
theorem Qs.push {a : α} {v' : Value} {x' : List β} (h : Qs enc T H lo e mb m xs) (hown : SlO T (fun _ => False) H1 lo e v' x') (ha : Agr (fun k => k < H.size ∧ ¬ slB (slAt m a) k) H H1)
    (hfresh : ∀ k, slB v' k → slB (slAt m a) k ∨ H.size ≤ k) (hmap : MapF enc H2 mb (put m a (some v'))) (ha2 : Agr (fun k => k ≠ mb) H1 H2) : Qs enc T H2 lo e mb (put m a (some v')) (upd xs a x') := by
  have hl := h.lt
  refine ⟨hmap, h.lt, fun k => ?_, fun k k' b hkk hb hb' => ?_⟩
  · by_cases hk : k = a
    · subst hk
      rw [slAt_put, upd_self]
      exact hown.agr ha2 (fun b hb => by have := (hown.lt hb).1; omega) (fun _ f => f.elim)
    · rw [slAt_ne hk, upd_ne hk]
      have h1 := h.own k
      exact (h1.agr ha (fun b hb => ⟨(h1.lt hb).2, h.apart k a b hk hb⟩) (fun _ f => f.elim)).agr ha2 (fun b hb => by have := (h1.lt hb).1; omega) (fun _ f => f.elim)
  · have old : ∀ j, j ≠ a → slB (slAt (put m a (some v')) j) b → ¬ slB v' b := by
      intro j hj hjb hv
      rw [slAt_ne hj] at hjb
      rcases hfresh b hv with h1 | h1
      · exact h.apart j a b hj hjb h1
      · have := ((h.own j).lt hjb).2; omega
    by_cases hk : k = a
    · subst hk
      rw [slAt_put] at hb
      exact old k' (Ne.symm hkk) hb' hb
    · by_cases hk' : k' = a
      · subst hk'
        rw [slAt_put] at hb'
        exact old k hk hb hb'
      · rw [slAt_ne hk] at hb
        rw [slAt_ne hk'] at hb'
        exact h.apart k k' b hkk hb hb'
/-- The slices, to be read only. -/
theorem Qs.view (h : Qs enc T H lo e mb m xs) (k : α) : ∃ a cap, slAt m k = .slice a (xs k).length cap ∧ SlD T (fun j => lo ≤ j ∧ j < H.size) H a cap (xs k) := by
  obtain ⟨a, cap, h1, h2, -⟩ := (h.own k).view (S' := fun j => lo ≤ j ∧ j < H.size) (fun b hb => (h.own k).lt hb) (fun _ f => f.elim)
  exact ⟨a, cap, h1, h2⟩
end

theorem Ty.reps_drop {α : Type} {T : Ty α} {S : Nat → Prop} {H : Heap} : ∀ {xs : List α} {cs : List Value} (i : Nat), i ≤ xs.length → T.reps S H cs xs → ∃ l r, cs = l ++ r ∧ l.length = i * T.size ∧ T.reps S H r (xs.drop i)
  | xs, cs, 0, _, h => ⟨[], cs, rfl, by simp, h⟩
  | x :: xs, cs, i + 1, hi, ⟨c, r, e, h1, h2⟩ => by
    obtain ⟨l, r', e', hl, hr⟩ := Ty.reps_drop i (by simpa using hi) h2
    exact ⟨c ++ l, r', by rw [e, e', List.append_assoc], by rw [List.length_append, T.len h1, hl, Nat.succ_mul]; omega, hr⟩
  | [], cs, i + 1, hi, _ => by simp at hi
theorem vcutL {α : Type} {T : Ty α} {P : Program} {t e by_ : Nat} {z : Value} {S S' : Nat → Prop} {H : Heap} {K : Value → Prop} {a : Option Addr} {cap l : Nat} {ki : IntKind} {i : Int} {xs : List α} (ht : SlT P t e T.size by_ z) (h : SlD T S' H a cap xs) (hi : i = (l : Int)) (hl : l ≤ xs.length)
    (k : ∀ a', SlD T S' H a' (cap - l) (xs.drop l) → K (.slice a' (xs.drop l).length (cap - l))) : VDet P (Instr.sliceAt t (.slice a xs.length cap) (some (.int ki i)) none none) S H K := by
  subst hi
  obtain ⟨inf, hi, hs, _, _⟩ := ht.info
  have hle := h.le
  have hk : K (.slice (if cap = l then a else a.map (·.add (l * T.size))) (xs.length - l) (cap - l)) := by
    have := k (if cap = l then a else a.map (·.add (l * T.size))) ?_
    · rwa [List.length_drop] at this
    · by_cases hc : cap = l
      · rw [if_pos hc]
        cases a with
        | none => obtain ⟨rfl, rfl⟩ := h; simp [SlD]
        | some ad => exact ⟨by simp; omega, by omega, .inl (by omega)⟩
      · rw [if_neg hc]
        cases a with
        | none => obtain ⟨rfl, rfl⟩ := h; simp [SlD]
        | some ad =>
          obtain ⟨h3, h4, h0 | ⟨h1, h2, ec, h5, h6⟩⟩ := h
          · omega
          · obtain ⟨b, o, sp⟩ := ad
            simp only at h1 h2 h5
            subst h1
            obtain ⟨l', r, rfl, hl', hr⟩ := Ty.reps_drop l hl h6
            refine ⟨by simp; omega, by omega, .inr ?_⟩
            show (Addr.add ⟨b, o, none⟩ (l * T.size)).spot = none ∧ _
            simp only [Addr.add_mid]
            exact ⟨trivial, h2, r, by rw [← hl']; exact h5.right, hr⟩
  refine VDet.mk _ (fun w _ => ?_) hk
  have h1 : ¬ (xs.length < l) := by omega
  simp [Instr.sliceAt, Instr.slice, run_underlying ht.under, Instr.sliceBounds, Instr.sliceBound, asIntOf, h1, sizeOf, typeInfo, hi, hs]

theorem text_beq (a b : ByteArray) : (a.toList == b.toList) = decide (a.data.toList = b.data.toList) := by
  rw [ByteArray.toList_eq, ByteArray.toList_eq]
  by_cases h : a.data.toList = b.data.toList
  · rw [decide_eq_true h, h]; simp
  · rw [decide_eq_false h]
    exact Bool.eq_false_iff.2 fun hh => h (by simpa using hh)
theorem text_inj {a b : ByteArray} (h : a.data.toList = b.data.toList) : a = b := by
  cases a; cases b; simp_all [Array.toList_inj]
theorem text_eq (a b : ByteArray) : (a.toList == b.toList) = true ↔ a = b := by
  rw [text_beq, decide_eq_true_eq]
  exact ⟨text_inj, fun h => by rw [h]⟩
end Go.VC

/- Slices of the call's own whose head is cut off and that are appended to: queues; bytes put together as texts. -/
set_option linter.unusedVariables false
set_option linter.unusedSimpArgs false
namespace Go.VC

/-- v is a slice over a block of the call's own, from wherever in it, or nil; it holds xs. -/
def SlQ {α : Type} (T : Ty α) (S : Nat → Prop) (H : Heap) (e : TypeId) (v : Value) (xs : List α) : Prop :=
  ∃ cs, cs.length = xs.length * T.size ∧ T.reps S H cs xs ∧ ((v = .slice none 0 0 ∧ xs = []) ∨
    ∃ b o cap l, v = .slice (some ⟨b, o, none⟩) xs.length cap ∧ Blk H b e l ∧ xs.length ≤ cap ∧ cap ≤ maxLen ∧ o + cap * T.size ≤ l.length ∧ ∀ j u, cs[j]? = some u → l[o + j]? = some u)
section
variable {α : Type} {T : Ty α} {S S' : Nat → Prop} {H H' : Heap} {e : TypeId} {v : Value} {xs : List α}
theorem SlQ.agr (h : SlQ T S H e v xs) (k : Agr S' H H') (hb : ∀ b, slB v b → S' b) (hs : ∀ b, S b → S' b) : SlQ T S H' e v xs := by
  obtain ⟨cs, h1, h2, h3⟩ := h
  refine ⟨cs, h1, Ty.reps_frame (k.mono hs) h2, ?_⟩
  rcases h3 with h3 | ⟨b, o, cap, l, rfl, h4, r⟩
  · exact .inl h3
  · exact .inr ⟨b, o, cap, l, rfl, h4.agr k (hb b ⟨_, _, _, rfl⟩), r⟩
theorem SlQ.hull (h : SlQ T S H e v xs) : ∃ a cap, v = .slice a xs.length cap := by
  obtain ⟨cs, h1, h2, ⟨rfl, rfl⟩ | ⟨b, o, cap, l, rfl, r⟩⟩ := h
  · exact ⟨_, _, rfl⟩
  · exact ⟨_, _, rfl⟩
theorem SlQ.lt (h : SlQ T S H e v xs) {b : Nat} (hb : slB v b) : b < H.size := by
  obtain ⟨o', n', c', rfl⟩ := hb
  obtain ⟨cs, h1, h2, ⟨h3, h4⟩ | ⟨b', o, cap, l, h3, h4, r⟩⟩ := h
  · cases h3
  · injection h3 with h3
    injection h3 with h3
    injection h3 with h3
    subst h3
    exact h4.lt
theorem SlQ.ofO {lo : Nat} (h : SlO T S H lo e v xs) : SlQ T S H e v xs := by
  obtain ⟨cs, ⟨h0, h1⟩, h2⟩ := h
  refine ⟨cs, h0, h2, ?_⟩
  rcases h1 with ⟨rfl, h1⟩ | ⟨b, cap, l, rfl, h4, h5, h6, h7, h8, h9⟩
  · exact .inl ⟨rfl, List.eq_nil_of_length_eq_zero h1⟩
  · refine .inr ⟨b, 0, cap, l, rfl, h5, h6, h7, by omega, fun j u hu => ?_⟩
    rw [← h9, List.getElem?_take] at hu
    split at hu
    · rw [Nat.zero_add]; exact hu
    · cases hu
theorem SlQ.view {n cap : Nat} {a : Option Addr} (h : SlQ T S H e (.slice a n cap) xs) (hb : ∀ b, slB (.slice a n cap) b → S' b) (hs : ∀ b, S b → S' b) : n = xs.length ∧ SlD T S' H a cap xs := by
  obtain ⟨cs, h1, h2, ⟨h3, h4⟩ | ⟨b, o, cap', l, h3, h4, h5, h6, h7, h8⟩⟩ := h
  · injection h3 with e1 e2 e3
    subst e1; subst e2; subst e3; subst h4
    exact ⟨rfl, rfl, rfl⟩
  · injection h3 with e1 e2 e3
    subst e1; subst e2; subst e3
    exact ⟨rfl, SlD.intro (hb b ⟨_, _, _, rfl⟩) h5 h6 (h4.cells h8) (Ty.reps_mono hs h2)⟩
theorem vappendQ {P : Program} {t ty by_ : Nat} {z : Value} {K : Value → Heap → Prop} (ht : SlT P t e T.size by_ z) {q o m cap : Nat} {ys : List α} {ds : List Value}
    (hs : SlQ T S H e v xs) (hS : ∀ k, S k → k < H.size ∧ ¬ slB v k) (hd : Cells H q o ds) (hy : T.reps S H ds ys) (hm : m = ys.length) (h1 : ∀ u ∈ ds, u.oneCell' = true)
    (h63 : xs.length + ys.length ≤ maxLen) (hby : (xs.length + ys.length) * by_ ≤ 140737488355328)
    (h : ∀ v' H', SlQ T S H' e v' (xs ++ ys) → Agr (fun k => k < H.size ∧ ¬ slB v k) H H' → H.size ≤ H'.size → (∀ k, slB v' k → slB v k ∨ H.size ≤ k) → K v' H') :
    VEff P (Builtin.append_ #[t, t] ty [v, .slice (some ⟨q, o, none⟩) m cap].toArray) H K := by
  subst hm
  refine VEff.mk fun w hw => ?_
  subst hw
  obtain ⟨inf, hi, hsi, hbi, hz⟩ := ht.info
  have hsrc : Src P inf.size t (.slice (some ⟨q, o, none⟩) ys.length cap) ys.length ds w := by
    rw [hsi]
    refine Src.ofSlice w ht.under ⟨q, o, none⟩ ys.length cap ds (Ty.reps_len hy) (fun j u hu => ?_) h1
    rw [Addr.add_mid, cell_w]
    exact hd j u hu
  have hnl : ds.length = ys.length * T.size := Ty.reps_len hy
  obtain ⟨cs, hcl, hr, hs2⟩ := hs
  have h63' : xs.length + ys.length ≤ 9223372036854775807 := by simp only [maxLen] at h63; omega
  have hlen : (cs ++ ds).length = (xs ++ ys).length * T.size := by rw [List.length_append, List.length_append, hcl, hnl, Nat.add_mul]
  have reps : ∀ {H' : Heap}, Agr (fun k => k < w.heap.size ∧ ¬ slB v k) w.heap H' → T.reps S H' (cs ++ ds) (xs ++ ys) := fun k => Ty.reps_append (Ty.reps_frame (k.mono hS) hr) (Ty.reps_frame (k.mono hS) hy)
  have grow : ∀ (base : Option Addr) (cap' : Nat), v = .slice base xs.length cap' → cap' < xs.length + ys.length → (Builtin.firstCells inf.size xs.length (.slice base xs.length cap')).run P w.drew = .ok cs.toArray w.drew →
      ∃ v' w', (Builtin.append_ #[t, t] ty [v, .slice (some ⟨q, o, none⟩) ys.length cap].toArray).run P w = .ok v' w' ∧ Env w w' ∧ K v' w'.heap := by
    intro base cap' hv hcap hold
    subst hv
    have hrun := run_append_grow_src (P := P) w t t ty e inf z ht.under hi hz base xs.length cap' cs hold _ ys.length ds hsrc hcap (by omega) (growslice_fits (by omega) (by rw [hbi]; exact hby))
    refine ⟨_, _, hrun, ⟨rfl, rfl, rfl⟩, ?_⟩
    have hge := grownCap_ge w (xs.length + ys.length) cap' e
    have hle := grownCap_le_maxLen w (xs.length + ys.length) cap' e h63
    have hagr : Agr (fun k => k < w.heap.size ∧ ¬ slB (.slice base xs.length cap') k) w.heap (w.drew.alloc (.cells ((cs ++ ds).toArray ++ Builtin.zeroCells z.cells (grownCap w (xs.length + ys.length) cap' e - (xs.length + ys.length))) e)).heap := fun k hk => heap_push_old w.heap _ k hk.1
    have hblk : Blk (w.drew.alloc (.cells ((cs ++ ds).toArray ++ Builtin.zeroCells z.cells (grownCap w (xs.length + ys.length) cap' e - (xs.length + ys.length))) e)).heap w.heap.size e
        ((cs ++ ds) ++ (Builtin.zeroCells z.cells (grownCap w (xs.length + ys.length) cap' e - (xs.length + ys.length))).toList) := by
      unfold Blk
      have : (w.drew.alloc (.cells ((cs ++ ds).toArray ++ Builtin.zeroCells z.cells (grownCap w (xs.length + ys.length) cap' e - (xs.length + ys.length))) e)).heap = w.heap.push (.cells ((cs ++ ds).toArray ++ Builtin.zeroCells z.cells (grownCap w (xs.length + ys.length) cap' e - (xs.length + ys.length))) e) := rfl
      rw [this]
      simp
    refine h _ _ ⟨cs ++ ds, hlen, reps hagr, .inr ⟨w.heap.size, 0, _, _, by rw [List.length_append], hblk, by rw [List.length_append]; exact hge, hle, ?_, ?_⟩⟩ hagr ?_ ?_
    · have e2 : (cs ++ ds).length = (xs.length + ys.length) * T.size := by rw [hlen, List.length_append]
      have e3 : ∀ g : Nat, (Builtin.zeroCells z.cells g).toList.length = g * T.size := fun g => by rw [Array.length_toList, size_zeroCells, ht.zsz]
      rw [@List.length_append _ (cs ++ ds) _, e2, e3, ← Nat.add_mul, Nat.zero_add]
      exact Nat.mul_le_mul_right _ (by omega)
    · intro j u hu
      rw [Nat.zero_add, List.getElem?_append_left (List.getElem?_eq_some_iff.1 hu).1]
      exact hu
    · show w.heap.size ≤ (w.heap.push _).size
      simp
    · rintro k ⟨o, n', c, hk⟩
      cases hk
      exact .inr (Nat.le_refl _)
  rcases hs2 with ⟨rfl, rfl⟩ | ⟨b, oo, cap', l, rfl, hb, hnc, hcm, hll, hget⟩
  · have hcs : cs = [] := List.eq_nil_of_length_eq_zero (by simpa using hcl)
    subst hcs
    by_cases hm : ys.length = 0
    · obtain rfl : ys = [] := List.eq_nil_of_length_eq_zero hm
      have hn : ds = [] := List.eq_nil_of_length_eq_zero (by simpa using hnl)
      subst hn
      refine ⟨.slice none 0 0, w, ?_, Env.refl w, h _ _ ⟨[], by simp, rfl, .inl ⟨rfl, rfl⟩⟩ (Agr.refl _ _) (Nat.le_refl _) (fun k hk => .inl hk)⟩
      have k1 := hsrc.len
      have k2 := hsrc.cells
      simp only [List.length_nil] at k1 k2
      rcases hsrc.kind with ⟨e', hk⟩ | hk <;> simp [Builtin.append_, run_underlying ht.under, run_underlying hk, sizeOf, typeInfo, hi, k1, k2]
    · exact grow none 0 rfl (by simp; omega) (by simp [Builtin.firstCells])
  · by_cases hroom : xs.length + ys.length ≤ cap'
    · have hmul : xs.length * T.size + ds.length ≤ cap' * T.size := by rw [hnl, ← Nat.add_mul]; exact Nat.mul_le_mul_right _ hroom
      have hrun := run_append_room_src (P := P) w t t ty e inf ht.under hi b oo xs.length cap' _ ys.length ds hsrc hroom
        (fun j hj => by rw [cell_w, hb.cell, hsi]; simp; omega) (fun j hj => frozen_blk hb)
      have hfit : oo + xs.length * inf.size + ds.length ≤ l.length := by rw [hsi]; omega
      obtain ⟨h1', h2, h3, h4⟩ := setCells_blk ds (oo + xs.length * inf.size) l w hb hfit
      have hagr : Agr (fun k => k < w.heap.size ∧ ¬ slB (.slice (some ⟨b, oo, none⟩) xs.length cap') k) w.heap (w.setCells b (oo + xs.length * inf.size) ds).heap := h2.mono fun k hk hkb => by subst hkb; exact hk.2 ⟨oo, _, cap', rfl⟩
      refine ⟨_, _, hrun, h4, h _ _ ⟨cs ++ ds, hlen, reps hagr, .inr ⟨b, oo, cap', _, by rw [List.length_append], h1', by rw [List.length_append]; exact hroom, hcm, ?_, ?_⟩⟩ hagr (by omega) ?_⟩
      · rw [splice_length hfit]; exact hll
      · intro j u hu
        rw [splice_get hfit, hsi]
        by_cases hj : j < cs.length
        · rw [List.getElem?_append_left hj] at hu
          rw [if_neg (by omega)]
          exact hget j u hu
        · rw [List.getElem?_append_right (by omega)] at hu
          have := (List.getElem?_eq_some_iff.1 hu).1
          rw [if_pos (by omega), show oo + j - (oo + xs.length * T.size) = j - cs.length by omega]
          exact hu
      · rintro k ⟨o, n', c, hk⟩
        cases hk
        exact .inl ⟨oo, xs.length, cap', rfl⟩
    · refine grow (some ⟨b, oo, none⟩) cap' rfl (by omega) ?_
      have hc : Cells w.heap b oo cs := hb.cells hget
      have := run_firstCells_some (P := P) w.drew inf.size xs.length ⟨b, oo, none⟩ xs.length cap' cs (by rw [hsi]; exact hcl) (fun j v hv => by
        rw [Addr.add_mid]
        exact range_w (w := w.drew) (H := w.heap) hc rfl j v hv)
      exact this
/-- The head is cut off. -/
theorem vcutQ {P : Program} {t by_ : Nat} {z : Value} {ki : IntKind} {S0 : Nat → Prop} {a : Option Addr} {n cap : Nat} {x : α} {H2 : Heap} {K : Value → Prop} (ht : SlT P t e T.size by_ z) (h : SlQ T S H e (.slice a n cap) (x :: xs))
    (k : ∀ a' cap', SlQ T S H e (.slice a' xs.length cap') xs → (∀ b, slB (.slice a' xs.length cap') b → slB (.slice a n cap) b) → K (.slice a' xs.length cap')) : VDet P (Instr.sliceAt t (.slice a n cap) (some (.int ki 1)) none none) S0 H2 K := by
  obtain ⟨inf, hi, hs, _, _⟩ := ht.info
  obtain ⟨cs, h1, h2, ⟨h3, h4⟩ | ⟨b, o, cap', l, h3, h4, h5, h6, h7, h8⟩⟩ := h
  · cases h4
  · injection h3 with e1 e2 e3
    subst e1; subst e2; subst e3
    simp only [List.length_cons] at h5 h1
    obtain ⟨c, r, rfl, hc, hr⟩ := h2
    have hcl := T.len hc
    have hk : K (.slice (if cap = 1 then some ⟨b, o, none⟩ else some ⟨b, o + T.size, none⟩) xs.length (cap - 1)) := by
      refine k _ _ ⟨r, by rw [List.length_append, Nat.add_mul] at h1; omega, hr, .inr ?_⟩ ?_
      · have hm : cap * T.size = (cap - 1) * T.size + T.size := by rw [← Nat.succ_mul]; congr 1; omega
        by_cases hc1 : cap = 1
        · rw [if_pos hc1]
          have hx : xs = [] := List.eq_nil_of_length_eq_zero (by omega)
          subst hx
          have hr0 : r = [] := by simpa [Ty.reps] using hr
          subst hr0
          exact ⟨b, o, cap - 1, l, rfl, h4, by simp, by omega, by subst hc1; simp; omega, fun j u hu => by simp at hu⟩
        · rw [if_neg hc1]
          refine ⟨b, o + T.size, cap - 1, l, rfl, h4, by omega, by omega, by omega, fun j u hu => ?_⟩
          have := h8 (c.length + j) u (by rw [List.getElem?_append_right (by omega), Nat.add_sub_cancel_left]; exact hu)
          rw [hcl, ← Nat.add_assoc] at this
          exact this
      · rintro k ⟨o', n', c', hk⟩
        by_cases hc1 : cap = 1
        · rw [if_pos hc1] at hk; cases hk; exact ⟨_, _, _, rfl⟩
        · rw [if_neg hc1] at hk; cases hk; exact ⟨_, _, _, rfl⟩
    refine VDet.mk _ (fun w _ => ?_) hk
    have ha : (⟨b, o, none⟩ : Addr).add (1 * T.size) = ⟨b, o + T.size, none⟩ := by rw [Nat.one_mul]; exact Addr.add_mid _ _ _
    have h9 : ¬ ((xs.length : Int) + 1 < 1) := by omega
    have h10 : (1 : Int) ≤ (xs.length : Int) + 1 := by omega
    by_cases hc1 : cap = 1
    · subst hc1
      simp [Instr.sliceAt, Instr.slice, run_underlying ht.under, Instr.sliceBounds, Instr.sliceBound, asIntOf, sizeOf, typeInfo, hi, hs, h9, h10]
    · simp [Instr.sliceAt, Instr.slice, run_underlying ht.under, Instr.sliceBounds, Instr.sliceBound, asIntOf, sizeOf, typeInfo, hi, hs, hc1, h9, h10]
      simp [Nat.one_mul] at ha
      exact ha
end

/-! ### as pieces -/
section
variable {α : Type} {T : Ty α} {e : TypeId} {a : Option Addr} {n cap : Nat} {xs : List α} {B : Nat → Prop} {H0 H H' : Heap} {ps : List Pc}
def pQ (T : Ty α) (e : TypeId) (a : Option Addr) (n cap : Nat) (xs : List α) : Pc := ⟨fun k => slB (.slice a n cap) k, fun H => SlQ T none_ H e (.slice a n cap) xs, fun h hp => hp.agr h (fun _ hb => hb) (fun _ f => f.elim)⟩
theorem StB.qview (st : StB B H0 H ps) (i : Nat) (hp : ps[i]? = some (pQ T e a n cap xs)) : n = xs.length ∧ SlD T (Old H) H a cap xs :=
  SlQ.view (st.at_ i hp) (fun b hb => (st.in_ i hp hb).2) (fun _ f => f.elim)
/-- A slice turns to a queue. -/
theorem StB.toQ (st : StB B H0 H ps) (i : Nat) (hp : ps[i]? = some (pS T e a n cap xs)) : StB B H0 H (ps.set i (pQ T e a n cap xs)) :=
  st.say i hp _ (SlQ.ofO (st.at_ i hp).1) fun k hk => .inl hk
theorem appQ {P : Program} {t ty q o m cap2 by_ : Nat} {z : Value} {ys : List α} {ds : List Value} {K : Value → Heap → Prop} (st : StB B H0 H ps) (i : Nat) (ht : SlT P t e T.size by_ z) (hp : ps[i]? = some (pQ T e a n cap xs))
    (hd : Cells H q o ds) (hy : T.reps none_ H ds ys) (hm : m = ys.length) (h1 : ∀ u ∈ ds, u.oneCell' = true) (h63 : xs.length + ys.length ≤ maxLen) (hby : (xs.length + ys.length) * by_ ≤ 140737488355328)
    (k : ∀ a' cap' H', StB B H0 H' (ps.set i (pQ T e a' (xs.length + ys.length) cap' (xs ++ ys))) → Agr (fun k => k < H.size ∧ ¬ slB (.slice a n cap) k) H H' → K (.slice a' (xs.length + ys.length) cap') H') :
    VEff P (Builtin.append_ #[t, t] ty [.slice a n cap, .slice (some ⟨q, o, none⟩) m cap2].toArray) H K := by
  refine vappendQ (T := T) (S := none_) ht (st.at_ i hp) (fun k hk => hk.elim) hd hy hm h1 h63 hby ?_
  intro v' H' hown hagr hsz hfr
  obtain ⟨a', cap', rfl⟩ := hown.hull
  rw [List.length_append] at hown hfr ⊢
  exact k a' cap' H' (st.upd i hp (hagr.mono fun k hk => ⟨hk.1, fun hb => hk.2 hb⟩) _ hown (fun k hk => hfr k hk) (fun k hk => hown.lt hk) hsz) hagr
theorem cutQ {P : Program} {t by_ : Nat} {z : Value} {ki : IntKind} {S0 : Nat → Prop} {x : α} {H2 : Heap} {K : Value → Prop} (st : StB B H0 H ps) (i : Nat) (ht : SlT P t e T.size by_ z) (hp : ps[i]? = some (pQ T e a n cap (x :: xs)))
    (k : ∀ a' cap', StB B H0 H (ps.set i (pQ T e a' xs.length cap' xs)) → K (.slice a' xs.length cap')) : VDet P (Instr.sliceAt t (.slice a n cap) (some (.int ki 1)) none none) S0 H2 K :=
  vcutQ (T := T) ht (st.at_ i hp) fun a' cap' h1 h2 => k a' cap' (st.say i hp _ h1 h2)
end

/-! ### bytes and texts -/
theorem vb2s {P : Program} {s d e b o n cap : Nat} {H : Heap} {K : Value → Heap → Prop} (bs : List Nat) (hs : P.underlying s = some (.slice e)) (he : P.underlying e = some (.int .u8)) (hd : P.underlying d = some .string)
    (hc : ∀ (j x : Nat), bs[j]? = some x → cell H b (o + j) = some (.int .u8 (x : Int))) (hn : n = bs.length) (k : K (.string ⟨(bs.map UInt8.ofNat).toArray⟩) H) : VEff P (convert s d (.slice (some ⟨b, o, none⟩) n cap)) H K := by
  subst hn
  refine VEff.mk fun w hw => ?_
  subst hw
  have := run_convert_bytes_arg (P := P) w s e hs he b o bs.length cap (bs.map fun (n : Nat) => (n : Int)) (by simp) (fun i hi => by
    rw [cell_w, hc i bs[i] (List.getElem?_eq_getElem hi)]
    simp [List.getD, hi]) d hd
  have e1 : strOfNums (bs.map fun (n : Nat) => (n : Int)) = ⟨(bs.map UInt8.ofNat).toArray⟩ := by
    unfold strOfNums
    rw [List.map_map]
    congr 2
  rw [e1] at this
  exact ⟨_, w, this, Env.refl w, k⟩
theorem vb2s0 {P : Program} {s d e n cap : Nat} {H : Heap} {K : Value → Heap → Prop} (hs : P.underlying s = some (.slice e)) (he : P.underlying e = some (.int .u8)) (hd : P.underlying d = some .string)
    (k : K (.string ⟨#[]⟩) H) : VEff P (convert s d (.slice none n cap)) H K := by
  refine VEff.mk fun w hw => ?_
  subst hw
  exact ⟨_, w, run_convert_bytes_nil (P := P) w s e hs he n cap d hd, Env.refl w, k⟩
end Go.VC

/- Regions whose order is open, once more: the last operations may change what the quiet ones have read. -/
set_option linter.unusedVariables false
set_option linter.unusedSimpArgs false
namespace Go.VC

/-- Operation j waits for i, if only by way of others. -/
def needsB (ops : Array Oper) : Nat → Nat → Nat → Bool
  | 0, _, _ => false
  | f + 1, j, i => match ops[j]? with
    | none => false
    | some o => o.after.toList.any fun e => Region.binds .any e && (Nat.beq e.on i || needsB ops f e.on i)
/-- What is listed has all that it waits for listed. -/
def Shut (ops : Array Oper) (listed : Array Bool) : Prop :=
  ∀ (j : Nat) (o : Oper), ops[j]? = some o → listed.getD j false = true → ∀ e ∈ o.after, Region.binds .any e = true → listed.getD e.on false = true
theorem Shut.chain {ops : Array Oper} {listed : Array Bool} (h : Shut ops listed) {i : Nat} : ∀ (f j : Nat), needsB ops f j i = true → (∀ (o : Oper), ops[j]? = some o → ∀ e ∈ o.after, Region.binds .any e = true → listed.getD e.on false = true) → listed.getD i false = true
  | 0, _, hn, _ => by simp [needsB] at hn
  | f + 1, j, hn, hd => by
    unfold needsB at hn
    split at hn
    · cases hn
    · rename_i o ho
      obtain ⟨e, he, hb⟩ := List.any_eq_true.1 hn
      simp only [Bool.and_eq_true, Bool.or_eq_true] at hb
      have hl := hd o ho e (by simpa using he) hb.1
      rcases hb.2 with h1 | h1
      · rw [← Nat.eq_of_beq_eq_true h1]; exact hl
      · exact h.chain f e.on h1 fun o' ho' e' he' hb' => h e.on o' ho' hl e' he' hb'
theorem Shut.not_ready {ops : Array Oper} {listed : Array Bool} (h : Shut ops listed) {i j f : Nat} (hn : needsB ops f j i = true) (hi : listed.getD i false = false) : j ∉ Region.ready .any ops listed := by
  intro hj
  obtain ⟨_, o, ho, hall⟩ := mem_ready.1 hj
  have := h.chain f j hn fun o' ho' e he hb => by rw [ho] at ho'; cases ho'; exact hall e he hb
  rw [hi] at this; cases this
theorem getD_put {l : Array Bool} {i k : Nat} (h : (l.setIfInBounds i true).getD k false = true) : k = i ∨ l.getD k false = true := by
  by_cases hk : k = i
  · exact .inl hk
  · rw [getD_set_ne false (Ne.symm hk)] at h; exact .inr h
theorem Shut.put {ops : Array Oper} {listed : Array Bool} (h : Shut ops listed) {j : Nat} (hj : j ∈ Region.ready .any ops listed) : Shut ops (listed.setIfInBounds j true) := by
  intro k o ho hk e he hb
  rcases getD_put hk with rfl | hk
  · obtain ⟨_, o', ho', hall⟩ := mem_ready.1 hj
    rw [ho] at ho'; cases ho'
    exact getD_set_true (hall e he hb)
  · exact getD_set_true (h k o ho hk e he hb)

/-- Whatever order is picked from here on, and S holds behind every operation but those of Z. -/
def wpAnyZ (P : Program) (ops : Array Oper) (Q : Exit → Act → World → Prop) (S : World → Prop) (Z : List Nat) : Nat → Array Bool → Act → World → Prop
  | 0, listed, a, w => Region.ready .any ops listed = [] ∧ Q .normal a w
  | fuel + 1, listed, a, w =>
    (Region.ready .any ops listed = [] → Q .normal a w) ∧
    ∀ i ∈ Region.ready .any ops listed, wpOp P ops Q i (fun a' w' => (Z.contains i = false → S w') ∧ wpAnyZ P ops Q S Z fuel (listed.setIfInBounds i true) a' w') a w
theorem wpAny_of_Z {P : Program} {ops : Array Oper} {Q : Exit → Act → World → Prop} {S : World → Prop} {Z : List Nat} : ∀ (fuel : Nat) (listed : Array Bool) (a : Act) (w : World),
    wpAnyZ P ops Q S Z fuel listed a w → wpAny P .any ops Q fuel listed a w
  | 0, _, _, _, h => h
  | fuel + 1, _, _, _, h => ⟨h.1, fun i hi => wpOp_mono (fun a' w' h' => wpAny_of_Z fuel _ a' w' h'.2) (h.2 i hi)⟩
theorem wpAnyZ_first {P : Program} {ops : Array Oper} {Q : Exit → Act → World → Prop} {S : World → Prop} {Z : List Nat} {i f : Nat} {oi : Oper} {v : Value} (hi : ops[i]? = some oi)
    (hsel : ∀ (j : Nat) (o : Oper) cs b, ops[j]? = some o → o.op ≠ .select cs b)
    (hQ : ∀ c a w, Q (.panic c) (a.put oi.dst v) w → Q (.panic c) a w) (hiz : Z.contains i = false) (hz : ∀ j, Z.contains j = true → needsB ops f j i = true) :
    ∀ (fuel : Nat) (listed : Array Bool) (a : Act) (w : World), Shut ops listed →
      (∀ j oj, ops[j]? = some oj → j ≠ i → listed.getD j true = false → (∀ e ∈ oj.after, Region.binds .any e = true → e.on ≠ i) → oi.apart ops oj = true) →
      i ∈ Region.ready .any ops listed → YieldsIf P ops S oi v a → S w →
      wpAnyZ P ops Q S Z fuel (listed.setIfInBounds i true) (a.put oi.dst v) w → wpAnyZ P ops Q S Z (fuel + 1) listed a w := by
  intro fuel
  induction fuel with
  | zero =>
    intro listed a w _ _ hr hy hS H
    refine ⟨fun h => (by rw [h] at hr; cases hr), fun j hj => ?_⟩
    by_cases hji : j = i
    · subst hji; exact hy.wpOp hi hS ⟨fun _ => hS, H⟩
    · have := ready_mono hj hji
      rw [H.1] at this
      cases this
  | succ fuel ih =>
    intro listed a w hsh hfree hr hy hS H
    refine ⟨fun h => (by rw [h] at hr; cases hr), fun j hj => ?_⟩
    by_cases hji : j = i
    · subst hji; exact hy.wpOp hi hS ⟨fun _ => hS, H⟩
    · have h1 := H.2 j (ready_mono hj hji)
      obtain ⟨hjun, oj, hoj, hall⟩ := mem_ready.1 hj
      have hun : listed.getD i false = false := by
        have h0 := (mem_ready.1 hr).1
        rcases Nat.lt_or_ge i listed.size with h' | h'
        · simp [h'] at h0 ⊢; exact h0
        · simp [Array.getElem?_eq_none h'] at h0
      have hnot : ∀ e ∈ oj.after, Region.binds .any e = true → e.on ≠ i := fun e he hb heq => by
        have h1 := hall e he hb
        rw [heq, hun] at h1; cases h1
      have hjz : Z.contains j = false := by
        cases hc : Z.contains j with
        | false => rfl
        | true => exact absurd hj (hsh.not_ready (hz j hc) hun)
      have h2 := wpOp_putIf hoj (hfree j oj hoj hji hjun hnot) (fun cs b => hsel i oi cs b hi) (fun cs b => hsel j oj cs b hoj) hQ hy h1
      have hfree' : ∀ k ok, ops[k]? = some ok → k ≠ i → (listed.setIfInBounds j true).getD k true = false →
          (∀ e ∈ ok.after, Region.binds .any e = true → e.on ≠ i) → oi.apart ops ok = true := fun k ok hk hki hun hno => by
        refine hfree k ok hk hki ?_ hno
        by_cases hjk : j = k
        · subst hjk; exact hjun
        · rw [getD_set_ne true hjk] at hun; exact hun
      refine wpOp_mono (fun a' w' h3 => ⟨fun _ => h3.2.1 hjz, ih (listed.setIfInBounds j true) a' w' (hsh.put hj) hfree' (ready_mono hr (Ne.symm hji)) h3.1 (h3.2.1 hjz) ?_⟩) h2
      rw [Array.setIfInBounds_comm _ _ hji]
      exact h3.2.2

/-- One operation of the order, carried out here. -/
def stepZ (P : Program) (S : Nat → Prop) (Z : List Nat) (H0 : Heap) (all : List Oper) (i : Nat) (fr : Fr) (H : Heap) (next : Fr → Heap → Prop) : Prop :=
  match all[i]? with
  | none => False
  | some o => match o.guard with
    | some _ => False
    | none => match Z.contains i with
      | true => opK P false (fun _ => True) o fr H fun v H' => putK o.dst fr v fun fr' => next fr' H'
      | false => opK P false (fun _ => True) o fr H fun v H' => Agr S H0 H' ∧ putK o.dst fr v fun fr' => next fr' H'
def heldZ (P : Program) (S : Nat → Prop) (Z : List Nat) (H0 : Heap) (all : List Oper) (s : Sch) : Fr → Heap → (Fr → Heap → Prop) → Prop :=
  Sch.rec (motive := fun _ => Fr → Heap → (Fr → Heap → Prop) → Prop) (fun fr H K => K fr H)
    (fun i _ ih fr H K => match all[i]? with
      | none => False
      | some o => match o.guard with
        | some _ => False
        | none => match isDet o && convDet P o with
          | true => detK P S o fr H fun v => putK o.dst fr v fun fr' => ih fr' H K
          | false => False)
    (fun i _ ih fr H K => stepZ P S Z H0 all i fr H fun fr' H' => ih fr' H' K)
    (fun i _ j _ ih ih' fr H K => (stepZ P S Z H0 all i fr H fun fr' H' => ih fr' H' K) ∧ stepZ P S Z H0 all j fr H fun fr' H' => ih' fr' H' K) s
theorem heldZ_q (P : Program) (S : Nat → Prop) (Z : List Nat) (H0 : Heap) (all : List Oper) (i : Nat) (s : Sch) (fr : Fr) (H : Heap) (K : Fr → Heap → Prop) : heldZ P S Z H0 all (.q i s) fr H K =
    (match all[i]? with
      | none => False
      | some o => match o.guard with
        | some _ => False
        | none => match isDet o && convDet P o with
          | true => detK P S o fr H fun v => putK o.dst fr v fun fr' => heldZ P S Z H0 all s fr' H K
          | false => False) := rfl
/-- Z comes behind all quiet ones; behind an operation of Z there is none. -/
def hasQ : Sch → Bool
  | .e => false
  | .q _ _ => true
  | .f _ s => hasQ s
  | .b _ s _ s' => hasQ s || hasQ s'
def zAll (Z : List Nat) : Sch → Bool
  | .e => true
  | .q _ _ => false
  | .f i s => Z.contains i && zAll Z s
  | .b i s j s' => Z.contains i && Z.contains j && zAll Z s && zAll Z s'
def heldBZ (ops : Array Oper) (Z : List Nat) : Sch → Array Bool → Bool
  | .e, listed => (Region.ready .any ops listed).isEmpty
  | .q i s, listed => (Region.ready .any ops listed).contains i && Region.free .any ops listed i && !(Z.contains i) && (Z.all fun z => needsB ops ops.size z i) && heldBZ ops Z s (listed.setIfInBounds i true)
  | .f i s, listed => Region.ready .any ops listed == [i] && (!(Z.contains i) || zAll Z s) && heldBZ ops Z s (listed.setIfInBounds i true)
  | .b i s j s', listed => Region.ready .any ops listed == [i, j] && ((!(Z.contains i) && !(Z.contains j)) || (zAll Z s && zAll Z s')) && heldBZ ops Z s (listed.setIfInBounds i true) && heldBZ ops Z s' (listed.setIfInBounds j true)
theorem stepZ_sound {P : Program} {S : Nat → Prop} {Z : List Nat} {w0 : World} {all : List Oper} {Q : Exit → Act → World → Prop} {i : Nat} {fr : Fr} {a : Act} {w : World} {next : Fr → Heap → Prop} {N : Act → World → Prop}
    (hat : At fr a) (hc : Env w0 w) (h : stepZ P S Z w0.heap all i fr w.heap next)
    (hn : ∀ fr' a' w', At fr' a' → Env w0 w' → (Z.contains i = false → Cls w0 S w') → next fr' w'.heap → N a' w') : wpOp P all.toArray Q i N a w := by
  unfold stepZ at h
  split at h
  · exact h.elim
  · rename_i o ho
    have ho' : all.toArray[i]? = some o := by simpa using ho
    split at h
    · exact h.elim
    · rename_i hg
      have hwant : Region.wanted o (yielded all.toArray a.tmps) = true := by simp [Region.wanted, hg]
      unfold wpOp
      rw [ho']
      dsimp only
      rw [if_pos hwant]
      split at h
      · rename_i hz
        refine .inl (Oper.wp_mono ?_ (opK_sound hat h _))
        rintro a' w' ⟨v, rfl, henv, hk⟩
        rw [putK_eq] at hk
        exact hn _ _ _ (hat.put o.dst v) (hc.trans henv) (fun hne => by rw [hz] at hne; cases hne) hk
      · refine .inl (Oper.wp_mono ?_ (opK_sound hat h _))
        rintro a' w' ⟨v, rfl, henv, hagr, hk⟩
        rw [putK_eq] at hk
        exact hn _ _ _ (hat.put o.dst v) (hc.trans henv) (fun _ => ⟨hc.trans henv, hagr⟩) hk
theorem heldZ_sound {P : Program} {S : Nat → Prop} {Z : List Nat} {w0 : World} {all : List Oper} {Q : Exit → Act → World → Prop} (hs : Region.noSelect all.toArray = true)
    (hp : ∀ c a w, ¬ Q (.panic c) a w) : ∀ (l : Sch) (listed : Array Bool) (fr : Fr) (a : Act) (w : World) (K : Fr → Heap → Prop), At fr a → Env w0 w → (zAll Z l = false → Cls w0 S w) → Shut all.toArray listed →
    (∀ fr' a' w', At fr' a' → Env w0 w' → K fr' w'.heap → Q .normal a' w') → heldBZ all.toArray Z l listed = true → l.even = true →
    heldZ P S Z w0.heap all l fr w.heap K → wpAnyZ P all.toArray Q (Cls w0 S) Z l.len listed a w
  | .e, listed, fr, a, w, K, hat, he, _, _, hq, hB, _, h => ⟨by simpa [heldBZ] using hB, hq fr a w hat he h⟩
  | .q i s, listed, fr, a, w, K, hat, he, hc, hsh, hq, hB, hev, h => by
    have hc := hc rfl
    simp only [heldBZ, Bool.and_eq_true, Bool.not_eq_true', List.all_eq_true] at hB
    obtain ⟨⟨⟨⟨b1, b2⟩, b3⟩, b4⟩, hB2⟩ := hB
    rw [heldZ_q] at h
    split at h
    · exact h.elim
    · rename_i o ho
      have ho' : all.toArray[i]? = some o := by simpa using ho
      have hri : i ∈ Region.ready .any all.toArray listed := by simpa using b1
      split at h
      · exact h.elim
      · rename_i hg
        have hwant : Region.wanted o (yielded all.toArray a.tmps) = true := by simp [Region.wanted, hg]
        split at h
        · obtain ⟨v, hv, hk⟩ := detK_sound h
          rw [putK_eq] at hk
          refine wpAnyZ_first (v := v) (f := all.toArray.size) ho' (Region.noSelect_spec hs) (fun c a' w' hh => (hp _ _ _ hh).elim) b3 (fun j hj => b4 j (by simpa using hj)) s.len listed a w hsh (Region.free_spec ho' b2) hri
            (.inl ⟨hwant, fun w' hw' => ?_⟩) hc ?_
          · rw [hat.evalF]
            exact hv w' fun k hk => (hw'.2 k hk).trans (hc.2 k hk).symm
          · exact heldZ_sound hs hp s _ _ _ w K (hat.put o.dst v) he (fun _ => hc) (hsh.put hri) hq hB2 hev hk
        · exact h.elim
  | .f i s, listed, fr, a, w, K, hat, he, hc, hsh, hq, hB, hev, h => by
    simp only [heldBZ, Bool.and_eq_true, Bool.or_eq_true, Bool.not_eq_true', beq_iff_eq] at hB
    obtain ⟨⟨b1, b2⟩, hB2⟩ := hB
    refine ⟨(fun h0 => by rw [b1] at h0; cases h0), fun j hj => ?_⟩
    have hj0 := hj
    rw [b1] at hj
    obtain rfl : j = i := by simpa using hj
    refine stepZ_sound hat he h fun fr' a' w' h1 h2 h3 h4 => ⟨h3, heldZ_sound hs hp s _ _ _ w' K h1 h2 (fun hz => ?_) (hsh.put hj0) hq hB2 hev h4⟩
    rcases b2 with b2 | b2
    · exact h3 b2
    · rw [b2] at hz; cases hz
  | .b i s j s', listed, fr, a, w, K, hat, he, hc, hsh, hq, hB, hev, h => by
    simp only [heldBZ, Bool.and_eq_true, Bool.or_eq_true, Bool.not_eq_true', beq_iff_eq] at hB
    obtain ⟨⟨⟨b1, b2⟩, hB2⟩, hB3⟩ := hB
    simp only [Sch.even, Bool.and_eq_true, beq_iff_eq] at hev
    obtain ⟨⟨e1, e2⟩, e3⟩ := hev
    refine ⟨(fun h0 => by rw [b1] at h0; cases h0), fun k hk => ?_⟩
    have hk0 := hk
    rw [b1] at hk
    rcases List.mem_cons.1 hk with rfl | hk
    · refine stepZ_sound hat he h.1 fun fr' a' w' h1 h2 h3 h4 => ⟨h3, heldZ_sound hs hp s _ _ _ w' K h1 h2 (fun hz => ?_) (hsh.put hk0) hq hB2 e1 h4⟩
      rcases b2 with b2 | b2
      · exact h3 b2.1
      · rw [b2.1] at hz; cases hz
    · obtain rfl : k = j := by simpa using hk
      rw [e3]
      refine stepZ_sound hat he h.2 fun fr' a' w' h1 h2 h3 h4 => ⟨h3, heldZ_sound hs hp s' _ _ _ w' K h1 h2 (fun hz => ?_) (hsh.put hk0) hq hB3 e2 h4⟩
      rcases b2 with b2 | b2
      · exact h3 b2.2
      · rw [b2.2] at hz; cases hz
theorem VDraw.heldZ {P : Program} {l : List Oper} {fr : Fr} {H : Heap} {K : Fr → Heap → Prop} (S : Nat → Prop) (Z : List Nat) (sched : Sch) (hm : P.follows .mixedOrders = true)
    (hB : (Region.noSelect l.toArray && (sched.len == l.length) && sched.even && heldBZ l.toArray Z sched (Array.replicate l.length false)) = true)
    (h : VC.heldZ P S Z H l sched fr H K) : VDraw P l fr H K := by
  refine ⟨?_⟩
  intro id Q a w hat hw hp hq
  subst hw
  simp only [Bool.and_eq_true, beq_iff_eq] at hB
  refine wp_region_any hm (wpAny_of_Z (S := Cls w S) (Z := Z) _ _ _ _ ?_)
  have hsh : Shut l.toArray (Array.replicate l.length false) := fun j o _ hj => by
    rw [Array.getD_eq_getD_getElem?, Array.getElem?_replicate] at hj
    split at hj <;> simp at hj
  have := heldZ_sound (P := P) (S := S) (Z := Z) (w0 := w) (Q := Q) hB.1.1.1 hp sched (Array.replicate l.length false) fr a { w with drawn := w.drawn + 1 } K hat ⟨rfl, rfl, rfl⟩ (fun _ => ⟨⟨rfl, rfl, rfl⟩, Agr.refl _ _⟩) hsh hq hB.2 hB.1.2 h
  rw [hB.1.1.2] at this
  simpa using this
end Go.VC

/- Tables of slices: rows laid fresh, elements written. -/
set_option linter.unusedVariables false
set_option linter.unusedSimpArgs false
namespace Go.VC
section
variable {α : Type} {T : Ty α} {B : Nat → Prop} {H0 H H1 : Heap} {ps : List Pc} {e te : TypeId} {nb : Nat} {vs : List Value} {xs : List (List α)}
/-- A fresh row, to be stored. -/
theorem Mid.fresh {i t : Nat} {v' : Value} {x' : List α} (st : StB B H0 H ps) (hp : ps[i]? = some (pT T e te nb vs xs)) (ht : t < xs.length) (h : Agr (Old H) H H1) (hown : SlO T none_ H1 H.size e v' x') : Mid T B H0 H H1 ps i e te nb vs xs t v' x' := by
  have tab := st.tab i hp
  obtain ⟨v, hv⟩ : ∃ v, vs[t]? = some v := ⟨vs[t]'(by rw [tab.len]; exact ht), List.getElem?_eq_getElem _⟩
  exact ⟨st, hp, hown.lower tab.blk.lt, ⟨v, hv, h.mono fun k hk => hk.1, fun k hk => .inr (hown.lt hk).1⟩, old_size h⟩
/-- The address of a row that isn't empty. -/
theorem StB.rowA (st : StB B H0 H ps) (i : Nat) (hp : ps[i]? = some (pT T e te nb vs xs)) {t : Nat} {x : List α} (hx : xs[t]? = some x) (hn : 0 < x.length) : ∃ b cap, vs[t]? = some (.slice (some ⟨b, 0, none⟩) x.length cap) := by
  have tab := st.tab i hp
  have ht := (List.getElem?_eq_some_iff.1 hx).1
  obtain ⟨v, x', hv, hx', hown⟩ := tab.get ht
  rw [hx] at hx'; cases hx'
  obtain ⟨cs, ⟨h0, h1⟩, h2⟩ := hown
  rcases h1 with ⟨rfl, h1⟩ | ⟨b, cap, l, rfl, r⟩
  · omega
  · exact ⟨b, cap, hv⟩
/-- A value of one cell is written into row t at place j. -/
theorem stE {P : Program} {t b o j n cap : Nat} {v : Value} {x : List α} {y : α} {K : Heap → Prop} (st : StB B H0 H ps) (i : Nat) (ht : CellT P e) (hp : ps[i]? = some (pT T e te nb vs xs)) (hv : vs[t]? = some (.slice (some ⟨b, 0, none⟩) n cap)) (hx : xs[t]? = some x)
    (hsz : T.size = 1) (ho : o = j) (hj : j < x.length) (hone : v.oneCell' = true) (hr : ∀ H', T.rep none_ H' [v] y) (k : ∀ H', StB B H0 H' (ps.set i (pT T e te nb vs (xs.set t (x.set j y)))) → K H') : VEffU P (Instr.storeAt e (.pointer (some ⟨b, o, none⟩)) v) H K := by
  subst ho
  have tab := st.tab i hp
  have hown := tab.own t _ x hv hx
  obtain ⟨-, -, hlo, l, hblk, hlen, -, hput⟩ := hown.placeS hj
  rw [hsz, Nat.mul_one] at hlen hput
  refine VC.st1 ht hblk (by omega) hone ?_
  intro H' hb' ha' hs'
  have hown' := hput H' [v] y (by rw [splice_one (by omega)]; exact hb') (fun j hj => hj.elim) (hr H')
  have htl := (List.getElem?_eq_some_iff.1 hx).1
  have slb : ∀ c, slB (.slice (some ⟨b, 0, none⟩) n cap) c ↔ c = b := fun c => ⟨fun h => by obtain ⟨_, _, _, e⟩ := h; cases e; rfl, fun h => by subst h; exact ⟨0, n, cap, rfl⟩⟩
  have htab : Tab T none_ H' (nb + 1) e nb te vs (xs.set t (x.set o y)) := by
    refine ⟨by rw [List.length_set]; exact tab.len, tab.blk.agr ha' (by omega), tab.nlo, fun q w z hw hz => ?_, tab.apart⟩
    by_cases hq : t = q
    · subst hq
      rw [hv] at hw; cases hw
      rw [List.getElem?_set_self htl] at hz
      cases hz
      exact hown'
    · rw [List.getElem?_set_ne hq] at hz
      exact (tab.own q w z hw hz).agr ha' (fun c hc hcb => tab.apart t q _ w c hq hv hw ((slb c).2 hcb) hc) (fun _ f => f.elim)
  refine k H' (st.upd i hp (ha'.mono fun c hc hcb => hc.2 (.inr ⟨t, _, hv, (slb c).2 hcb⟩)) _ htab (fun c hc => .inl hc) (fun c hc => by rw [hs']; exact (st.in_ i hp hc).2) (by omega))
end
end Go.VC
/- Maps of the call's own whose keys are arrays or structs; going through a map. -/
set_option linter.unusedVariables false
set_option linter.unusedSimpArgs false
namespace Go.VC
structure MapTW (P : Program) (t kt et : TypeId) (z : Value) : Prop where
  under : P.underlying t = some (.map kt et)
  zero : (P.info? et).bind (·.zero) = some z
/-- What the model asks of keys, of all that are Ok. -/
structure KeyW (P : Program) (kt : TypeId) {α : Type} (Ok : α → Prop) (enc : α → Value) : Prop where
  inj : ∀ a b, enc a = enc b → a = b
  check : ∀ (w : World) (em : Bool) (a : α), Ok a → (Instr.checkKey em 10000 kt (enc a)).run P w = .ok () w
  find : ∀ (w : World) (a : α), Ok a → ∀ es : List MapEntry, (∀ e ∈ es, ∃ b, Ok b ∧ e.key = enc b) →
    ((Instr.findKey kt (enc a) es).run P w = .ok none w ∧ ∀ e ∈ es, e.key ≠ enc a) ∨ ∃ j e, (Instr.findKey kt (enc a) es).run P w = .ok (some (j, e.val)) w ∧ es[j]? = some e ∧ e.key = enc a
  stays : ∀ (w : World) (a : α), Ok a → (Instr.keyThatStays (enc a) (enc a)).run P w = .ok (enc a) w
theorem KeyW.ofLaw {P : Program} {kt : TypeId} {α : Type} {Ok : α → Prop} {enc : α → Value} (h : WideMaps.KeyLaw P kt) (hi : ∀ a b, enc a = enc b → a = b) (hk : ∀ a, Ok a → ∃ l, keyOf P kt (enc a) = some l) : KeyW P kt Ok enc :=
  ⟨hi, fun w em a ha => let ⟨_, e⟩ := hk a ha; h.check w em e, fun w a ha es hes => let ⟨_, e⟩ := hk a ha; h.find w e es fun x hx => by
      obtain ⟨b, hb, e⟩ := hes x hx
      rw [e]; exact hk b hb,
    fun w a ha => let ⟨_, e⟩ := hk a ha; h.stays w e⟩
/-- The map in block b holds m, all of whose keys are Ok. -/
def MapW {α : Type} (Ok : α → Prop) (enc : α → Value) (H : Heap) (b : Nat) (m : α → Option Value) : Prop := MapF enc H b m ∧ ∀ a v, m a = some v → Ok a
def TurnW {α : Type} (Ok : α → Prop) (enc : α → Value) (H : Heap) (K : Heap → Prop) (b : Nat) (m : α → Option Value) : Prop :=
  ∀ H', MapW Ok enc H' b m → Agr (fun k => k ≠ b) H H' → H'.size = H.size → K H'
section
variable {α : Type} {Ok : α → Prop} {enc : α → Value} {P : Program} {t kt et : TypeId} {z : Value} {S : Nat → Prop} {H : Heap} {b : Nat} {m : α → Option Value} {a : α}
theorem MapW.agr {H' : Heap} (h : MapW Ok enc H b m) (k : Agr S H H') (hb : S b) : MapW Ok enc H' b m := ⟨h.1.agr k hb, h.2⟩
theorem put_ok (h : ∀ a v, m a = some v → Ok a) (ha : Ok a) (v : Value) : ∀ b u, put m a (some v) b = some u → Ok b := fun b u hb => by
  by_cases hba : b = a
  · rw [hba]; exact ha
  · rw [put_ne hba] at hb; exact h b u hb
theorem find_specW (hk : KeyW P kt Ok enc) (ha : Ok a) (hok : ∀ a v, m a = some v → Ok a) {es : Array MapEntry} (hes : ∀ (i : Nat) (x : MapEntry), es[i]? = some x → ∃ a, x.key = enc a ∧ m a = some x.val) (hm : ∀ a v, m a = some v → ∃ (i : Nat) (x : MapEntry), es[i]? = some x ∧ x.key = enc a ∧ x.val = v) (w : World) :
    ((Instr.findKey kt (enc a) es.toList).run P w = .ok none w ∧ m a = none ∧ ∀ x ∈ es.toList, x.key ≠ enc a) ∨ ∃ j e, (Instr.findKey kt (enc a) es.toList).run P w = .ok (some (j, e.val)) w ∧ es[j]? = some e ∧ e.key = enc a ∧ m a = some e.val := by
  have hall : ∀ x ∈ es.toList, ∃ b, Ok b ∧ x.key = enc b := fun x hx => by
    obtain ⟨i, hi⟩ := List.getElem?_of_mem hx
    obtain ⟨b, e1, e2⟩ := hes i x (by simpa using hi)
    exact ⟨b, hok b _ e2, e1⟩
  rcases hk.find w a ha es.toList hall with ⟨h1, h2⟩ | ⟨j, e, h1, h2, h3⟩
  · refine .inl ⟨h1, ?_, h2⟩
    cases hma : m a with
    | none => rfl
    | some v =>
      obtain ⟨i, x, hx, he, _⟩ := hm a v hma
      exact absurd he (h2 x (List.mem_of_getElem? (by simpa using hx)))
  · have hj : es[j]? = some e := by simpa using h2
    refine .inr ⟨j, e, h1, hj, h3, ?_⟩
    obtain ⟨a', e1, e2⟩ := hes j e hj
    rw [hk.inj a a' (h3.symm.trans e1)]; exact e2
theorem mlookW (ht : MapTW P t kt et z) (hk : KeyW P kt Ok enc) (ha : Ok a) (h : MapW Ok enc H b m) (hb : S b) {K : Value → Prop} (k : K ((m a).getD z)) : VDet P (Instr.lookup t (.map (some b)) (enc a) false) S H K := by
  obtain ⟨⟨es, clock, h1, h2, h3, h4⟩, hok⟩ := h
  refine VDet.mk _ (fun w hw => ?_) k
  have hb' := (hw b hb).trans h1
  rcases find_specW hk ha hok h3 h4 w with ⟨e1, e2, e3⟩ | ⟨j, e, e1, e2, e3, e4⟩
  · simp [Instr.lookup, run_underlying ht.under, Go.MapKept.run_getObj_map hb', hk.check w _ a ha, e1, zero_run ht.zero, e2]
  · simp [Instr.lookup, run_underlying ht.under, Go.MapKept.run_getObj_map hb', hk.check w _ a ha, e1, e4]
theorem mlookOkW (ht : MapTW P t kt et z) (hk : KeyW P kt Ok enc) (ha : Ok a) (h : MapW Ok enc H b m) (hb : S b) {K : Value → Prop} (k : K (.tuple #[(m a).getD z, .bool (m a).isSome])) : VDet P (Instr.lookup t (.map (some b)) (enc a) true) S H K := by
  obtain ⟨⟨es, clock, h1, h2, h3, h4⟩, hok⟩ := h
  refine VDet.mk _ (fun w hw => ?_) k
  have hb' := (hw b hb).trans h1
  rcases find_specW hk ha hok h3 h4 w with ⟨e1, e2, e3⟩ | ⟨j, e, e1, e2, e3, e4⟩
  · simp [Instr.lookup, run_underlying ht.under, Go.MapKept.run_getObj_map hb', hk.check w _ a ha, e1, zero_run ht.zero, e2]
  · simp [Instr.lookup, run_underlying ht.under, Go.MapKept.run_getObj_map hb', hk.check w _ a ha, e1, e4]
theorem modify_oldW (hinj : ∀ a b, enc a = enc b → a = b) {es : Array MapEntry} {clock : Nat} (hs : Go.MapKept.Stamped es clock) (h3 : ∀ (i : Nat) (x : MapEntry), es[i]? = some x → ∃ a, x.key = enc a ∧ m a = some x.val) (h4 : ∀ a v, m a = some v → ∃ (i : Nat) (x : MapEntry), es[i]? = some x ∧ x.key = enc a ∧ x.val = v) {j : Nat} {e : MapEntry} (hj : es[j]? = some e) (he : e.key = enc a) {f : MapEntry → MapEntry} {v : Value}
    (hf1 : (f e).key = enc a) (hf2 : (f e).val = v) (hf3 : ∀ x, (f x).born = x.born) {H' : Heap}
    (hb : H'[b]? = some (.map (es.modify j f) clock)) : MapF enc H' b (put m a (some v)) ∧ StampF enc H' b a e.born := by
  have hgt : ∀ i x, (es.modify j f)[i]? = some x → (i ≠ j ∧ es[i]? = some x) ∨ (i = j ∧ x = f e) := by
    intro i x hx
    rw [Array.getElem?_modify] at hx
    by_cases hi : j = i
    · subst hi; rw [if_pos rfl, hj] at hx; exact .inr ⟨rfl, by cases hx; rfl⟩
    · rw [if_neg hi] at hx; exact .inl ⟨Ne.symm hi, hx⟩
  refine ⟨⟨_, _, hb, Go.MapKept.stamped_modify hs _ _ (fun x _ => hf3 x) (fun x _ hx => ?_), fun i x hx => ?_, fun a' v' hv => ?_⟩, _, _, hb, fun i x hx => ?_⟩
  · rw [hj] at hx; cases hx; rw [hf1, he]
  · rcases hgt i x hx with ⟨hne, hx⟩ | ⟨_, rfl⟩
    · obtain ⟨a', e1, e2⟩ := h3 i x hx
      have : a' ≠ a := fun h => hne (stamped_key hs hx hj (by rw [e1, h, he]))
      exact ⟨a', e1, by rw [put_ne this]; exact e2⟩
    · exact ⟨a, hf1, by rw [put_self, hf2]⟩
  · by_cases ha : a' = a
    · subst ha
      rw [put_self] at hv
      cases hv
      exact ⟨j, f e, by rw [Array.getElem?_modify, if_pos rfl, hj]; rfl, hf1, hf2⟩
    · rw [put_ne ha] at hv
      obtain ⟨i, x, hx, e1, e2⟩ := h4 a' v' hv
      refine ⟨i, x, ?_, e1, e2⟩
      rw [Array.getElem?_modify, if_neg ?_]
      · exact hx
      · rintro rfl
        rw [hj] at hx; cases hx
        exact ha (hinj _ _ (e1.symm.trans he))
  · rcases hgt i x hx with ⟨hne, hx⟩ | ⟨_, rfl⟩
    · exact ⟨fun h => absurd (stamped_born hs hx hj h) hne, fun h => absurd (stamped_key hs hx hj (h.trans he.symm)) hne⟩
    · exact ⟨fun _ => hf1, fun _ => hf3 e⟩
theorem mputW (ht : MapTW P t kt et z) (hk : KeyW P kt Ok enc) (ha : Ok a) (h : MapW Ok enc H b m) {v : Value} {K : Heap → Prop} (k : TurnW Ok enc H K b (put m a (some v))) : VEffU P (Instr.mapUpdate t (.map (some b)) (enc a) v) H K := by
  obtain ⟨⟨es, clock, h1, h2, h3, h4⟩, hok⟩ := h
  refine VEffU.mk fun w hw => ?_
  subst hw
  rcases find_specW hk ha hok h3 h4 w with ⟨e1, e2, e3⟩ | ⟨j, e, e1, e2, e3, e4⟩
  · obtain ⟨t1, t2, t3⟩ := set_turn (o' := .map (es.push ⟨enc a, v, clock⟩) (clock + 1)) h1
    exact ⟨setW w b (.map (es.push ⟨enc a, v, clock⟩) (clock + 1)), by simp [Instr.mapUpdate, run_underlying ht.under, Go.MapKept.run_getObj_map h1, hk.check w _ a ha, e1, Go.MapKept.run_setObj_map _ h1], ⟨rfl, rfl, rfl⟩, k _ ⟨(push_new h2 h3 h4 e3 t1).1, put_ok hok ha v⟩ t2 t3⟩
  · obtain ⟨t1, t2, t3⟩ := set_turn (o' := .map (es.modify j fun e => { e with key := enc a, val := v }) clock) h1
    exact ⟨setW w b (.map (es.modify j fun e => { e with key := enc a, val := v }) clock), by simp [Instr.mapUpdate, run_underlying ht.under, Go.MapKept.run_getObj_map h1, hk.check w _ a ha, e1, Go.MapKept.run_setObj_map _ h1, e2, e3, hk.stays w a ha], ⟨rfl, rfl, rfl⟩, k _ ⟨(modify_oldW hk.inj h2 h3 h4 e2 e3 (f := fun e => { e with key := enc a, val := v }) rfl rfl (fun _ => rfl) t1).1, put_ok hok ha v⟩ t2 t3⟩
theorem mentryW (ht : MapTW P t kt et z) (hk : KeyW P kt Ok enc) (ha : Ok a) (h : MapW Ok enc H b m) {K : Value → Heap → Prop}
    (k : ∀ H' s, MapW Ok enc H' b (put m a (some ((m a).getD z))) → StampF enc H' b a s → Agr (fun k => k ≠ b) H H' → H'.size = H.size → K (.tuple #[(m a).getD z, .int .i64 (s : Int)]) H') : VEff P (Instr.mapEntry t (.map (some b)) (enc a)) H K := by
  obtain ⟨⟨es, clock, h1, h2, h3, h4⟩, hok⟩ := h
  refine VEff.mk fun w hw => ?_
  subst hw
  rcases find_specW hk ha hok h3 h4 w with ⟨e1, e2, e3⟩ | ⟨j, e, e1, e2, e3, e4⟩
  · obtain ⟨t1, t2, t3⟩ := set_turn (o' := .map (es.push ⟨enc a, z, clock⟩) (clock + 1)) h1
    have hp := push_new h2 h3 h4 e3 t1
    refine ⟨.tuple #[z, .int .i64 (clock : Int)], setW w b (.map (es.push ⟨enc a, z, clock⟩) (clock + 1)), by simp [Instr.mapEntry, run_underlying ht.under, Go.MapKept.run_getObj_map h1, hk.check w _ a ha, e1, Go.MapKept.run_setObj_map _ h1, zero_run ht.zero, goInt], ⟨rfl, rfl, rfl⟩, ?_⟩
    have := k _ clock (by rw [e2]; exact ⟨hp.1, put_ok hok ha z⟩) hp.2 t2 t3
    rw [e2] at this
    exact this
  · obtain ⟨t1, t2, t3⟩ := set_turn (o' := .map (es.modify j fun e => { e with key := enc a }) clock) h1
    have hp := modify_oldW hk.inj h2 h3 h4 e2 e3 (f := fun e => { e with key := enc a }) (v := e.val) rfl rfl (fun _ => rfl) t1
    refine ⟨.tuple #[e.val, .int .i64 (e.born : Int)], setW w b (.map (es.modify j fun e => { e with key := enc a }) clock), by simp [Instr.mapEntry, run_underlying ht.under, Go.MapKept.run_getObj_map h1, hk.check w _ a ha, e1, Go.MapKept.run_setObj_map _ h1, e2, e3, hk.stays w a ha, goInt], ⟨rfl, rfl, rfl⟩, ?_⟩
    have := k _ e.born (by rw [e4]; exact ⟨hp.1, put_ok hok ha e.val⟩) hp.2 t2 t3
    rw [e4] at this
    exact this
theorem mstoreW {u : TypeId} (hk : KeyW P kt Ok enc) (ha : Ok a) (h : MapW Ok enc H b m) {s : Nat} (hs : StampF enc H b a s) (hin : (m a).isSome = true) {v : Value} {K : Heap → Prop} (k : TurnW Ok enc H K b (put m a (some v))) : VEffU P (Instr.entryStore u (.map (some b)) (.int .i64 (s : Int)) v) H K := by
  obtain ⟨⟨es, clock, h1, h2, h3, h4⟩, hok⟩ := h
  obtain ⟨es', clock', h1', h5⟩ := hs
  rw [h1] at h1'; cases h1'
  refine VEffU.mk fun w hw => ?_
  subst hw
  obtain ⟨v0, hv0⟩ := Option.isSome_iff_exists.1 hin
  obtain ⟨i, x, hx, q1, q2⟩ := h4 a v0 hv0
  have hb := (h5 i x hx).2 q1
  have hfi : es.findIdx? (fun e => (e.born : Int) == (s : Int)) = some i := by
    rw [Array.findIdx?_eq_some_iff_getElem]
    have hil := (Array.getElem?_eq_some_iff.1 hx).1
    have hxi : es[i] = x := (Array.getElem?_eq_some_iff.1 hx).2
    refine ⟨hil, by simp [hxi, hb], fun j hji => ?_⟩
    have hjx : es[j]? = some es[j] := Array.getElem?_eq_getElem (by omega)
    intro hbj
    have hbj' : es[j].born = s := by
      have : (es[j].born : Int) = (s : Int) := by simpa using hbj
      omega
    have := stamped_born h2 hjx hx (hbj'.trans hb.symm)
    omega
  obtain ⟨t1, t2, t3⟩ := set_turn (o' := .map (es.modify i fun e => { e with val := v }) clock) h1
  exact ⟨setW w b (.map (es.modify i fun e => { e with val := v }) clock), by simp [Instr.entryStore, Go.MapKept.run_getObj_map h1, asInt, asIntOf, hfi, Go.MapKept.run_setObj_map _ h1], ⟨rfl, rfl, rfl⟩, k _ ⟨(modify_oldW hk.inj h2 h3 h4 hx q1 (f := fun e => { e with val := v }) q1 rfl (fun _ => rfl) t1).1, put_ok hok ha v⟩ t2 t3⟩
theorem mmakeW {K : Value → Heap → Prop} (k : ∀ b H', b = H.size → H'.size = b + 1 → MapW Ok enc H' b (fun _ => none) → Agr (fun k => k < b) H H' → K (.map (some b)) H') : VEff P (Instr.makeMap t none) H K :=
  mmake fun b H' h1 h2 h3 h4 => k b H' h1 h2 ⟨h3, fun a v h => by cases h⟩ h4
end
end Go.VC

/- Going through a map of the call's own; wide-keyed maps and loops over them as pieces. -/
set_option linter.unusedVariables false
set_option linter.unusedSimpArgs false
namespace Go.VC
/-- The map in block b holds m, and is gone through by the iterator in block r: D have come, `last` the last of them; n are still to come. -/
def IterW {α : Type} (Ok : α → Prop) (enc : α → Value) (H : Heap) (b r : Nat) (m : α → Option Value) (D : α → Prop) (last : Option α) (n : Nat) : Prop :=
  (∃ es clock seen, H[b]? = some (.map es clock) ∧ Go.MapKept.Stamped es clock ∧ (∀ (i : Nat) (x : MapEntry), es[i]? = some x → ∃ a, x.key = enc a ∧ m a = some x.val) ∧
    (∀ a v, m a = some v → ∃ (i : Nat) (x : MapEntry), es[i]? = some x ∧ x.key = enc a ∧ x.val = v) ∧ H[r]? = some (.mapIter (some b) clock seen clock) ∧
    (∀ (i : Nat) (x : MapEntry) (a : α), es[i]? = some x → x.key = enc a → (seen.contains x.born = true ↔ D a)) ∧ n = (leftOf es seen).size ∧
    ∀ a, last = some a → ∃ (e : MapEntry) (s0 : Array Nat), e ∈ es.toList ∧ e.key = enc a ∧ seen = s0.push e.born) ∧ (∀ a v, m a = some v → Ok a)
section
variable {α : Type} {Ok : α → Prop} {enc : α → Value} {P : Program} {t kt et : TypeId} {z : Value} {S : Nat → Prop} {H : Heap} {b r n : Nat} {m : α → Option Value} {D : α → Prop} {last : Option α}
theorem IterW.agr {H' : Heap} (h : IterW Ok enc H b r m D last n) (k : Agr S H H') (hb : S b) (hr : S r) : IterW Ok enc H' b r m D last n := by
  obtain ⟨⟨es, clock, seen, h1, h2, h3, h4, h5, h6⟩, h7⟩ := h
  exact ⟨⟨es, clock, seen, (k b hb).trans h1, h2, h3, h4, (k r hr).trans h5, h6⟩, h7⟩
theorem IterW.map (h : IterW Ok enc H b r m D last n) : MapW Ok enc H b m := by
  obtain ⟨⟨es, clock, seen, h1, h2, h3, h4, h5, h6⟩, h7⟩ := h
  exact ⟨⟨es, clock, h1, h2, h3, h4⟩, h7⟩
theorem IterW.ext {D' : α → Prop} (hi : ∀ a b, enc a = enc b → a = b) (h : IterW Ok enc H b r m D last n) (k : ∀ a, (m a).isSome = true → (D a ↔ D' a)) : IterW Ok enc H b r m D' last n := by
  obtain ⟨⟨es, clock, seen, h1, h2, h3, h4, h5, h6, h8⟩, h7⟩ := h
  refine ⟨⟨es, clock, seen, h1, h2, h3, h4, h5, fun i x a hx hk => ?_, h8⟩, h7⟩
  rw [h6 i x a hx hk]
  obtain ⟨a', e1, e2⟩ := h3 i x hx
  obtain rfl := hi _ _ (hk.symm.trans e1)
  exact k a (by rw [e2]; rfl)
theorem left_push (es : Array MapEntry) (seen : Array Nat) {e : MapEntry} (he : e ∈ (leftOf es seen).toList) : (leftOf es (seen.push e.born)).size < (leftOf es seen).size := by
  have h1 : leftOf es (seen.push e.born) = (leftOf es seen).filter fun x => !(x.born == e.born) := by
    unfold leftOf
    rw [Array.filter_filter]
    congr 1
    funext x
    rw [Array.contains_push]
    cases h1 : seen.contains x.born <;> cases h2 : x.born == e.born <;> simp_all
  have h2 : ((leftOf es seen).filter fun x => !(x.born == e.born)).size = ((leftOf es seen).toList.filter fun x => !(x.born == e.born)).length := by rw [← Array.toList_filter, Array.length_toList]
  rw [h1, h2, ← Array.length_toList]
  exact List.length_filter_lt_length_iff_exists.2 ⟨e, he, by simp⟩
theorem mrange (ht : MapTW P t kt et z) (h : MapW Ok enc H b m) {K : Value → Heap → Prop}
    (k : ∀ r n H', r = H.size → H'.size = r + 1 → IterW Ok enc H' b r m (fun _ => False) none n → Agr (fun k => k < H.size) H H' → K (.pointer (some ⟨r, 0, none⟩)) H') : VEff P (Instr.range t (.map (some b))) H K := by
  obtain ⟨⟨es, clock, h1, h2, h3, h4⟩, hok⟩ := h
  refine VEff.mk fun w hw => ?_
  subst hw
  have hbl : b < w.heap.size := (Array.getElem?_eq_some_iff.1 h1).1
  refine ⟨_, w.alloc (.mapIter (some b) clock #[] clock), by simp [Instr.range, run_underlying ht.under, Go.MapKept.run_getObj_map h1], ⟨rfl, rfl, rfl⟩, k w.heap.size (leftOf es #[]).size _ rfl (by rw [alloc_heap]; simp) ⟨⟨es, clock, #[], ?_, h2, h3, h4, by rw [alloc_heap]; simp, fun i x a hx hk => by simp, rfl, fun a h => by cases h⟩, hok⟩ (heap_push_old _ _)⟩
  rw [alloc_heap, Array.getElem?_push, if_neg (by omega)]; exact h1
theorem mnext {ty : TypeId} (hi : ∀ a b, enc a = enc b → a = b) (h : IterW Ok enc H b r m D last n) {K : Value → Heap → Prop} (k0 : (∀ a, (m a).isSome = true → D a) → K (.tuple #[.bool false]) H)
    (k1 : ∀ a v H' n', m a = some v → ¬ D a → n' < n → IterW Ok enc H' b r m (fun x => D x ∨ x = a) (some a) n' → Agr (fun k => k ≠ r) H H' → H'.size = H.size → K (.tuple #[.bool true, enc a, v]) H') : VEff P (Instr.next (.pointer (some ⟨r, 0, none⟩)) false ty) H K := by
  obtain ⟨⟨es, clock, seen, h1, h2, h3, h4, h5, h6, h7, h8⟩, hok⟩ := h
  refine VEff.mk fun w hw => ?_
  subst hw
  have hbr : b ≠ r := by
    rintro rfl
    rw [h1] at h5; cases h5
  have hml : ∀ x, x ∈ (leftOf es seen).toList ↔ x ∈ es.toList ∧ seen.contains x.born = false := fun x => by
    unfold leftOf
    rw [Array.toList_filter, List.mem_filter, Bool.not_eq_true']
  rcases run_next_at (P := P) w ty r b clock clock seen es clock h5 h1 h2.1 (Nat.le_refl _) with ⟨e1, e2⟩ | ⟨e, he, w1, hw1, e2⟩
  · refine ⟨_, w, e2, Env.refl w, k0 fun a ha => ?_⟩
    obtain ⟨v, hv⟩ := Option.isSome_iff_exists.1 ha
    obtain ⟨i, x, hx, hk, -⟩ := h4 a v hv
    refine (h6 i x a hx hk).1 ?_
    cases hs : seen.contains x.born with
    | true => rfl
    | false =>
      have := (hml x).2 ⟨List.mem_of_getElem? (i := i) (by simpa using hx), hs⟩
      have h0 : (leftOf es seen).toList = [] := List.eq_nil_of_length_eq_zero (by rw [Array.length_toList]; exact e1)
      rw [h0] at this; cases this
  · obtain ⟨he1, he2⟩ := (hml e).1 he
    obtain ⟨j, hj⟩ := List.getElem?_of_mem he1
    have hj' : es[j]? = some e := by simpa using hj
    obtain ⟨a, hka, hma⟩ := h3 j e hj'
    have hnD : ¬ D a := fun hd => by
      rw [(h6 j e a hj' hka).2 hd] at he2; cases he2
    have hw1h : w1.heap = w.heap := by rcases hw1 with rfl | rfl <;> rfl
    have hw1e : Env w w1 := by rcases hw1 with rfl | rfl <;> exact ⟨rfl, rfl, rfl⟩
    have hrl : r < w.heap.size := (Array.getElem?_eq_some_iff.1 h5).1
    have hset : (Go.ChangeMaps.setBlock w1 r (.mapIter (some b) clock (seen.push e.born) clock)).heap = w.heap.setIfInBounds r (.mapIter (some b) clock (seen.push e.born) clock) := by
      show w1.heap.setIfInBounds r _ = _
      rw [hw1h]
    refine ⟨_, _, e2, ⟨hw1e.os, hw1e.tape, hw1e.output⟩, ?_⟩
    rw [hka]
    refine k1 a e.val _ _ hma hnD (h7 ▸ left_push es seen he) ⟨⟨es, clock, seen.push e.born, ?_, h2, h3, h4, ?_, fun i x a' hx hk => ?_, rfl, fun a' ha' => ?_⟩, hok⟩ ?_ ?_
    · rw [hset, Array.getElem?_setIfInBounds_ne (Ne.symm hbr)]; exact h1
    · rw [hset, Array.getElem?_setIfInBounds_self_of_lt hrl]
    · rw [Array.contains_push, Bool.or_eq_true, h6 i x a' hx hk, beq_iff_eq]
      refine or_congr Iff.rfl ⟨fun hb => ?_, fun ha' => ?_⟩
      · obtain rfl := stamped_born h2 hx hj' hb
        rw [hj'] at hx; cases hx
        exact hi _ _ (hk.symm.trans hka)
      · subst ha'
        obtain rfl := stamped_key h2 hx hj' (hk.trans hka.symm)
        rw [hj'] at hx; cases hx; rfl
    · cases ha'
      exact ⟨e, seen, he1, hka, rfl⟩
    · rw [hset]
      exact fun k hk => Array.getElem?_setIfInBounds_ne (Ne.symm hk)
    · rw [hset]; simp
theorem mhere {a : α} {v : Value} (h : IterW Ok enc H b r m D (some a) n) (hi : ∀ a b, enc a = enc b → a = b) (hv : m a = some v) {K : Value → Heap → Prop} (k : K (.tuple #[enc a, v]) H) : VEff P (Instr.entry (.pointer (some ⟨r, 0, none⟩))) H K := by
  obtain ⟨⟨es, clock, seen, h1, h2, h3, h4, h5, h6, h7, h8⟩, hok⟩ := h
  obtain ⟨e, s0, he, hk, rfl⟩ := h8 a rfl
  refine VEff.mk fun w hw => ?_
  subst hw
  obtain ⟨i, x, hx, hkx, hvx⟩ := h4 a v hv
  obtain ⟨j, hj⟩ := List.getElem?_of_mem he
  have hj' : es[j]? = some e := by simpa using hj
  obtain rfl := stamped_key h2 hx hj' (hkx.trans hk.symm)
  rw [hj'] at hx; cases hx
  refine ⟨_, w, run_entry_at w r b clock s0 es clock e h5 h1 he h2.2.1, Env.refl w, ?_⟩
  rw [hk, hvx]; exact k
theorem mlen {vt : TypeId} (ht : MapTW P t kt et z) (h : MapW Ok enc H b m) (hb : S b) {K : Value → Prop} (k : ∀ c : Nat, (c = 0 ↔ ∀ a, m a = none) → K (.int .i64 (c : Int))) : VDet P (Builtin.len_ #[t] vt [.map (some b)].toArray) S H K := by
  obtain ⟨⟨es, clock, h1, h2, h3, h4⟩, hok⟩ := h
  refine VDet.mk _ (fun w hw => ?_) (k es.size ⟨fun h0 a => ?_, fun h0 => ?_⟩)
  · have hb' := (hw b hb).trans h1
    simp [Builtin.len_, run_underlying ht.under, Go.MapKept.run_getObj_map hb', goInt]
  · cases hma : m a with
    | none => rfl
    | some v =>
      obtain ⟨i, x, hx, -⟩ := h4 a v hma
      have := (Array.getElem?_eq_some_iff.1 hx).1
      omega
  · apply Classical.byContradiction
    intro hne
    obtain ⟨a, -, e⟩ := h3 0 es[0] (Array.getElem?_eq_getElem (by omega))
    rw [h0 a] at e; cases e
end

/-! ### as pieces -/
section
variable {α : Type} {Ok : α → Prop} {enc : α → Value} {b r n : Nat} {m m' : α → Option Value} {D : α → Prop} {last : Option α} {B : Nat → Prop} {H0 H H' : Heap} {ps : List Pc} {P : Program} {t kt et : TypeId} {z : Value}
def pMW (Ok : α → Prop) (enc : α → Value) (b : Nat) (m : α → Option Value) : Pc := ⟨fun k => k = b, fun H => MapW Ok enc H b m, fun h hp => hp.agr h rfl⟩
def pIW (Ok : α → Prop) (enc : α → Value) (b r : Nat) (m : α → Option Value) (D : α → Prop) (last : Option α) (n : Nat) : Pc := ⟨fun k => k = b ∨ k = r, fun H => IterW Ok enc H b r m D last n, fun h hp => hp.agr h (.inl rfl) (.inr rfl)⟩
theorem StB.mapW (st : StB B H0 H ps) (i : Nat) (hp : ps[i]? = some (pMW Ok enc b m)) : MapW Ok enc H b m := st.at_ i hp
theorem StB.iterW (st : StB B H0 H ps) (i : Nat) (hp : ps[i]? = some (pIW Ok enc b r m D last n)) : IterW Ok enc H b r m D last n := st.at_ i hp
theorem StB.mapNewW (st : StB B H0 H ps) (hb : b = H.size) (hs : H'.size = b + 1) (hm : MapW Ok enc H' b (fun _ => none)) (ha : Agr (fun k => k < b) H H') : StB B H0 H' (ps ++ [pMW Ok enc b fun _ => none]) := by
  subst hb
  exact st.add (ha.mono fun k hk => hk) _ hm fun k hk => by have : k = H.size := hk; omega
theorem mputPW {v : Value} {a : α} {K : Heap → Prop} (st : StB B H0 H ps) (i : Nat) (ht : MapTW P t kt et z) (hk : KeyW P kt Ok enc) (ha : Ok a) (hp : ps[i]? = some (pMW Ok enc b m)) (hm : put m a (some v) = m')
    (k : ∀ H', StB B H0 H' (ps.set i (pMW Ok enc b m')) → K H') : VEffU P (Instr.mapUpdate t (.map (some b)) (enc a) v) H K := by
  refine mputW ht hk ha (st.mapW i hp) ?_
  intro H' hb' ha' hs'
  subst hm
  exact k H' (st.upd i hp (ha'.mono fun k hk hkb => hk.2 hkb) _ hb' (fun k hk => .inl hk) (fun k hk => by rw [hs']; exact (st.in_ i hp hk).2) (by omega))
theorem mrangeP {K : Value → Heap → Prop} (st : StB B H0 H ps) (i : Nat) (ht : MapTW P t kt et z) (hp : ps[i]? = some (pMW Ok enc b m))
    (k : ∀ r n H', StB B H0 H' (ps.set i (pIW Ok enc b r m (fun _ => False) none n)) → K (.pointer (some ⟨r, 0, none⟩)) H') : VEff P (Instr.range t (.map (some b))) H K := by
  refine mrange ht (st.mapW i hp) fun r n H' hr hs hi ha => ?_
  subst hr
  have hbl := (st.in_ i hp (k := b) rfl).2
  refine k _ n H' (st.upd i hp (ha.mono fun k hk => hk.1) _ hi (fun k hk => ?_) (fun k hk => ?_) (by omega))
  · rcases hk with hk | hk
    · exact .inl hk
    · exact .inr (by omega)
  · rcases hk with rfl | rfl <;> omega
theorem mnextP {ty : TypeId} {K : Value → Heap → Prop} (st : StB B H0 H ps) (i : Nat) (hi : ∀ a b, enc a = enc b → a = b) (hp : ps[i]? = some (pIW Ok enc b r m D last n)) (k0 : (∀ a, (m a).isSome = true → D a) → K (.tuple #[.bool false]) H)
    (k1 : ∀ a v H' n', m a = some v → ¬ D a → n' < n → StB B H0 H' (ps.set i (pIW Ok enc b r m (fun x => D x ∨ x = a) (some a) n')) → K (.tuple #[.bool true, enc a, v]) H') : VEff P (Instr.next (.pointer (some ⟨r, 0, none⟩)) false ty) H K := by
  refine mnext hi (st.iterW i hp) k0 fun a v H' n' h1 h2 h3 h4 h5 h6 => k1 a v H' n' h1 h2 h3 (st.upd i hp (h5.mono fun k hk hkr => hk.2 (.inr hkr)) _ h4 (fun k hk => .inl hk) (fun k hk => by rw [h6]; exact (st.in_ i hp hk).2) (by omega))
/-- A loop over a map has ended. -/
theorem StB.iterEnd (st : StB B H0 H ps) (i : Nat) (hp : ps[i]? = some (pIW Ok enc b r m D last n)) : StB B H0 H (ps.set i (pMW Ok enc b m)) :=
  st.upd i hp (Agr.refl _ _) _ (st.iterW i hp).map (fun k hk => .inl (.inl hk)) (fun k hk => (st.in_ i hp (.inl hk)).2) (Nat.le_refl _)
end
end Go.VC

/- Appending to own slices without a bound but the model's; maps of slices with wide keys as pieces. -/
set_option linter.unusedVariables false
set_option linter.unusedSimpArgs false
namespace Go.VC
section
variable {α : Type} {T : Ty α} {e : TypeId} {a : Option Addr} {n cap : Nat} {xs : List α} {B : Nat → Prop} {H0 H : Heap} {ps : List Pc}
theorem appG {P : Program} {t ty q o m cap2 by_ : Nat} {z : Value} {ys : List α} {ds : List Value} {K : Value → Heap → Prop} (st : StB B H0 H ps) (i : Nat) (ht : SlT P t e T.size by_ z) (hp : ps[i]? = some (pS T e a n cap xs))
    (hd : Cells H q o ds) (hy : T.reps none_ H ds ys) (hm : m = ys.length) (h1 : ∀ u ∈ ds, u.oneCell' = true) (h63 : xs.length + ys.length ≤ maxLen) (hby : (xs.length + ys.length) * by_ ≤ 140737488355328)
    (k : ∀ a' cap' H', StB B H0 H' (ps.set i (pS T e a' (xs.length + ys.length) cap' (xs ++ ys))) → Agr (fun k => k < H.size ∧ ¬ slB (.slice a n cap) k) H H' → K (.slice a' (xs.length + ys.length) cap') H') :
    VEff P (Builtin.append_ #[t, t] ty [.slice a n cap, .slice (some ⟨q, o, none⟩) m cap2].toArray) H K := by
  refine vappendO (T := T) (S := none_) (lo := 0) ht (st.at_ i hp).1 (Nat.zero_le _) (fun k hk => hk.elim) hd hy hm h1 h63 hby ?_
  intro v' H' hown hagr hsz hfr
  obtain ⟨a', cap', rfl⟩ := hown.hull
  rw [List.length_append] at hown hfr ⊢
  refine k a' cap' H' (st.upd i hp (hagr.mono fun k hk => ⟨hk.1, fun hb => hk.2 (.inl hb)⟩) _ ⟨hown, fun k hk => hk.elim⟩ (fun k hk => ?_) (fun k hk => ?_) hsz) hagr
  · rcases hk with hk | hk
    · rcases hfr k hk with h | h
      · exact .inl (.inl h)
      · exact .inr h
    · exact hk.elim
  · rcases hk with hk | hk
    · exact (hown.lt hk).2
    · exact hk.elim
end

/-! ### maps of slices -/
section
variable {α β : Type} {Ok : α → Prop} {enc : α → Value} {T : Ty β} {e : TypeId} {b : Nat} {m : α → Option Value} {xs : α → List β} {B : Nat → Prop} {H0 H H' : Heap} {ps : List Pc} {P : Program} {t kt et : TypeId} {a : α}
/-- A map of own slices. -/
def pMQ (Ok : α → Prop) (enc : α → Value) (T : Ty β) (e : TypeId) (b : Nat) (m : α → Option Value) (xs : α → List β) : Pc where
  foot k := k = b ∨ ∃ a, slB (slAt m a) k
  ok H := MapW Ok enc H b m ∧ (∀ a, SlO T none_ H 0 e (slAt m a) (xs a)) ∧ (∀ a a' k, a ≠ a' → slB (slAt m a) k → ¬ slB (slAt m a') k) ∧ ∀ a, ¬ slB (slAt m a) b
  fr h hp := ⟨hp.1.agr h (.inl rfl), fun a => (hp.2.1 a).agr h (fun k hk => .inr ⟨a, hk⟩) (fun _ hk => hk.elim), hp.2.2⟩
theorem StB.mqMap (st : StB B H0 H ps) (i : Nat) (hp : ps[i]? = some (pMQ Ok enc T e b m xs)) : MapW Ok enc H b m := (st.at_ i hp).1
theorem StB.mqView (st : StB B H0 H ps) (i : Nat) (hp : ps[i]? = some (pMQ Ok enc T e b m xs)) (a : α) : ∃ ad cap, slAt m a = .slice ad (xs a).length cap ∧ SlD T (Old H) H ad cap (xs a) := by
  obtain ⟨ad, cap, h1, h2, -⟩ := ((st.at_ i hp).2.1 a).view (S' := Old H) (fun k hk => (st.in_ i hp (.inr ⟨a, hk⟩)).2) (fun _ hk => hk.elim)
  exact ⟨ad, cap, h1, h2⟩
theorem StB.mqNew (st : StB B H0 H ps) (i : Nat) (hp : ps[i]? = some (pMW Ok enc b fun _ => none)) : StB B H0 H (ps.set i (pMQ Ok enc T e b (fun _ => none) fun _ => [])) := by
  refine st.upd i hp (Agr.refl _ _) _ ⟨st.mapW i hp, fun a => SlO.nil, fun a a' k _ hk => ?_, fun a hk => ?_⟩ (fun k hk => ?_) (fun k hk => ?_) (Nat.le_refl _)
  · obtain ⟨o, n, c, h⟩ := hk; cases h
  · obtain ⟨o, n, c, h⟩ := hk; cases h
  · rcases hk with hk | ⟨a, o, n, c, h⟩
    · exact .inl hk
    · cases h
  · rcases hk with hk | ⟨a, o, n, c, h⟩
    · exact (st.in_ i hp hk).2
    · cases h
/-- The same, while the slice at a is out, as v', holding x'. -/
def pMQm (Ok : α → Prop) (enc : α → Value) (T : Ty β) (e : TypeId) (b : Nat) (m : α → Option Value) (xs : α → List β) (a : α) (v' : Value) (x' : List β) : Pc where
  foot k := k = b ∨ slB v' k ∨ ∃ c, c ≠ a ∧ slB (slAt m c) k
  ok H := MapW Ok enc H b m ∧ (m a).isSome = true ∧ SlO T none_ H 0 e v' x' ∧ (∀ c, c ≠ a → SlO T none_ H 0 e (slAt m c) (xs c)) ∧ (∀ c c' k, c ≠ a → c' ≠ a → c ≠ c' → slB (slAt m c) k → ¬ slB (slAt m c') k) ∧ (∀ c k, c ≠ a → slB (slAt m c) k → ¬ slB v' k) ∧ (∀ c, c ≠ a → ¬ slB (slAt m c) b) ∧ ¬ slB v' b
  fr h hp := ⟨hp.1.agr h (.inl rfl), hp.2.1, hp.2.2.1.agr h (fun k hk => .inr (.inl hk)) (fun _ hk => hk.elim), fun c hc => (hp.2.2.2.1 c hc).agr h (fun k hk => .inr (.inr ⟨c, hc, hk⟩)) (fun _ hk => hk.elim), hp.2.2.2.2⟩
theorem mentryQ (st : StB B H0 H ps) (i : Nat) (ht : MapTW P t kt et (.slice none 0 0)) (hk : KeyW P kt Ok enc) (ha : Ok a) (hp : ps[i]? = some (pMQ Ok enc T e b m xs)) {K : Value → Heap → Prop}
    (k : ∀ s m' H', StampF enc H' b a s → Agr (fun k => k ≠ b) H H' → (∀ c, (m' c).isSome = true ↔ (m c).isSome = true ∨ c = a) → StB B H0 H' (ps.set i (pMQm Ok enc T e b m' xs a (slAt m a) (xs a))) → K (.tuple #[slAt m a, .int .i64 (s : Int)]) H') : VEff P (Instr.mapEntry t (.map (some b)) (enc a)) H K := by
  obtain ⟨hmap, hown, hap, hb⟩ := st.at_ i hp
  refine mentryW ht hk ha hmap fun H' s h1 h2 h3 h4 => ?_
  have e1 : ∀ c, slAt (put m a (some ((m a).getD (.slice none 0 0)))) c = slAt m c := fun c => by
    by_cases hc : c = a
    · subst hc; rw [slAt_put]; rfl
    · rw [slAt_ne hc]
  refine k s _ H' h2 h3 (fun c => ?_) (st.upd i hp (h3.mono fun k hk hkb => hk.2 (.inl hkb)) (pMQm Ok enc T e b (put m a (some ((m a).getD (.slice none 0 0)))) xs a (slAt m a) (xs a)) ⟨h1, by rw [put_self]; rfl, ?_, fun c hc => ?_, fun c c' k hc hc' hcc => ?_, fun c k hc => ?_, fun c hc => ?_, hb a⟩ (fun k hk => ?_) (fun k hk => ?_) (by omega))
  · by_cases hc : c = a
    · subst hc; rw [put_self]; simp
    · rw [put_ne hc]; simp [hc]
  · exact (hown a).agr h3 (fun k hk hkb => hb a (hkb ▸ hk)) (fun _ hk => hk.elim)
  · rw [e1]; exact (hown c).agr h3 (fun k hk hkb => hb c (hkb ▸ hk)) (fun _ hk => hk.elim)
  · rw [e1, e1]; exact hap c c' k hcc
  · rw [e1]; exact hap c a k hc
  · rw [e1]; exact hb c
  · refine .inl ?_
    rcases hk with hk | hk | ⟨c, -, hk⟩
    · exact .inl hk
    · exact .inr ⟨a, hk⟩
    · rw [e1] at hk; exact .inr ⟨c, hk⟩
  · rw [h4]
    rcases hk with hk | hk | ⟨c, -, hk⟩
    · exact (st.in_ i hp (.inl hk)).2
    · exact (st.in_ i hp (.inr ⟨a, hk⟩)).2
    · rw [e1] at hk; exact (st.in_ i hp (.inr ⟨c, hk⟩)).2
theorem appQm {ty q o l cap2 by_ : Nat} {z v : Value} {x : List β} {ys : List β} {ds : List Value} {tt : TypeId} {K : Value → Heap → Prop} (st : StB B H0 H ps) (i : Nat) (ht : SlT P tt e T.size by_ z) (hp : ps[i]? = some (pMQm Ok enc T e b m xs a v x))
    (hd : Cells H q o ds) (hy : T.reps none_ H ds ys) (hl : l = ys.length) (h1 : ∀ u ∈ ds, u.oneCell' = true) (h63 : x.length + ys.length ≤ maxLen) (hby : (x.length + ys.length) * by_ ≤ 140737488355328)
    (k : ∀ v' H', StB B H0 H' (ps.set i (pMQm Ok enc T e b m xs a v' (x ++ ys))) → Agr (fun k => k < H.size ∧ ¬ slB v k) H H' → ¬ slB v b → K v' H') :
    VEff P (Builtin.append_ #[tt, tt] ty [v, .slice (some ⟨q, o, none⟩) l cap2].toArray) H K := by
  obtain ⟨hmap, hin, hv, hown, hap, hapv, hb, hvb⟩ := st.at_ i hp
  have hlt : ∀ c, c ≠ a → ∀ k, slB (slAt m c) k → k < H.size := fun c hc k hk => (st.in_ i hp (.inr (.inr ⟨c, hc, hk⟩))).2
  have hbl : b < H.size := (st.in_ i hp (.inl rfl)).2
  refine vappendO (T := T) (S := none_) (lo := 0) ht hv (Nat.zero_le _) (fun k hk => hk.elim) hd hy hl h1 h63 hby ?_
  intro v' H' hv' hagr hsz hfr
  refine k v' H' (st.upd i hp (hagr.mono fun k hk => ⟨hk.1, fun hb => hk.2 (.inr (.inl hb))⟩) (pMQm Ok enc T e b m xs a v' (x ++ ys)) ⟨hmap.agr hagr ⟨hbl, hvb⟩, hin, hv', fun c hc => (hown c hc).agr hagr (fun k hk => ⟨hlt c hc k hk, hapv c k hc hk⟩) (fun _ hk => hk.elim), hap, fun c k hc hk hk' => ?_, hb, fun hk => ?_⟩ (fun k hk => ?_) (fun k hk => ?_) hsz) hagr hvb
  · rcases hfr k hk' with h | h
    · exact hapv c k hc hk h
    · have := hlt c hc k hk; omega
  · rcases hfr b hk with h | h
    · exact hvb h
    · omega
  · rcases hk with hk | hk | hk
    · exact .inl (.inl hk)
    · rcases hfr k hk with h | h
      · exact .inl (.inr (.inl h))
      · exact .inr h
    · exact .inl (.inr (.inr hk))
  · rcases hk with hk | hk | ⟨c, hc, hk⟩
    · have : k = b := hk; omega
    · exact (hv'.lt hk).2
    · have := hlt c hc k hk; omega
theorem mstoreQ {u : TypeId} {s : Nat} {v : Value} {x : List β} {K : Heap → Prop} (st : StB B H0 H ps) (i : Nat) (hk : KeyW P kt Ok enc) (ha : Ok a) (hp : ps[i]? = some (pMQm Ok enc T e b m xs a v x)) (hs : StampF enc H b a s)
    (k : ∀ m' H', (∀ c, (m' c).isSome = true ↔ (m c).isSome = true) → StB B H0 H' (ps.set i (pMQ Ok enc T e b m' (upd xs a x))) → K H') : VEffU P (Instr.entryStore u (.map (some b)) (.int .i64 (s : Int)) v) H K := by
  obtain ⟨hmap, hin, hv, hown, hap, hapv, hb, hvb⟩ := st.at_ i hp
  refine mstoreW hk ha hmap hs hin ?_
  intro H' h1 h2 h3
  have e1 : slAt (put m a (some v)) a = v := slAt_put m a v
  have e2 : ∀ c, c ≠ a → slAt (put m a (some v)) c = slAt m c := fun c hc => slAt_ne hc
  refine k _ H' (fun c => ?_) (st.upd i hp (h2.mono fun k hk hkb => hk.2 (.inl hkb)) (pMQ Ok enc T e b (put m a (some v)) (upd xs a x)) ⟨h1, fun c => ?_, fun c c' k hcc => ?_, fun c => ?_⟩ (fun k hk => ?_) (fun k hk => ?_) (by omega))
  · by_cases hc : c = a
    · subst hc; rw [put_self]; simp [hin]
    · rw [put_ne hc]
  · by_cases hc : c = a
    · subst hc; rw [e1, upd_self]; exact hv.agr h2 (fun k hk hkb => hvb (hkb ▸ hk)) (fun _ hk => hk.elim)
    · rw [e2 c hc, upd_ne hc]; exact (hown c hc).agr h2 (fun k hk hkb => hb c hc (hkb ▸ hk)) (fun _ hk => hk.elim)
  · by_cases hc : c = a
    · subst hc
      rw [e1, e2 c' (Ne.symm hcc)]
      exact fun h1 h2 => hapv c' _ (Ne.symm hcc) h2 h1
    · by_cases hc' : c' = a
      · subst hc'
        rw [e1, e2 c hc]
        exact hapv c _ hc
      · rw [e2 c hc, e2 c' hc']; exact hap c c' k hc hc' hcc
  · by_cases hc : c = a
    · subst hc; rw [e1]; exact hvb
    · rw [e2 c hc]; exact hb c hc
  · refine .inl ?_
    rcases hk with hk | ⟨c, hk⟩
    · exact .inl hk
    · by_cases hc : c = a
      · subst hc; rw [e1] at hk; exact .inr (.inl hk)
      · rw [e2 c hc] at hk; exact .inr (.inr ⟨c, hc, hk⟩)
  · rw [h3]
    rcases hk with hk | ⟨c, hk⟩
    · exact (st.in_ i hp (.inl hk)).2
    · by_cases hc : c = a
      · subst hc; rw [e1] at hk; exact (st.in_ i hp (.inr (.inl hk))).2
      · rw [e2 c hc] at hk; exact (st.in_ i hp (.inr (.inr ⟨c, hc, hk⟩))).2
end
end Go.VC

/- A block whose cells hold slices of the call's own, of several types. -/
set_option linter.unusedVariables false
set_option linter.unusedSimpArgs false
namespace Go.VC
/-- What a slice of the call's own holds. -/
structure Slot where
  ok : Heap → Value → Prop
  fr : ∀ {S : Nat → Prop} {H H' : Heap} {v : Value}, Agr S H H' → (∀ k, slB v k → S k) → ok H v → ok H' v
  lt : ∀ {H : Heap} {v : Value} {k : Nat}, ok H v → slB v k → k < H.size
def slot {α : Type} (T : Ty α) (e : TypeId) (xs : List α) : Slot := ⟨fun H v => SlO T none_ H 0 e v xs, fun h hb hv => hv.agr h hb (fun _ f => f.elim), fun h hk => (h.lt hk).2⟩
def updS (ss : Nat → Slot) (j : Nat) (s : Slot) : Nat → Slot := fun i => if i = j then s else ss i
theorem updS_self (ss : Nat → Slot) (j : Nat) (s : Slot) : updS ss j s j = s := if_pos rfl
theorem updS_ne {ss : Nat → Slot} {i j : Nat} {s : Slot} (h : i ≠ j) : updS ss j s i = ss i := if_neg h
section
variable {α : Type} {T : Ty α} {B : Nat → Prop} {H0 H H1 : Heap} {ps : List Pc} {e te : TypeId} {b : Nat} {vs : List Value} {ss : Nat → Slot} {xs : List α} {v : Value} {j : Nat}
def pF (te : TypeId) (b : Nat) (vs : List Value) (ss : Nat → Slot) : Pc where
  foot k := k = b ∨ ∃ (i : Nat) (v : Value), vs[i]? = some v ∧ slB v k
  ok H := Blk H b te vs ∧ (∀ (i : Nat) (v : Value), vs[i]? = some v → (ss i).ok H v) ∧ (∀ (i j : Nat) (v w : Value) (k : Nat), i ≠ j → vs[i]? = some v → vs[j]? = some w → slB v k → ¬ slB w k) ∧ ∀ (i : Nat) (v : Value), vs[i]? = some v → ¬ slB v b
  fr h hp := ⟨hp.1.agr h (.inl rfl), fun i v hv => (ss i).fr h (fun k hk => .inr ⟨i, v, hv, hk⟩) (hp.2.1 i v hv), hp.2.2⟩
theorem nil_slB {k : Nat} : ¬ slB (.slice none 0 0) k := fun ⟨_, _, _, h⟩ => by cases h
theorem StB.fldNew {n : Nat} (st : StB B H0 H ps) (i : Nat) (hp : ps[i]? = some (pB te b (List.replicate n (.slice none 0 0)))) (hs : ∀ j H, (ss j).ok H (.slice none 0 0)) : StB B H0 H (ps.set i (pF te b (List.replicate n (.slice none 0 0)) ss)) := by
  have hz : ∀ (j : Nat) (v : Value), (List.replicate n (Value.slice none 0 0))[j]? = some v → v = .slice none 0 0 := fun j v hv => by
    exact List.eq_of_mem_replicate (List.mem_of_getElem? hv)
  refine st.upd i hp (Agr.refl _ _) (pF te b (List.replicate n (.slice none 0 0)) ss) ⟨st.blk i hp, fun j v hv => by rw [hz j v hv]; exact hs j H, fun i j v w k _ hv hw hk => ?_, fun j v hv hk => ?_⟩ (fun k hk => ?_) (fun k hk => ?_) (Nat.le_refl _)
  · rw [hz i v hv] at hk; exact absurd hk nil_slB
  · rw [hz j v hv] at hk; exact nil_slB hk
  · rcases hk with hk | ⟨j, v, hv, hk⟩
    · exact .inl hk
    · rw [hz j v hv] at hk; exact absurd hk nil_slB
  · rcases hk with hk | ⟨j, v, hv, hk⟩
    · exact (st.in_ i hp hk).2
    · rw [hz j v hv] at hk; exact absurd hk nil_slB
theorem StB.fblk (st : StB B H0 H ps) (i : Nat) (hp : ps[i]? = some (pF te b vs ss)) : Blk H b te vs := (st.at_ i hp).1
theorem StB.fview (st : StB B H0 H ps) (i : Nat) (hp : ps[i]? = some (pF te b vs ss)) (hv : vs[j]? = some v) (hs : ss j = slot T e xs) : ∃ a cap, v = .slice a xs.length cap ∧ SlD T (Old H) H a cap xs := by
  have h := (st.at_ i hp).2.1 j v hv
  rw [hs] at h
  obtain ⟨a, cap, h1, h2, -⟩ := SlO.view (S' := Old H) (h : SlO T none_ H 0 e v xs) (fun k hk => (st.in_ i hp (.inr ⟨j, v, hv, hk⟩)).2) (fun _ f => f.elim)
  exact ⟨a, cap, h1, h2⟩
/-- The same, while the slice in cell j is out, as v'. -/
def pFm (te : TypeId) (b : Nat) (vs : List Value) (ss : Nat → Slot) (j : Nat) (s : Slot) (v' : Value) : Pc where
  foot k := k = b ∨ slB v' k ∨ ∃ (i : Nat) (v : Value), i ≠ j ∧ vs[i]? = some v ∧ slB v k
  ok H := Blk H b te vs ∧ j < vs.length ∧ s.ok H v' ∧ (∀ (i : Nat) (v : Value), i ≠ j → vs[i]? = some v → (ss i).ok H v) ∧ (∀ (i l : Nat) (v w : Value) (k : Nat), i ≠ j → l ≠ j → i ≠ l → vs[i]? = some v → vs[l]? = some w → slB v k → ¬ slB w k) ∧
    (∀ (i : Nat) (v : Value) (k : Nat), i ≠ j → vs[i]? = some v → slB v k → ¬ slB v' k) ∧ (∀ (i : Nat) (v : Value), i ≠ j → vs[i]? = some v → ¬ slB v b) ∧ ¬ slB v' b
  fr h hp := ⟨hp.1.agr h (.inl rfl), hp.2.1, s.fr h (fun k hk => .inr (.inl hk)) hp.2.2.1, fun i v hi hv => (ss i).fr h (fun k hk => .inr (.inr ⟨i, v, hi, hv, hk⟩)) (hp.2.2.2.1 i v hi hv), hp.2.2.2.2⟩
theorem appF {P : Program} {tt ty q o m cap2 by_ : Nat} {z : Value} {ys : List α} {ds : List Value} {K : Value → Heap → Prop} (st : StB B H0 H ps) (i : Nat) (ht : SlT P tt e T.size by_ z) (hp : ps[i]? = some (pF te b vs ss)) (hv : vs[j]? = some v) (hs : ss j = slot T e xs)
    (hd : Cells H q o ds) (hy : T.reps none_ H ds ys) (hm : m = ys.length) (h1 : ∀ u ∈ ds, u.oneCell' = true) (h63 : xs.length + ys.length ≤ maxLen) (hby : (xs.length + ys.length) * by_ ≤ 140737488355328)
    (k : ∀ v' H', StB B H0 H' (ps.set i (pFm te b vs ss j (slot T e (xs ++ ys)) v')) → Agr (fun k => k < H.size ∧ ¬ slB v k) H H' → v'.oneCell' = true → K v' H') :
    VEff P (Builtin.append_ #[tt, tt] ty [v, .slice (some ⟨q, o, none⟩) m cap2].toArray) H K := by
  obtain ⟨hblk, hall, hap, hb⟩ := st.at_ i hp
  have hown := hall j v hv
  rw [hs] at hown
  have hjl := (List.getElem?_eq_some_iff.1 hv).1
  have hbl : b < H.size := (st.in_ i hp (.inl rfl)).2
  have hlt : ∀ (l : Nat) (w : Value), vs[l]? = some w → ∀ k, slB w k → k < H.size := fun l w hw k hk => (st.in_ i hp (.inr ⟨l, w, hw, hk⟩)).2
  refine vappendO (T := T) (S := none_) (lo := 0) ht (hown : SlO T none_ H 0 e v xs) (Nat.zero_le _) (fun k hk => hk.elim) hd hy hm h1 h63 hby ?_
  intro v' H' hv' hagr hsz hfr
  refine k v' H' (st.upd i hp (hagr.mono fun k hk => ⟨hk.1, fun hb => hk.2 (.inr ⟨j, v, hv, hb⟩)⟩) (pFm te b vs ss j (slot T e (xs ++ ys)) v') ⟨hblk.agr hagr ⟨hbl, hb j v hv⟩, hjl, hv', fun l w hl hw => (ss l).fr hagr (fun k hk => ⟨hlt l w hw k hk, hap l j w v k hl hw hv hk⟩) (hall l w hw), fun l l' w w' k _ _ hll => hap l l' w w' k hll, fun l w k hl hw hk hk' => ?_, fun l w _ hw => hb l w hw, fun hk => ?_⟩ (fun k hk => ?_) (fun k hk => ?_) hsz) hagr hv'.one
  · rcases hfr k hk' with h | h
    · exact hap l j w v k hl hw hv hk h
    · have := hlt l w hw k hk; omega
  · rcases hfr b hk with h | h
    · exact hb j v hv h
    · omega
  · rcases hk with hk | hk | ⟨l, w, -, hw, hk⟩
    · exact .inl (.inl hk)
    · rcases hfr k hk with h | h
      · exact .inl (.inr ⟨j, v, hv, h⟩)
      · exact .inr h
    · exact .inl (.inr ⟨l, w, hw, hk⟩)
  · rcases hk with hk | hk | ⟨l, w, hl, hw, hk⟩
    · have : k = b := hk; omega
    · exact (hv'.lt hk).2
    · have := hlt l w hw k hk; omega
theorem stF {P : Program} {o : Nat} {s : Slot} {t : TypeId} {K : Heap → Prop} (st : StB B H0 H ps) (i : Nat) (ht : CellT P t) (hp : ps[i]? = some (pFm te b vs ss j s v)) (ho : o = j) (h1 : v.oneCell' = true)
    (k : ∀ H', StB B H0 H' (ps.set i (pF te b (vs.set j v) (updS ss j s))) → K H') : VEffU P (Instr.storeAt t (.pointer (some ⟨b, o, none⟩)) v) H K := by
  subst ho
  obtain ⟨hblk, hjl, hv', hall, hap, hapv, hb, hvb⟩ := st.at_ i hp
  refine VC.st1 ht hblk hjl h1 ?_
  intro H' hb' ha' hs'
  have e1 : ∀ (l : Nat) (w : Value), (vs.set o v)[l]? = some w → (l = o ∧ w = v) ∨ (l ≠ o ∧ vs[l]? = some w) := fun l w hw => by
    by_cases hl : l = o
    · subst hl
      rw [List.getElem?_set_self hjl] at hw
      cases hw; exact .inl ⟨rfl, rfl⟩
    · rw [List.getElem?_set_ne (Ne.symm hl)] at hw; exact .inr ⟨hl, hw⟩
  refine k H' (st.upd i hp (ha'.mono fun k hk hkb => hk.2 (.inl hkb)) (pF te b (vs.set o v) (updS ss o s)) ⟨hb', fun l w hw => ?_, fun l l' w w' kk hll hw hw' hk hk' => ?_, fun l w hw => ?_⟩ (fun k hk => ?_) (fun k hk => ?_) (by omega))
  · rcases e1 l w hw with ⟨rfl, rfl⟩ | ⟨hl, hw⟩
    · rw [updS_self]; exact s.fr ha' (fun k hk hkb => hvb (hkb ▸ hk)) hv'
    · rw [updS_ne hl]; exact (ss l).fr ha' (fun k hk hkb => hb l w hl hw (hkb ▸ hk)) (hall l w hl hw)
  · rcases e1 l w hw with ⟨rfl, rfl⟩ | ⟨hl, hw1⟩ <;> rcases e1 l' w' hw' with ⟨rfl, rfl⟩ | ⟨hl', hw1'⟩
    · exact hll rfl
    · exact hapv l' w' kk hl' hw1' hk' hk
    · exact hapv l w kk hl hw1 hk hk'
    · exact hap l l' w w' kk hl hl' hll hw1 hw1' hk hk'
  · rcases e1 l w hw with ⟨rfl, rfl⟩ | ⟨hl, hw⟩
    · exact hvb
    · exact hb l w hl hw
  · refine .inl ?_
    rcases hk with hk | ⟨l, w, hw, hk⟩
    · exact .inl hk
    · rcases e1 l w hw with ⟨rfl, rfl⟩ | ⟨hl, hw⟩
      · exact .inr (.inl hk)
      · exact .inr (.inr ⟨l, w, hl, hw, hk⟩)
  · rw [hs']
    rcases hk with hk | ⟨l, w, hw, hk⟩
    · exact (st.in_ i hp (.inl hk)).2
    · rcases e1 l w hw with ⟨rfl, rfl⟩ | ⟨hl, hw⟩
      · exact (st.in_ i hp (.inr (.inl hk))).2
      · exact (st.in_ i hp (.inr (.inr ⟨l, w, hl, hw, hk⟩))).2
/-- A value of one cell is written at place o into the slice in cell j. -/
theorem stFE {P : Program} {c o n cap : Nat} {u : Value} {y : α} {K : Heap → Prop} (st : StB B H0 H ps) (i : Nat) (ht : CellT P e) (hp : ps[i]? = some (pF te b vs ss)) (hv : vs[j]? = some (.slice (some ⟨c, 0, none⟩) n cap)) (hs : ss j = slot T e xs)
    (hsz : T.size = 1) (ho : o < xs.length) (hone : u.oneCell' = true) (hr : ∀ H', T.rep none_ H' [u] y) (k : ∀ H', StB B H0 H' (ps.set i (pF te b vs (updS ss j (slot T e (xs.set o y))))) → K H') : VEffU P (Instr.storeAt e (.pointer (some ⟨c, o, none⟩)) u) H K := by
  obtain ⟨hblk, hall, hap, hb⟩ := st.at_ i hp
  have hown := hall j _ hv
  rw [hs] at hown
  obtain ⟨-, -, hlo, l, hblk2, hlen, -, hput⟩ := SlO.placeS (hown : SlO T none_ H 0 e _ xs) ho
  rw [hsz, Nat.mul_one] at hlen hput
  refine VC.st1 ht hblk2 (by omega) hone ?_
  intro H' hb' ha' hs'
  have hown' := hput H' [u] y (by rw [splice_one (by omega)]; exact hb') (fun j hj => hj.elim) (hr H')
  have slb : slB (.slice (some ⟨c, 0, none⟩) n cap) c := ⟨0, n, cap, rfl⟩
  have hbc : b ≠ c := fun h => hb j _ hv (h ▸ slb)
  refine k H' (st.upd i hp (ha'.mono fun k hk hkc => hk.2 (.inr ⟨j, _, hv, by rw [hkc]; exact slb⟩)) (pF te b vs (updS ss j (slot T e (xs.set o y)))) ⟨hblk.agr ha' hbc, fun l w hw => ?_, hap, hb⟩ (fun k hk => .inl hk) (fun k hk => by rw [hs']; exact (st.in_ i hp hk).2) (by omega))
  by_cases hl : l = j
  · subst hl
    rw [hv] at hw; cases hw
    rw [updS_self]; exact hown'
  · rw [updS_ne hl]
    exact (ss l).fr ha' (fun k hk hkc => hap l j w _ k hl hw hv hk (by rw [hkc]; exact slb)) (hall l w hw)
/-- The address of an element. -/
theorem StB.fadr (st : StB B H0 H ps) (i : Nat) (hp : ps[i]? = some (pF te b vs ss)) (hv : vs[j]? = some v) (hs : ss j = slot T e xs) (hn : 0 < xs.length) : ∃ c cap, v = .slice (some ⟨c, 0, none⟩) xs.length cap := by
  have h := (st.at_ i hp).2.1 j v hv
  rw [hs] at h
  obtain ⟨cs, ⟨h0, h1⟩, h2⟩ := (h : SlO T none_ H 0 e v xs)
  rcases h1 with ⟨rfl, h1⟩ | ⟨c, cap, l, rfl, r⟩
  · omega
  · exact ⟨c, cap, rfl⟩
end
end Go.VC
/- A block whose first cell is anything, and whose other cells hold slices of the call's own. -/
set_option linter.unusedVariables false
set_option linter.unusedSimpArgs false
namespace Go.VC
section
variable {α : Type} {T : Ty α} {B : Nat → Prop} {H0 H H1 : Heap} {ps : List Pc} {e te : TypeId} {b : Nat} {w0 : Value} {vs : List Value} {ss : Nat → Slot} {xs : List α} {v : Value} {j : Nat}
def pG (te : TypeId) (b : Nat) (w0 : Value) (vs : List Value) (ss : Nat → Slot) : Pc where
  foot k := k = b ∨ ∃ (i : Nat) (v : Value), vs[i]? = some v ∧ slB v k
  ok H := Blk H b te (w0 :: vs) ∧ (∀ (i : Nat) (v : Value), vs[i]? = some v → (ss i).ok H v) ∧ (∀ (i j : Nat) (v w : Value) (k : Nat), i ≠ j → vs[i]? = some v → vs[j]? = some w → slB v k → ¬ slB w k) ∧ ∀ (i : Nat) (v : Value), vs[i]? = some v → ¬ slB v b
  fr h hp := ⟨hp.1.agr h (.inl rfl), fun i v hv => (ss i).fr h (fun k hk => .inr ⟨i, v, hv, hk⟩) (hp.2.1 i v hv), hp.2.2⟩
theorem StB.gNew {n : Nat} (st : StB B H0 H ps) (i : Nat) (hp : ps[i]? = some (pB te b (w0 :: List.replicate n (.slice none 0 0)))) (hs : ∀ j H, (ss j).ok H (.slice none 0 0)) : StB B H0 H (ps.set i (pG te b w0 (List.replicate n (.slice none 0 0)) ss)) := by
  have hz : ∀ (j : Nat) (v : Value), (List.replicate n (Value.slice none 0 0))[j]? = some v → v = .slice none 0 0 := fun j v hv => by
    exact List.eq_of_mem_replicate (List.mem_of_getElem? hv)
  refine st.upd i hp (Agr.refl _ _) (pG te b w0 (List.replicate n (.slice none 0 0)) ss) ⟨st.blk i hp, fun j v hv => by rw [hz j v hv]; exact hs j H, fun i j v w k _ hv hw hk => ?_, fun j v hv hk => ?_⟩ (fun k hk => ?_) (fun k hk => ?_) (Nat.le_refl _)
  · rw [hz i v hv] at hk; exact absurd hk nil_slB
  · rw [hz j v hv] at hk; exact nil_slB hk
  · rcases hk with hk | ⟨j, v, hv, hk⟩
    · exact .inl hk
    · rw [hz j v hv] at hk; exact absurd hk nil_slB
  · rcases hk with hk | ⟨j, v, hv, hk⟩
    · exact (st.in_ i hp hk).2
    · rw [hz j v hv] at hk; exact absurd hk nil_slB
theorem StB.gblk (st : StB B H0 H ps) (i : Nat) (hp : ps[i]? = some (pG te b w0 vs ss)) : Blk H b te (w0 :: vs) := (st.at_ i hp).1
theorem StB.gview (st : StB B H0 H ps) (i : Nat) (hp : ps[i]? = some (pG te b w0 vs ss)) (hv : vs[j]? = some v) (hs : ss j = slot T e xs) : ∃ a cap, v = .slice a xs.length cap ∧ SlD T (Old H) H a cap xs := by
  have h := (st.at_ i hp).2.1 j v hv
  rw [hs] at h
  obtain ⟨a, cap, h1, h2, -⟩ := SlO.view (S' := Old H) (h : SlO T none_ H 0 e v xs) (fun k hk => (st.in_ i hp (.inr ⟨j, v, hv, hk⟩)).2) (fun _ f => f.elim)
  exact ⟨a, cap, h1, h2⟩
def pGm (te : TypeId) (b : Nat) (w0 : Value) (vs : List Value) (ss : Nat → Slot) (j : Nat) (s : Slot) (v' : Value) : Pc where
  foot k := k = b ∨ slB v' k ∨ ∃ (i : Nat) (v : Value), i ≠ j ∧ vs[i]? = some v ∧ slB v k
  ok H := Blk H b te (w0 :: vs) ∧ j < vs.length ∧ s.ok H v' ∧ (∀ (i : Nat) (v : Value), i ≠ j → vs[i]? = some v → (ss i).ok H v) ∧ (∀ (i l : Nat) (v w : Value) (k : Nat), i ≠ j → l ≠ j → i ≠ l → vs[i]? = some v → vs[l]? = some w → slB v k → ¬ slB w k) ∧
    (∀ (i : Nat) (v : Value) (k : Nat), i ≠ j → vs[i]? = some v → slB v k → ¬ slB v' k) ∧ (∀ (i : Nat) (v : Value), i ≠ j → vs[i]? = some v → ¬ slB v b) ∧ ¬ slB v' b
  fr h hp := ⟨hp.1.agr h (.inl rfl), hp.2.1, s.fr h (fun k hk => .inr (.inl hk)) hp.2.2.1, fun i v hi hv => (ss i).fr h (fun k hk => .inr (.inr ⟨i, v, hi, hv, hk⟩)) (hp.2.2.2.1 i v hi hv), hp.2.2.2.2⟩
theorem appGB {P : Program} {tt ty q o m cap2 by_ : Nat} {z : Value} {ys : List α} {ds : List Value} {K : Value → Heap → Prop} (st : StB B H0 H ps) (i : Nat) (ht : SlT P tt e T.size by_ z) (hp : ps[i]? = some (pG te b w0 vs ss)) (hv : vs[j]? = some v) (hs : ss j = slot T e xs)
    (hd : Cells H q o ds) (hy : T.reps none_ H ds ys) (hm : m = ys.length) (h1 : ∀ u ∈ ds, u.oneCell' = true) (h63 : xs.length + ys.length ≤ maxLen) (hby : (xs.length + ys.length) * by_ ≤ 140737488355328)
    (k : ∀ v' H', StB B H0 H' (ps.set i (pGm te b w0 vs ss j (slot T e (xs ++ ys)) v')) → Agr (fun k => k < H.size ∧ ¬ slB v k) H H' → v'.oneCell' = true → K v' H') :
    VEff P (Builtin.append_ #[tt, tt] ty [v, .slice (some ⟨q, o, none⟩) m cap2].toArray) H K := by
  obtain ⟨hblk, hall, hap, hb⟩ := st.at_ i hp
  have hown := hall j v hv
  rw [hs] at hown
  have hjl := (List.getElem?_eq_some_iff.1 hv).1
  have hbl : b < H.size := (st.in_ i hp (.inl rfl)).2
  have hlt : ∀ (l : Nat) (w : Value), vs[l]? = some w → ∀ k, slB w k → k < H.size := fun l w hw k hk => (st.in_ i hp (.inr ⟨l, w, hw, hk⟩)).2
  refine vappendO (T := T) (S := none_) (lo := 0) ht (hown : SlO T none_ H 0 e v xs) (Nat.zero_le _) (fun k hk => hk.elim) hd hy hm h1 h63 hby ?_
  intro v' H' hv' hagr hsz hfr
  refine k v' H' (st.upd i hp (hagr.mono fun k hk => ⟨hk.1, fun hb => hk.2 (.inr ⟨j, v, hv, hb⟩)⟩) (pGm te b w0 vs ss j (slot T e (xs ++ ys)) v') ⟨hblk.agr hagr ⟨hbl, hb j v hv⟩, hjl, hv', fun l w hl hw => (ss l).fr hagr (fun k hk => ⟨hlt l w hw k hk, hap l j w v k hl hw hv hk⟩) (hall l w hw), fun l l' w w' k _ _ hll => hap l l' w w' k hll, fun l w k hl hw hk hk' => ?_, fun l w _ hw => hb l w hw, fun hk => ?_⟩ (fun k hk => ?_) (fun k hk => ?_) hsz) hagr hv'.one
  · rcases hfr k hk' with h | h
    · exact hap l j w v k hl hw hv hk h
    · have := hlt l w hw k hk; omega
  · rcases hfr b hk with h | h
    · exact hb j v hv h
    · omega
  · rcases hk with hk | hk | ⟨l, w, -, hw, hk⟩
    · exact .inl (.inl hk)
    · rcases hfr k hk with h | h
      · exact .inl (.inr ⟨j, v, hv, h⟩)
      · exact .inr h
    · exact .inl (.inr ⟨l, w, hw, hk⟩)
  · rcases hk with hk | hk | ⟨l, w, hl, hw, hk⟩
    · have : k = b := hk; omega
    · exact (hv'.lt hk).2
    · have := hlt l w hw k hk; omega
theorem stGB {P : Program} {o : Nat} {s : Slot} {t : TypeId} {K : Heap → Prop} (st : StB B H0 H ps) (i : Nat) (ht : CellT P t) (hp : ps[i]? = some (pGm te b w0 vs ss j s v)) (ho : o = j + 1) (h1 : v.oneCell' = true)
    (k : ∀ H', StB B H0 H' (ps.set i (pG te b w0 (vs.set j v) (updS ss j s))) → K H') : VEffU P (Instr.storeAt t (.pointer (some ⟨b, o, none⟩)) v) H K := by
  subst ho
  obtain ⟨hblk, hjl, hv', hall, hap, hapv, hb, hvb⟩ := st.at_ i hp
  refine VC.st1 ht hblk (by simp only [List.length_cons]; omega) h1 ?_
  intro H' hb' ha' hs'
  rw [List.set_cons_succ] at hb'
  have e1 : ∀ (l : Nat) (w : Value), (vs.set j v)[l]? = some w → (l = j ∧ w = v) ∨ (l ≠ j ∧ vs[l]? = some w) := fun l w hw => by
    by_cases hl : l = j
    · subst hl
      rw [List.getElem?_set_self hjl] at hw
      cases hw; exact .inl ⟨rfl, rfl⟩
    · rw [List.getElem?_set_ne (Ne.symm hl)] at hw; exact .inr ⟨hl, hw⟩
  refine k H' (st.upd i hp (ha'.mono fun k hk hkb => hk.2 (.inl hkb)) (pG te b w0 (vs.set j v) (updS ss j s)) ⟨hb', fun l w hw => ?_, fun l l' w w' kk hll hw hw' hk hk' => ?_, fun l w hw => ?_⟩ (fun k hk => ?_) (fun k hk => ?_) (by omega))
  · rcases e1 l w hw with ⟨rfl, rfl⟩ | ⟨hl, hw⟩
    · rw [updS_self]; exact s.fr ha' (fun k hk hkb => hvb (hkb ▸ hk)) hv'
    · rw [updS_ne hl]; exact (ss l).fr ha' (fun k hk hkb => hb l w hl hw (hkb ▸ hk)) (hall l w hl hw)
  · rcases e1 l w hw with ⟨rfl, rfl⟩ | ⟨hl, hw1⟩ <;> rcases e1 l' w' hw' with ⟨rfl, rfl⟩ | ⟨hl', hw1'⟩
    · exact hll rfl
    · exact hapv l' w' kk hl' hw1' hk' hk
    · exact hapv l w kk hl hw1 hk hk'
    · exact hap l l' w w' kk hl hl' hll hw1 hw1' hk hk'
  · rcases e1 l w hw with ⟨rfl, rfl⟩ | ⟨hl, hw⟩
    · exact hvb
    · exact hb l w hl hw
  · refine .inl ?_
    rcases hk with hk | ⟨l, w, hw, hk⟩
    · exact .inl hk
    · rcases e1 l w hw with ⟨rfl, rfl⟩ | ⟨hl, hw⟩
      · exact .inr (.inl hk)
      · exact .inr (.inr ⟨l, w, hl, hw, hk⟩)
  · rw [hs']
    rcases hk with hk | ⟨l, w, hw, hk⟩
    · exact (st.in_ i hp (.inl hk)).2
    · rcases e1 l w hw with ⟨rfl, rfl⟩ | ⟨hl, hw⟩
      · exact (st.in_ i hp (.inr (.inl hk))).2
      · exact (st.in_ i hp (.inr (.inr ⟨l, w, hl, hw, hk⟩))).2
/-- The first cell is written. -/
theorem stG0 {P : Program} {t : TypeId} {u : Value} {K : Heap → Prop} (st : StB B H0 H ps) (i : Nat) (ht : CellT P t) (hp : ps[i]? = some (pG te b w0 vs ss)) (h1 : u.oneCell' = true)
    (k : ∀ H', StB B H0 H' (ps.set i (pG te b u vs ss)) → K H') : VEffU P (Instr.storeAt t (.pointer (some ⟨b, 0, none⟩)) u) H K := by
  obtain ⟨hblk, hall, hap, hb⟩ := st.at_ i hp
  refine VC.st1 ht hblk (by simp only [List.length_cons]; omega) h1 ?_
  intro H' hb' ha' hs'
  rw [List.set_cons_zero] at hb'
  exact k H' (st.upd i hp (ha'.mono fun k hk hkb => hk.2 (.inl hkb)) (pG te b u vs ss) ⟨hb', fun l w hw => (ss l).fr ha' (fun k hk hkb => hb l w hw (hkb ▸ hk)) (hall l w hw), hap, hb⟩ (fun k hk => .inl hk) (fun k hk => by rw [hs']; exact (st.in_ i hp hk).2) (by omega))
end
end Go.VC
/- Facts on the types of the translation, written by a program. -/
set_option maxRecDepth 100000
namespace Go.Proofs.YthomdogheamfpaaDoor
open Go.VC
theorem ct1 : CellT Tryd.prog 1 := ⟨⟨_, rfl, rfl⟩, rfl⟩
theorem ct2 : CellT Tryd.prog 2 := ⟨⟨_, rfl, rfl⟩, rfl⟩
theorem ct3 : CellT Tryd.prog 3 := ⟨⟨_, rfl, rfl⟩, rfl⟩
theorem ct4 : CellT Tryd.prog 4 := ⟨⟨_, rfl, rfl⟩, rfl⟩
theorem ct5 : CellT Tryd.prog 5 := ⟨⟨_, rfl, rfl⟩, rfl⟩
theorem ct6 : CellT Tryd.prog 6 := ⟨⟨_, rfl, rfl⟩, rfl⟩
theorem ag7 : AggT Tryd.prog 7 4 := ⟨⟨_, rfl, rfl⟩, rfl⟩
theorem fl7_0 : FieldT Tryd.prog 7 0 0 2 1 := ⟨⟨_, _, rfl, rfl, rfl, rfl⟩, rfl, Nat.noConfusion⟩ -- x
theorem fl7_1 : FieldT Tryd.prog 7 1 1 3 1 := ⟨⟨_, _, rfl, rfl, rfl, rfl⟩, rfl, Nat.noConfusion⟩ -- y
theorem fl7_2 : FieldT Tryd.prog 7 2 2 4 1 := ⟨⟨_, _, rfl, rfl, rfl, rfl⟩, rfl, Nat.noConfusion⟩ -- signed
theorem fl7_3 : FieldT Tryd.prog 7 3 3 6 1 := ⟨⟨_, _, rfl, rfl, rfl, rfl⟩, rfl, Nat.noConfusion⟩ -- code
theorem ag8 : AggT Tryd.prog 8 4 := ⟨⟨_, rfl, rfl⟩, rfl⟩
theorem fl8_0 : FieldT Tryd.prog 8 0 0 2 1 := ⟨⟨_, _, rfl, rfl, rfl, rfl⟩, rfl, Nat.noConfusion⟩ -- x
theorem fl8_1 : FieldT Tryd.prog 8 1 1 3 1 := ⟨⟨_, _, rfl, rfl, rfl, rfl⟩, rfl, Nat.noConfusion⟩ -- y
theorem fl8_2 : FieldT Tryd.prog 8 2 2 4 1 := ⟨⟨_, _, rfl, rfl, rfl, rfl⟩, rfl, Nat.noConfusion⟩ -- signed
theorem fl8_3 : FieldT Tryd.prog 8 3 3 6 1 := ⟨⟨_, _, rfl, rfl, rfl, rfl⟩, rfl, Nat.noConfusion⟩ -- code
theorem ct9 : CellT Tryd.prog 9 := ⟨⟨_, rfl, rfl⟩, rfl⟩
theorem ct10 : CellT Tryd.prog 10 := ⟨⟨_, rfl, rfl⟩, rfl⟩
theorem ct11 : CellT Tryd.prog 11 := ⟨⟨_, rfl, rfl⟩, rfl⟩
theorem ct12 : CellT Tryd.prog 12 := ⟨⟨_, rfl, rfl⟩, rfl⟩
theorem ag13 : AggT Tryd.prog 13 2 := ⟨⟨_, rfl, rfl⟩, rfl⟩
theorem fl13_0 : FieldT Tryd.prog 13 0 0 9 1 := ⟨⟨_, _, rfl, rfl, rfl, rfl⟩, rfl, Nat.noConfusion⟩ -- msg
theorem fl13_1 : FieldT Tryd.prog 13 1 1 12 1 := ⟨⟨_, _, rfl, rfl, rfl, rfl⟩, rfl, Nat.noConfusion⟩ -- addr
theorem ag14 : AggT Tryd.prog 14 2 := ⟨⟨_, rfl, rfl⟩, rfl⟩
theorem fl14_0 : FieldT Tryd.prog 14 0 0 9 1 := ⟨⟨_, _, rfl, rfl, rfl, rfl⟩, rfl, Nat.noConfusion⟩ -- msg
theorem fl14_1 : FieldT Tryd.prog 14 1 1 12 1 := ⟨⟨_, _, rfl, rfl, rfl, rfl⟩, rfl, Nat.noConfusion⟩ -- addr
theorem ct15 : CellT Tryd.prog 15 := ⟨⟨_, rfl, rfl⟩, rfl⟩
theorem ct16 : CellT Tryd.prog 16 := ⟨⟨_, rfl, rfl⟩, rfl⟩
theorem ct17 : CellT Tryd.prog 17 := ⟨⟨_, rfl, rfl⟩, rfl⟩
theorem ag18 : AggT Tryd.prog 18 1 := ⟨⟨_, rfl, rfl⟩, rfl⟩
theorem fl18_0 : FieldT Tryd.prog 18 0 0 17 1 := ⟨⟨_, _, rfl, rfl, rfl, rfl⟩, rfl, Nat.noConfusion⟩ -- typ
theorem ag19 : AggT Tryd.prog 19 1 := ⟨⟨_, rfl, rfl⟩, rfl⟩
theorem fl19_0 : FieldT Tryd.prog 19 0 0 17 1 := ⟨⟨_, _, rfl, rfl, rfl, rfl⟩, rfl, Nat.noConfusion⟩ -- typ
theorem ct20 : CellT Tryd.prog 20 := ⟨⟨_, rfl, rfl⟩, rfl⟩
theorem ct21 : CellT Tryd.prog 21 := ⟨⟨_, rfl, rfl⟩, rfl⟩
theorem ct22 : CellT Tryd.prog 22 := ⟨⟨_, rfl, rfl⟩, rfl⟩
theorem sl22 : SlT Tryd.prog 22 70 4 32 (Tryd.t70.zero.getD undef) := ⟨rfl, ⟨_, rfl, rfl, rfl, rfl⟩, rfl⟩ -- [][4]uint64
theorem ct23 : CellT Tryd.prog 23 := ⟨⟨_, rfl, rfl⟩, rfl⟩
theorem sl23 : SlT Tryd.prog 23 33 1 24 (.slice none 0 0) := ⟨rfl, ⟨_, rfl, rfl, rfl, rfl⟩, rfl⟩ -- [][]int
theorem ct24 : CellT Tryd.prog 24 := ⟨⟨_, rfl, rfl⟩, rfl⟩
theorem sl24 : SlT Tryd.prog 24 4 1 1 (.bool false) := ⟨rfl, ⟨_, rfl, rfl, rfl, rfl⟩, rfl⟩ -- []bool
theorem ag25 : AggT Tryd.prog 25 3 := ⟨⟨_, rfl, rfl⟩, rfl⟩
theorem fl25_0 : FieldT Tryd.prog 25 0 0 22 1 := ⟨⟨_, _, rfl, rfl, rfl, rfl⟩, rfl, Nat.noConfusion⟩ -- Cells
theorem fl25_1 : FieldT Tryd.prog 25 1 1 23 1 := ⟨⟨_, _, rfl, rfl, rfl, rfl⟩, rfl, Nat.noConfusion⟩ -- Next
theorem fl25_2 : FieldT Tryd.prog 25 2 2 24 1 := ⟨⟨_, _, rfl, rfl, rfl, rfl⟩, rfl, Nat.noConfusion⟩ -- Final
theorem ag26 : AggT Tryd.prog 26 3 := ⟨⟨_, rfl, rfl⟩, rfl⟩
theorem fl26_0 : FieldT Tryd.prog 26 0 0 22 1 := ⟨⟨_, _, rfl, rfl, rfl, rfl⟩, rfl, Nat.noConfusion⟩ -- Cells
theorem fl26_1 : FieldT Tryd.prog 26 1 1 23 1 := ⟨⟨_, _, rfl, rfl, rfl, rfl⟩, rfl, Nat.noConfusion⟩ -- Next
theorem fl26_2 : FieldT Tryd.prog 26 2 2 24 1 := ⟨⟨_, _, rfl, rfl, rfl, rfl⟩, rfl, Nat.noConfusion⟩ -- Final
theorem ct27 : CellT Tryd.prog 27 := ⟨⟨_, rfl, rfl⟩, rfl⟩
theorem ct28 : CellT Tryd.prog 28 := ⟨⟨_, rfl, rfl⟩, rfl⟩
theorem ct29 : CellT Tryd.prog 29 := ⟨⟨_, rfl, rfl⟩, rfl⟩
theorem ct30 : CellT Tryd.prog 30 := ⟨⟨_, rfl, rfl⟩, rfl⟩
theorem ct31 : CellT Tryd.prog 31 := ⟨⟨_, rfl, rfl⟩, rfl⟩
theorem ar32 : ArrT Tryd.prog 32 256 3 1 := ⟨rfl, rfl⟩
theorem ag32 : AggT Tryd.prog 32 256 := ⟨⟨_, rfl, rfl⟩, rfl⟩
theorem ct33 : CellT Tryd.prog 33 := ⟨⟨_, rfl, rfl⟩, rfl⟩
theorem sl33 : SlT Tryd.prog 33 3 1 8 (.int .i64 0) := ⟨rfl, ⟨_, rfl, rfl, rfl, rfl⟩, rfl⟩ -- []int
theorem ag34 : AggT Tryd.prog 34 259 := ⟨⟨_, rfl, rfl⟩, rfl⟩
theorem fl34_0 : FieldT Tryd.prog 34 0 0 32 256 := ⟨⟨_, _, rfl, rfl, rfl, rfl⟩, rfl, Nat.noConfusion⟩ -- Cell
theorem fl34_1 : FieldT Tryd.prog 34 1 256 33 1 := ⟨⟨_, _, rfl, rfl, rfl, rfl⟩, rfl, Nat.noConfusion⟩ -- Reps
theorem fl34_2 : FieldT Tryd.prog 34 2 257 23 1 := ⟨⟨_, _, rfl, rfl, rfl, rfl⟩, rfl, Nat.noConfusion⟩ -- Next
theorem fl34_3 : FieldT Tryd.prog 34 3 258 24 1 := ⟨⟨_, _, rfl, rfl, rfl, rfl⟩, rfl, Nat.noConfusion⟩ -- Final
theorem ag35 : AggT Tryd.prog 35 259 := ⟨⟨_, rfl, rfl⟩, rfl⟩
theorem fl35_0 : FieldT Tryd.prog 35 0 0 32 256 := ⟨⟨_, _, rfl, rfl, rfl, rfl⟩, rfl, Nat.noConfusion⟩ -- Cell
theorem fl35_1 : FieldT Tryd.prog 35 1 256 33 1 := ⟨⟨_, _, rfl, rfl, rfl, rfl⟩, rfl, Nat.noConfusion⟩ -- Reps
theorem fl35_2 : FieldT Tryd.prog 35 2 257 23 1 := ⟨⟨_, _, rfl, rfl, rfl, rfl⟩, rfl, Nat.noConfusion⟩ -- Next
theorem fl35_3 : FieldT Tryd.prog 35 3 258 24 1 := ⟨⟨_, _, rfl, rfl, rfl, rfl⟩, rfl, Nat.noConfusion⟩ -- Final
theorem ct36 : CellT Tryd.prog 36 := ⟨⟨_, rfl, rfl⟩, rfl⟩
theorem ct37 : CellT Tryd.prog 37 := ⟨⟨_, rfl, rfl⟩, rfl⟩
theorem ct38 : CellT Tryd.prog 38 := ⟨⟨_, rfl, rfl⟩, rfl⟩
theorem ct39 : CellT Tryd.prog 39 := ⟨⟨_, rfl, rfl⟩, rfl⟩
theorem ct40 : CellT Tryd.prog 40 := ⟨⟨_, rfl, rfl⟩, rfl⟩
theorem ct42 : CellT Tryd.prog 42 := ⟨⟨_, rfl, rfl⟩, rfl⟩
theorem ct43 : CellT Tryd.prog 43 := ⟨⟨_, rfl, rfl⟩, rfl⟩
theorem ct44 : CellT Tryd.prog 44 := ⟨⟨_, rfl, rfl⟩, rfl⟩
theorem ct45 : CellT Tryd.prog 45 := ⟨⟨_, rfl, rfl⟩, rfl⟩
theorem ct46 : CellT Tryd.prog 46 := ⟨⟨_, rfl, rfl⟩, rfl⟩
theorem ct47 : CellT Tryd.prog 47 := ⟨⟨_, rfl, rfl⟩, rfl⟩
theorem ct48 : CellT Tryd.prog 48 := ⟨⟨_, rfl, rfl⟩, rfl⟩
theorem ct49 : CellT Tryd.prog 49 := ⟨⟨_, rfl, rfl⟩, rfl⟩
theorem ct50 : CellT Tryd.prog 50 := ⟨⟨_, rfl, rfl⟩, rfl⟩
theorem ct51 : CellT Tryd.prog 51 := ⟨⟨_, rfl, rfl⟩, rfl⟩
theorem ct52 : CellT Tryd.prog 52 := ⟨⟨_, rfl, rfl⟩, rfl⟩
theorem ct53 : CellT Tryd.prog 53 := ⟨⟨_, rfl, rfl⟩, rfl⟩
theorem sl53 : SlT Tryd.prog 53 72 7 56 (Tryd.t72.zero.getD undef) := ⟨rfl, ⟨_, rfl, rfl, rfl, rfl⟩, rfl⟩ -- []loupelaw05.Way
theorem ag54 : AggT Tryd.prog 54 4 := ⟨⟨_, rfl, rfl⟩, rfl⟩
theorem fl54_0 : FieldT Tryd.prog 54 0 0 3 1 := ⟨⟨_, _, rfl, rfl, rfl, rfl⟩, rfl, Nat.noConfusion⟩ -- States
theorem fl54_1 : FieldT Tryd.prog 54 1 1 3 1 := ⟨⟨_, _, rfl, rfl, rfl, rfl⟩, rfl, Nat.noConfusion⟩ -- Start
theorem fl54_2 : FieldT Tryd.prog 54 2 2 3 1 := ⟨⟨_, _, rfl, rfl, rfl, rfl⟩, rfl, Nat.noConfusion⟩ -- End
theorem fl54_3 : FieldT Tryd.prog 54 3 3 53 1 := ⟨⟨_, _, rfl, rfl, rfl, rfl⟩, rfl, Nat.noConfusion⟩ -- Ways
theorem ag55 : AggT Tryd.prog 55 4 := ⟨⟨_, rfl, rfl⟩, rfl⟩
theorem fl55_0 : FieldT Tryd.prog 55 0 0 3 1 := ⟨⟨_, _, rfl, rfl, rfl, rfl⟩, rfl, Nat.noConfusion⟩ -- States
theorem fl55_1 : FieldT Tryd.prog 55 1 1 3 1 := ⟨⟨_, _, rfl, rfl, rfl, rfl⟩, rfl, Nat.noConfusion⟩ -- Start
theorem fl55_2 : FieldT Tryd.prog 55 2 2 3 1 := ⟨⟨_, _, rfl, rfl, rfl, rfl⟩, rfl, Nat.noConfusion⟩ -- End
theorem fl55_3 : FieldT Tryd.prog 55 3 3 53 1 := ⟨⟨_, _, rfl, rfl, rfl, rfl⟩, rfl, Nat.noConfusion⟩ -- Ways
theorem ct56 : CellT Tryd.prog 56 := ⟨⟨_, rfl, rfl⟩, rfl⟩
theorem sl56 : SlT Tryd.prog 56 75 7 56 (Tryd.t75.zero.getD undef) := ⟨rfl, ⟨_, rfl, rfl, rfl, rfl⟩, rfl⟩ -- []nfa.Edge
theorem ag57 : AggT Tryd.prog 57 4 := ⟨⟨_, rfl, rfl⟩, rfl⟩
theorem fl57_0 : FieldT Tryd.prog 57 0 0 3 1 := ⟨⟨_, _, rfl, rfl, rfl, rfl⟩, rfl, Nat.noConfusion⟩ -- States
theorem fl57_1 : FieldT Tryd.prog 57 1 1 3 1 := ⟨⟨_, _, rfl, rfl, rfl, rfl⟩, rfl, Nat.noConfusion⟩ -- Start
theorem fl57_2 : FieldT Tryd.prog 57 2 2 3 1 := ⟨⟨_, _, rfl, rfl, rfl, rfl⟩, rfl, Nat.noConfusion⟩ -- End
theorem fl57_3 : FieldT Tryd.prog 57 3 3 56 1 := ⟨⟨_, _, rfl, rfl, rfl, rfl⟩, rfl, Nat.noConfusion⟩ -- Edges
theorem ag58 : AggT Tryd.prog 58 4 := ⟨⟨_, rfl, rfl⟩, rfl⟩
theorem fl58_0 : FieldT Tryd.prog 58 0 0 3 1 := ⟨⟨_, _, rfl, rfl, rfl, rfl⟩, rfl, Nat.noConfusion⟩ -- States
theorem fl58_1 : FieldT Tryd.prog 58 1 1 3 1 := ⟨⟨_, _, rfl, rfl, rfl, rfl⟩, rfl, Nat.noConfusion⟩ -- Start
theorem fl58_2 : FieldT Tryd.prog 58 2 2 3 1 := ⟨⟨_, _, rfl, rfl, rfl, rfl⟩, rfl, Nat.noConfusion⟩ -- End
theorem fl58_3 : FieldT Tryd.prog 58 3 3 56 1 := ⟨⟨_, _, rfl, rfl, rfl, rfl⟩, rfl, Nat.noConfusion⟩ -- Edges
theorem ct59 : CellT Tryd.prog 59 := ⟨⟨_, rfl, rfl⟩, rfl⟩
theorem ct60 : CellT Tryd.prog 60 := ⟨⟨_, rfl, rfl⟩, rfl⟩
theorem ct62 : CellT Tryd.prog 62 := ⟨⟨_, rfl, rfl⟩, rfl⟩
theorem ct64 : CellT Tryd.prog 64 := ⟨⟨_, rfl, rfl⟩, rfl⟩
theorem ct65 : CellT Tryd.prog 65 := ⟨⟨_, rfl, rfl⟩, rfl⟩
theorem sl65 : SlT Tryd.prog 65 143 259 280 (Tryd.t143.zero.getD undef) := ⟨rfl, ⟨_, rfl, rfl, rfl, rfl⟩, rfl⟩ -- []louperef04.Edge
theorem ag66 : AggT Tryd.prog 66 4 := ⟨⟨_, rfl, rfl⟩, rfl⟩
theorem fl66_0 : FieldT Tryd.prog 66 0 0 3 1 := ⟨⟨_, _, rfl, rfl, rfl, rfl⟩, rfl, Nat.noConfusion⟩ -- States
theorem fl66_1 : FieldT Tryd.prog 66 1 1 3 1 := ⟨⟨_, _, rfl, rfl, rfl, rfl⟩, rfl, Nat.noConfusion⟩ -- Start
theorem fl66_2 : FieldT Tryd.prog 66 2 2 3 1 := ⟨⟨_, _, rfl, rfl, rfl, rfl⟩, rfl, Nat.noConfusion⟩ -- End
theorem fl66_3 : FieldT Tryd.prog 66 3 3 65 1 := ⟨⟨_, _, rfl, rfl, rfl, rfl⟩, rfl, Nat.noConfusion⟩ -- Edges
theorem ag67 : AggT Tryd.prog 67 4 := ⟨⟨_, rfl, rfl⟩, rfl⟩
theorem fl67_0 : FieldT Tryd.prog 67 0 0 3 1 := ⟨⟨_, _, rfl, rfl, rfl, rfl⟩, rfl, Nat.noConfusion⟩ -- States
theorem fl67_1 : FieldT Tryd.prog 67 1 1 3 1 := ⟨⟨_, _, rfl, rfl, rfl, rfl⟩, rfl, Nat.noConfusion⟩ -- Start
theorem fl67_2 : FieldT Tryd.prog 67 2 2 3 1 := ⟨⟨_, _, rfl, rfl, rfl, rfl⟩, rfl, Nat.noConfusion⟩ -- End
theorem fl67_3 : FieldT Tryd.prog 67 3 3 65 1 := ⟨⟨_, _, rfl, rfl, rfl, rfl⟩, rfl, Nat.noConfusion⟩ -- Edges
theorem ct68 : CellT Tryd.prog 68 := ⟨⟨_, rfl, rfl⟩, rfl⟩
theorem ct69 : CellT Tryd.prog 69 := ⟨⟨_, rfl, rfl⟩, rfl⟩
theorem ar70 : ArrT Tryd.prog 70 4 69 1 := ⟨rfl, rfl⟩
theorem ag70 : AggT Tryd.prog 70 4 := ⟨⟨_, rfl, rfl⟩, rfl⟩
theorem ag71 : AggT Tryd.prog 71 7 := ⟨⟨_, rfl, rfl⟩, rfl⟩
theorem fl71_0 : FieldT Tryd.prog 71 0 0 3 1 := ⟨⟨_, _, rfl, rfl, rfl, rfl⟩, rfl, Nat.noConfusion⟩ -- From
theorem fl71_1 : FieldT Tryd.prog 71 1 1 3 1 := ⟨⟨_, _, rfl, rfl, rfl, rfl⟩, rfl, Nat.noConfusion⟩ -- To
theorem fl71_2 : FieldT Tryd.prog 71 2 2 4 1 := ⟨⟨_, _, rfl, rfl, rfl, rfl⟩, rfl, Nat.noConfusion⟩ -- Silent
theorem fl71_3 : FieldT Tryd.prog 71 3 3 70 4 := ⟨⟨_, _, rfl, rfl, rfl, rfl⟩, rfl, Nat.noConfusion⟩ -- Set
theorem ag72 : AggT Tryd.prog 72 7 := ⟨⟨_, rfl, rfl⟩, rfl⟩
theorem fl72_0 : FieldT Tryd.prog 72 0 0 3 1 := ⟨⟨_, _, rfl, rfl, rfl, rfl⟩, rfl, Nat.noConfusion⟩ -- From
theorem fl72_1 : FieldT Tryd.prog 72 1 1 3 1 := ⟨⟨_, _, rfl, rfl, rfl, rfl⟩, rfl, Nat.noConfusion⟩ -- To
theorem fl72_2 : FieldT Tryd.prog 72 2 2 4 1 := ⟨⟨_, _, rfl, rfl, rfl, rfl⟩, rfl, Nat.noConfusion⟩ -- Silent
theorem fl72_3 : FieldT Tryd.prog 72 3 3 70 4 := ⟨⟨_, _, rfl, rfl, rfl, rfl⟩, rfl, Nat.noConfusion⟩ -- Set
theorem ar73 : ArrT Tryd.prog 73 4 69 1 := ⟨rfl, rfl⟩
theorem ag73 : AggT Tryd.prog 73 4 := ⟨⟨_, rfl, rfl⟩, rfl⟩
theorem ag74 : AggT Tryd.prog 74 7 := ⟨⟨_, rfl, rfl⟩, rfl⟩
theorem fl74_0 : FieldT Tryd.prog 74 0 0 3 1 := ⟨⟨_, _, rfl, rfl, rfl, rfl⟩, rfl, Nat.noConfusion⟩ -- From
theorem fl74_1 : FieldT Tryd.prog 74 1 1 3 1 := ⟨⟨_, _, rfl, rfl, rfl, rfl⟩, rfl, Nat.noConfusion⟩ -- To
theorem fl74_2 : FieldT Tryd.prog 74 2 2 4 1 := ⟨⟨_, _, rfl, rfl, rfl, rfl⟩, rfl, Nat.noConfusion⟩ -- Silent
theorem fl74_3 : FieldT Tryd.prog 74 3 3 73 4 := ⟨⟨_, _, rfl, rfl, rfl, rfl⟩, rfl, Nat.noConfusion⟩ -- Set
theorem ag75 : AggT Tryd.prog 75 7 := ⟨⟨_, rfl, rfl⟩, rfl⟩
theorem fl75_0 : FieldT Tryd.prog 75 0 0 3 1 := ⟨⟨_, _, rfl, rfl, rfl, rfl⟩, rfl, Nat.noConfusion⟩ -- From
theorem fl75_1 : FieldT Tryd.prog 75 1 1 3 1 := ⟨⟨_, _, rfl, rfl, rfl, rfl⟩, rfl, Nat.noConfusion⟩ -- To
theorem fl75_2 : FieldT Tryd.prog 75 2 2 4 1 := ⟨⟨_, _, rfl, rfl, rfl, rfl⟩, rfl, Nat.noConfusion⟩ -- Silent
theorem fl75_3 : FieldT Tryd.prog 75 3 3 73 4 := ⟨⟨_, _, rfl, rfl, rfl, rfl⟩, rfl, Nat.noConfusion⟩ -- Set
theorem ct76 : CellT Tryd.prog 76 := ⟨⟨_, rfl, rfl⟩, rfl⟩
theorem ct77 : CellT Tryd.prog 77 := ⟨⟨_, rfl, rfl⟩, rfl⟩
theorem ct78 : CellT Tryd.prog 78 := ⟨⟨_, rfl, rfl⟩, rfl⟩
theorem ct79 : CellT Tryd.prog 79 := ⟨⟨_, rfl, rfl⟩, rfl⟩
theorem ct80 : CellT Tryd.prog 80 := ⟨⟨_, rfl, rfl⟩, rfl⟩
theorem ct81 : CellT Tryd.prog 81 := ⟨⟨_, rfl, rfl⟩, rfl⟩
theorem ct82 : CellT Tryd.prog 82 := ⟨⟨_, rfl, rfl⟩, rfl⟩
theorem ct83 : CellT Tryd.prog 83 := ⟨⟨_, rfl, rfl⟩, rfl⟩
theorem sl83 : SlT Tryd.prog 83 73 4 32 (Tryd.t73.zero.getD undef) := ⟨rfl, ⟨_, rfl, rfl, rfl, rfl⟩, rfl⟩ -- []class.Set
theorem ct84 : CellT Tryd.prog 84 := ⟨⟨_, rfl, rfl⟩, rfl⟩
theorem ct85 : CellT Tryd.prog 85 := ⟨⟨_, rfl, rfl⟩, rfl⟩
theorem sl85 : SlT Tryd.prog 85 5 1 1 (.int .u8 0) := ⟨rfl, ⟨_, rfl, rfl, rfl, rfl⟩, rfl⟩ -- []uint8
theorem ct86 : CellT Tryd.prog 86 := ⟨⟨_, rfl, rfl⟩, rfl⟩
theorem ct87 : CellT Tryd.prog 87 := ⟨⟨_, rfl, rfl⟩, rfl⟩
theorem ct88 : CellT Tryd.prog 88 := ⟨⟨_, rfl, rfl⟩, rfl⟩
theorem mp88 : Tryd.prog.underlying 88 = some (.map 3 3) := rfl -- map[int]int
theorem ct90 : CellT Tryd.prog 90 := ⟨⟨_, rfl, rfl⟩, rfl⟩
theorem ct91 : CellT Tryd.prog 91 := ⟨⟨_, rfl, rfl⟩, rfl⟩
theorem ct92 : CellT Tryd.prog 92 := ⟨⟨_, rfl, rfl⟩, rfl⟩
theorem ct93 : CellT Tryd.prog 93 := ⟨⟨_, rfl, rfl⟩, rfl⟩
theorem ct94 : CellT Tryd.prog 94 := ⟨⟨_, rfl, rfl⟩, rfl⟩
theorem ct95 : CellT Tryd.prog 95 := ⟨⟨_, rfl, rfl⟩, rfl⟩
theorem ct96 : CellT Tryd.prog 96 := ⟨⟨_, rfl, rfl⟩, rfl⟩
theorem sl96 : SlT Tryd.prog 96 112 256 256 (Tryd.t112.zero.getD undef) := ⟨rfl, ⟨_, rfl, rfl, rfl, rfl⟩, rfl⟩ -- []louperef01.Set
theorem ct97 : CellT Tryd.prog 97 := ⟨⟨_, rfl, rfl⟩, rfl⟩
theorem ct98 : CellT Tryd.prog 98 := ⟨⟨_, rfl, rfl⟩, rfl⟩
theorem sl98 : SlT Tryd.prog 98 9 1 16 (Tryd.t9.zero.getD undef) := ⟨rfl, ⟨_, rfl, rfl, rfl, rfl⟩, rfl⟩ -- []string
theorem ct99 : CellT Tryd.prog 99 := ⟨⟨_, rfl, rfl⟩, rfl⟩
theorem ct100 : CellT Tryd.prog 100 := ⟨⟨_, rfl, rfl⟩, rfl⟩
theorem ag101 : AggT Tryd.prog 101 2 := ⟨⟨_, rfl, rfl⟩, rfl⟩
theorem fl101_0 : FieldT Tryd.prog 101 0 0 100 1 := ⟨⟨_, _, rfl, rfl, rfl, rfl⟩, rfl, Nat.noConfusion⟩ -- addr
theorem fl101_1 : FieldT Tryd.prog 101 1 1 85 1 := ⟨⟨_, _, rfl, rfl, rfl, rfl⟩, rfl, Nat.noConfusion⟩ -- buf
theorem ag102 : AggT Tryd.prog 102 2 := ⟨⟨_, rfl, rfl⟩, rfl⟩
theorem fl102_0 : FieldT Tryd.prog 102 0 0 100 1 := ⟨⟨_, _, rfl, rfl, rfl, rfl⟩, rfl, Nat.noConfusion⟩ -- addr
theorem fl102_1 : FieldT Tryd.prog 102 1 1 85 1 := ⟨⟨_, _, rfl, rfl, rfl, rfl⟩, rfl, Nat.noConfusion⟩ -- buf
theorem ct103 : CellT Tryd.prog 103 := ⟨⟨_, rfl, rfl⟩, rfl⟩
theorem ct104 : CellT Tryd.prog 104 := ⟨⟨_, rfl, rfl⟩, rfl⟩
theorem ct106 : CellT Tryd.prog 106 := ⟨⟨_, rfl, rfl⟩, rfl⟩
theorem ct107 : CellT Tryd.prog 107 := ⟨⟨_, rfl, rfl⟩, rfl⟩
theorem ct108 : CellT Tryd.prog 108 := ⟨⟨_, rfl, rfl⟩, rfl⟩
theorem ct109 : CellT Tryd.prog 109 := ⟨⟨_, rfl, rfl⟩, rfl⟩
theorem ct110 : CellT Tryd.prog 110 := ⟨⟨_, rfl, rfl⟩, rfl⟩
theorem ar111 : ArrT Tryd.prog 111 256 4 1 := ⟨rfl, rfl⟩
theorem ag111 : AggT Tryd.prog 111 256 := ⟨⟨_, rfl, rfl⟩, rfl⟩
theorem ar112 : ArrT Tryd.prog 112 256 4 1 := ⟨rfl, rfl⟩
theorem ag112 : AggT Tryd.prog 112 256 := ⟨⟨_, rfl, rfl⟩, rfl⟩
theorem ct113 : CellT Tryd.prog 113 := ⟨⟨_, rfl, rfl⟩, rfl⟩
theorem ct114 : CellT Tryd.prog 114 := ⟨⟨_, rfl, rfl⟩, rfl⟩
theorem ct115 : CellT Tryd.prog 115 := ⟨⟨_, rfl, rfl⟩, rfl⟩
theorem ct116 : CellT Tryd.prog 116 := ⟨⟨_, rfl, rfl⟩, rfl⟩
theorem ct117 : CellT Tryd.prog 117 := ⟨⟨_, rfl, rfl⟩, rfl⟩
theorem ct118 : CellT Tryd.prog 118 := ⟨⟨_, rfl, rfl⟩, rfl⟩
theorem sl118 : SlT Tryd.prog 118 124 2 16 (Tryd.t124.zero.getD undef) := ⟨rfl, ⟨_, rfl, rfl, rfl, rfl⟩, rfl⟩ -- [][2]int
theorem ar119 : ArrT Tryd.prog 119 1024 33 1 := ⟨rfl, rfl⟩
theorem ag119 : AggT Tryd.prog 119 1024 := ⟨⟨_, rfl, rfl⟩, rfl⟩
theorem ag120 : AggT Tryd.prog 120 1026 := ⟨⟨_, rfl, rfl⟩, rfl⟩
theorem fl120_0 : FieldT Tryd.prog 120 0 0 118 1 := ⟨⟨_, _, rfl, rfl, rfl, rfl⟩, rfl, Nat.noConfusion⟩ -- list
theorem fl120_1 : FieldT Tryd.prog 120 1 1 98 1 := ⟨⟨_, _, rfl, rfl, rfl, rfl⟩, rfl, Nat.noConfusion⟩ -- words
theorem fl120_2 : FieldT Tryd.prog 120 2 2 119 1024 := ⟨⟨_, _, rfl, rfl, rfl, rfl⟩, rfl, Nat.noConfusion⟩ -- bucket
theorem ag121 : AggT Tryd.prog 121 1026 := ⟨⟨_, rfl, rfl⟩, rfl⟩
theorem fl121_0 : FieldT Tryd.prog 121 0 0 118 1 := ⟨⟨_, _, rfl, rfl, rfl, rfl⟩, rfl, Nat.noConfusion⟩ -- list
theorem fl121_1 : FieldT Tryd.prog 121 1 1 98 1 := ⟨⟨_, _, rfl, rfl, rfl, rfl⟩, rfl, Nat.noConfusion⟩ -- words
theorem fl121_2 : FieldT Tryd.prog 121 2 2 119 1024 := ⟨⟨_, _, rfl, rfl, rfl, rfl⟩, rfl, Nat.noConfusion⟩ -- bucket
theorem ct122 : CellT Tryd.prog 122 := ⟨⟨_, rfl, rfl⟩, rfl⟩
theorem ct123 : CellT Tryd.prog 123 := ⟨⟨_, rfl, rfl⟩, rfl⟩
theorem ar124 : ArrT Tryd.prog 124 2 3 1 := ⟨rfl, rfl⟩
theorem ag124 : AggT Tryd.prog 124 2 := ⟨⟨_, rfl, rfl⟩, rfl⟩
theorem ar125 : ArrT Tryd.prog 125 256 5 1 := ⟨rfl, rfl⟩
theorem ag125 : AggT Tryd.prog 125 256 := ⟨⟨_, rfl, rfl⟩, rfl⟩
theorem ag126 : AggT Tryd.prog 126 260 := ⟨⟨_, rfl, rfl⟩, rfl⟩
theorem fl126_0 : FieldT Tryd.prog 126 0 0 83 1 := ⟨⟨_, _, rfl, rfl, rfl, rfl⟩, rfl, Nat.noConfusion⟩ -- cells
theorem fl126_1 : FieldT Tryd.prog 126 1 1 125 256 := ⟨⟨_, _, rfl, rfl, rfl, rfl⟩, rfl, Nat.noConfusion⟩ -- cell
theorem fl126_2 : FieldT Tryd.prog 126 2 257 23 1 := ⟨⟨_, _, rfl, rfl, rfl, rfl⟩, rfl, Nat.noConfusion⟩ -- next
theorem fl126_3 : FieldT Tryd.prog 126 3 258 24 1 := ⟨⟨_, _, rfl, rfl, rfl, rfl⟩, rfl, Nat.noConfusion⟩ -- final
theorem fl126_4 : FieldT Tryd.prog 126 4 259 24 1 := ⟨⟨_, _, rfl, rfl, rfl, rfl⟩, rfl, Nat.noConfusion⟩ -- alive
theorem ag127 : AggT Tryd.prog 127 260 := ⟨⟨_, rfl, rfl⟩, rfl⟩
theorem fl127_0 : FieldT Tryd.prog 127 0 0 83 1 := ⟨⟨_, _, rfl, rfl, rfl, rfl⟩, rfl, Nat.noConfusion⟩ -- cells
theorem fl127_1 : FieldT Tryd.prog 127 1 1 125 256 := ⟨⟨_, _, rfl, rfl, rfl, rfl⟩, rfl, Nat.noConfusion⟩ -- cell
theorem fl127_2 : FieldT Tryd.prog 127 2 257 23 1 := ⟨⟨_, _, rfl, rfl, rfl, rfl⟩, rfl, Nat.noConfusion⟩ -- next
theorem fl127_3 : FieldT Tryd.prog 127 3 258 24 1 := ⟨⟨_, _, rfl, rfl, rfl, rfl⟩, rfl, Nat.noConfusion⟩ -- final
theorem fl127_4 : FieldT Tryd.prog 127 4 259 24 1 := ⟨⟨_, _, rfl, rfl, rfl, rfl⟩, rfl, Nat.noConfusion⟩ -- alive
theorem ct128 : CellT Tryd.prog 128 := ⟨⟨_, rfl, rfl⟩, rfl⟩
theorem ct129 : CellT Tryd.prog 129 := ⟨⟨_, rfl, rfl⟩, rfl⟩
theorem ct130 : CellT Tryd.prog 130 := ⟨⟨_, rfl, rfl⟩, rfl⟩
theorem sl130 : SlT Tryd.prog 130 56 1 24 (.slice none 0 0) := ⟨rfl, ⟨_, rfl, rfl, rfl, rfl⟩, rfl⟩ -- [][]nfa.Edge
theorem ag131 : AggT Tryd.prog 131 3 := ⟨⟨_, rfl, rfl⟩, rfl⟩
theorem fl131_0 : FieldT Tryd.prog 131 0 0 23 1 := ⟨⟨_, _, rfl, rfl, rfl, rfl⟩, rfl, Nat.noConfusion⟩ -- silent
theorem fl131_1 : FieldT Tryd.prog 131 1 1 130 1 := ⟨⟨_, _, rfl, rfl, rfl, rfl⟩, rfl, Nat.noConfusion⟩ -- taking
theorem fl131_2 : FieldT Tryd.prog 131 2 2 3 1 := ⟨⟨_, _, rfl, rfl, rfl, rfl⟩, rfl, Nat.noConfusion⟩ -- states
theorem ag132 : AggT Tryd.prog 132 3 := ⟨⟨_, rfl, rfl⟩, rfl⟩
theorem fl132_0 : FieldT Tryd.prog 132 0 0 23 1 := ⟨⟨_, _, rfl, rfl, rfl, rfl⟩, rfl, Nat.noConfusion⟩ -- silent
theorem fl132_1 : FieldT Tryd.prog 132 1 1 130 1 := ⟨⟨_, _, rfl, rfl, rfl, rfl⟩, rfl, Nat.noConfusion⟩ -- taking
theorem fl132_2 : FieldT Tryd.prog 132 2 2 3 1 := ⟨⟨_, _, rfl, rfl, rfl, rfl⟩, rfl, Nat.noConfusion⟩ -- states
theorem ct133 : CellT Tryd.prog 133 := ⟨⟨_, rfl, rfl⟩, rfl⟩
theorem ct134 : CellT Tryd.prog 134 := ⟨⟨_, rfl, rfl⟩, rfl⟩
theorem ct135 : CellT Tryd.prog 135 := ⟨⟨_, rfl, rfl⟩, rfl⟩
theorem ct136 : CellT Tryd.prog 136 := ⟨⟨_, rfl, rfl⟩, rfl⟩
theorem ct137 : CellT Tryd.prog 137 := ⟨⟨_, rfl, rfl⟩, rfl⟩
theorem ct138 : CellT Tryd.prog 138 := ⟨⟨_, rfl, rfl⟩, rfl⟩
theorem ct140 : CellT Tryd.prog 140 := ⟨⟨_, rfl, rfl⟩, rfl⟩
theorem ct141 : CellT Tryd.prog 141 := ⟨⟨_, rfl, rfl⟩, rfl⟩
theorem ag142 : AggT Tryd.prog 142 259 := ⟨⟨_, rfl, rfl⟩, rfl⟩
theorem fl142_0 : FieldT Tryd.prog 142 0 0 3 1 := ⟨⟨_, _, rfl, rfl, rfl, rfl⟩, rfl, Nat.noConfusion⟩ -- From
theorem fl142_1 : FieldT Tryd.prog 142 1 1 3 1 := ⟨⟨_, _, rfl, rfl, rfl, rfl⟩, rfl, Nat.noConfusion⟩ -- To
theorem fl142_2 : FieldT Tryd.prog 142 2 2 4 1 := ⟨⟨_, _, rfl, rfl, rfl, rfl⟩, rfl, Nat.noConfusion⟩ -- Silent
theorem fl142_3 : FieldT Tryd.prog 142 3 3 112 256 := ⟨⟨_, _, rfl, rfl, rfl, rfl⟩, rfl, Nat.noConfusion⟩ -- Set
theorem ag143 : AggT Tryd.prog 143 259 := ⟨⟨_, rfl, rfl⟩, rfl⟩
theorem fl143_0 : FieldT Tryd.prog 143 0 0 3 1 := ⟨⟨_, _, rfl, rfl, rfl, rfl⟩, rfl, Nat.noConfusion⟩ -- From
theorem fl143_1 : FieldT Tryd.prog 143 1 1 3 1 := ⟨⟨_, _, rfl, rfl, rfl, rfl⟩, rfl, Nat.noConfusion⟩ -- To
theorem fl143_2 : FieldT Tryd.prog 143 2 2 4 1 := ⟨⟨_, _, rfl, rfl, rfl, rfl⟩, rfl, Nat.noConfusion⟩ -- Silent
theorem fl143_3 : FieldT Tryd.prog 143 3 3 112 256 := ⟨⟨_, _, rfl, rfl, rfl, rfl⟩, rfl, Nat.noConfusion⟩ -- Set
theorem ct144 : CellT Tryd.prog 144 := ⟨⟨_, rfl, rfl⟩, rfl⟩
theorem ct145 : CellT Tryd.prog 145 := ⟨⟨_, rfl, rfl⟩, rfl⟩
theorem ct146 : CellT Tryd.prog 146 := ⟨⟨_, rfl, rfl⟩, rfl⟩
theorem ag147 : AggT Tryd.prog 147 1025 := ⟨⟨_, rfl, rfl⟩, rfl⟩
theorem fl147_0 : FieldT Tryd.prog 147 0 0 23 1 := ⟨⟨_, _, rfl, rfl, rfl, rfl⟩, rfl, Nat.noConfusion⟩ -- sets
theorem fl147_1 : FieldT Tryd.prog 147 1 1 119 1024 := ⟨⟨_, _, rfl, rfl, rfl, rfl⟩, rfl, Nat.noConfusion⟩ -- bucket
theorem ag148 : AggT Tryd.prog 148 1025 := ⟨⟨_, rfl, rfl⟩, rfl⟩
theorem fl148_0 : FieldT Tryd.prog 148 0 0 23 1 := ⟨⟨_, _, rfl, rfl, rfl, rfl⟩, rfl, Nat.noConfusion⟩ -- sets
theorem fl148_1 : FieldT Tryd.prog 148 1 1 119 1024 := ⟨⟨_, _, rfl, rfl, rfl, rfl⟩, rfl, Nat.noConfusion⟩ -- bucket
theorem ct149 : CellT Tryd.prog 149 := ⟨⟨_, rfl, rfl⟩, rfl⟩
theorem sl149 : SlT Tryd.prog 149 65 1 24 (.slice none 0 0) := ⟨rfl, ⟨_, rfl, rfl, rfl, rfl⟩, rfl⟩ -- [][]louperef04.Edge
theorem ag150 : AggT Tryd.prog 150 3 := ⟨⟨_, rfl, rfl⟩, rfl⟩
theorem fl150_0 : FieldT Tryd.prog 150 0 0 3 1 := ⟨⟨_, _, rfl, rfl, rfl, rfl⟩, rfl, Nat.noConfusion⟩ -- n
theorem fl150_1 : FieldT Tryd.prog 150 1 1 149 1 := ⟨⟨_, _, rfl, rfl, rfl, rfl⟩, rfl, Nat.noConfusion⟩ -- out
theorem fl150_2 : FieldT Tryd.prog 150 2 2 24 1 := ⟨⟨_, _, rfl, rfl, rfl, rfl⟩, rfl, Nat.noConfusion⟩ -- mark
theorem ag151 : AggT Tryd.prog 151 3 := ⟨⟨_, rfl, rfl⟩, rfl⟩
theorem fl151_0 : FieldT Tryd.prog 151 0 0 3 1 := ⟨⟨_, _, rfl, rfl, rfl, rfl⟩, rfl, Nat.noConfusion⟩ -- n
theorem fl151_1 : FieldT Tryd.prog 151 1 1 149 1 := ⟨⟨_, _, rfl, rfl, rfl, rfl⟩, rfl, Nat.noConfusion⟩ -- out
theorem fl151_2 : FieldT Tryd.prog 151 2 2 24 1 := ⟨⟨_, _, rfl, rfl, rfl, rfl⟩, rfl, Nat.noConfusion⟩ -- mark
theorem ct152 : CellT Tryd.prog 152 := ⟨⟨_, rfl, rfl⟩, rfl⟩
theorem ct153 : CellT Tryd.prog 153 := ⟨⟨_, rfl, rfl⟩, rfl⟩
theorem ct154 : CellT Tryd.prog 154 := ⟨⟨_, rfl, rfl⟩, rfl⟩
theorem ct155 : CellT Tryd.prog 155 := ⟨⟨_, rfl, rfl⟩, rfl⟩
theorem mp155 : Tryd.prog.underlying 155 = some (.map 3 56) := rfl -- map[int][]nfa.Edge
theorem ct156 : CellT Tryd.prog 156 := ⟨⟨_, rfl, rfl⟩, rfl⟩
theorem ct157 : CellT Tryd.prog 157 := ⟨⟨_, rfl, rfl⟩, rfl⟩
theorem ct158 : CellT Tryd.prog 158 := ⟨⟨_, rfl, rfl⟩, rfl⟩
theorem ct159 : CellT Tryd.prog 159 := ⟨⟨_, rfl, rfl⟩, rfl⟩
theorem ct160 : CellT Tryd.prog 160 := ⟨⟨_, rfl, rfl⟩, rfl⟩
theorem ct161 : CellT Tryd.prog 161 := ⟨⟨_, rfl, rfl⟩, rfl⟩
theorem ct162 : CellT Tryd.prog 162 := ⟨⟨_, rfl, rfl⟩, rfl⟩
theorem ct163 : CellT Tryd.prog 163 := ⟨⟨_, rfl, rfl⟩, rfl⟩
theorem ct165 : CellT Tryd.prog 165 := ⟨⟨_, rfl, rfl⟩, rfl⟩
theorem ct166 : CellT Tryd.prog 166 := ⟨⟨_, rfl, rfl⟩, rfl⟩
theorem mp166 : Tryd.prog.underlying 166 = some (.map 9 3) := rfl -- map[string]int
theorem ct167 : CellT Tryd.prog 167 := ⟨⟨_, rfl, rfl⟩, rfl⟩
theorem ct168 : CellT Tryd.prog 168 := ⟨⟨_, rfl, rfl⟩, rfl⟩
theorem ct169 : CellT Tryd.prog 169 := ⟨⟨_, rfl, rfl⟩, rfl⟩
theorem ct170 : CellT Tryd.prog 170 := ⟨⟨_, rfl, rfl⟩, rfl⟩
theorem ct171 : CellT Tryd.prog 171 := ⟨⟨_, rfl, rfl⟩, rfl⟩
theorem ct172 : CellT Tryd.prog 172 := ⟨⟨_, rfl, rfl⟩, rfl⟩
theorem ct173 : CellT Tryd.prog 173 := ⟨⟨_, rfl, rfl⟩, rfl⟩
theorem ct174 : CellT Tryd.prog 174 := ⟨⟨_, rfl, rfl⟩, rfl⟩
theorem ct175 : CellT Tryd.prog 175 := ⟨⟨_, rfl, rfl⟩, rfl⟩
theorem ct176 : CellT Tryd.prog 176 := ⟨⟨_, rfl, rfl⟩, rfl⟩
theorem ct177 : CellT Tryd.prog 177 := ⟨⟨_, rfl, rfl⟩, rfl⟩
theorem ag178 : AggT Tryd.prog 178 2 := ⟨⟨_, rfl, rfl⟩, rfl⟩
theorem fl178_0 : FieldT Tryd.prog 178 0 0 3 1 := ⟨⟨_, _, rfl, rfl, rfl, rfl⟩, rfl, Nat.noConfusion⟩ -- a
theorem fl178_1 : FieldT Tryd.prog 178 1 1 3 1 := ⟨⟨_, _, rfl, rfl, rfl, rfl⟩, rfl, Nat.noConfusion⟩ -- b
theorem ag179 : AggT Tryd.prog 179 2 := ⟨⟨_, rfl, rfl⟩, rfl⟩
theorem fl179_0 : FieldT Tryd.prog 179 0 0 3 1 := ⟨⟨_, _, rfl, rfl, rfl, rfl⟩, rfl, Nat.noConfusion⟩ -- a
theorem fl179_1 : FieldT Tryd.prog 179 1 1 3 1 := ⟨⟨_, _, rfl, rfl, rfl, rfl⟩, rfl, Nat.noConfusion⟩ -- b
theorem ag180 : AggT Tryd.prog 180 2 := ⟨⟨_, rfl, rfl⟩, rfl⟩
theorem fl180_0 : FieldT Tryd.prog 180 0 0 3 1 := ⟨⟨_, _, rfl, rfl, rfl, rfl⟩, rfl, Nat.noConfusion⟩ -- from
theorem fl180_1 : FieldT Tryd.prog 180 1 1 5 1 := ⟨⟨_, _, rfl, rfl, rfl, rfl⟩, rfl, Nat.noConfusion⟩ -- by
theorem ag181 : AggT Tryd.prog 181 2 := ⟨⟨_, rfl, rfl⟩, rfl⟩
theorem fl181_0 : FieldT Tryd.prog 181 0 0 3 1 := ⟨⟨_, _, rfl, rfl, rfl, rfl⟩, rfl, Nat.noConfusion⟩ -- from
theorem fl181_1 : FieldT Tryd.prog 181 1 1 5 1 := ⟨⟨_, _, rfl, rfl, rfl, rfl⟩, rfl, Nat.noConfusion⟩ -- by
theorem ct182 : CellT Tryd.prog 182 := ⟨⟨_, rfl, rfl⟩, rfl⟩
theorem mp182 : Tryd.prog.underlying 182 = some (.map 179 181) := rfl -- map[minim.pair]minim.way
theorem ct183 : CellT Tryd.prog 183 := ⟨⟨_, rfl, rfl⟩, rfl⟩
theorem sl183 : SlT Tryd.prog 183 179 2 16 (Tryd.t179.zero.getD undef) := ⟨rfl, ⟨_, rfl, rfl, rfl, rfl⟩, rfl⟩ -- []minim.pair
theorem ct184 : CellT Tryd.prog 184 := ⟨⟨_, rfl, rfl⟩, rfl⟩
theorem ct186 : CellT Tryd.prog 186 := ⟨⟨_, rfl, rfl⟩, rfl⟩
theorem ct187 : CellT Tryd.prog 187 := ⟨⟨_, rfl, rfl⟩, rfl⟩
theorem ct188 : CellT Tryd.prog 188 := ⟨⟨_, rfl, rfl⟩, rfl⟩
theorem ct189 : CellT Tryd.prog 189 := ⟨⟨_, rfl, rfl⟩, rfl⟩
theorem ct190 : CellT Tryd.prog 190 := ⟨⟨_, rfl, rfl⟩, rfl⟩
theorem ag191 : AggT Tryd.prog 191 3 := ⟨⟨_, rfl, rfl⟩, rfl⟩
theorem fl191_0 : FieldT Tryd.prog 191 0 0 166 1 := ⟨⟨_, _, rfl, rfl, rfl, rfl⟩, rfl, Nat.noConfusion⟩ -- number
theorem fl191_1 : FieldT Tryd.prog 191 1 1 98 1 := ⟨⟨_, _, rfl, rfl, rfl, rfl⟩, rfl, Nat.noConfusion⟩ -- found
theorem fl191_2 : FieldT Tryd.prog 191 2 2 3 1 := ⟨⟨_, _, rfl, rfl, rfl, rfl⟩, rfl, Nat.noConfusion⟩ -- most
theorem ag192 : AggT Tryd.prog 192 3 := ⟨⟨_, rfl, rfl⟩, rfl⟩
theorem fl192_0 : FieldT Tryd.prog 192 0 0 166 1 := ⟨⟨_, _, rfl, rfl, rfl, rfl⟩, rfl, Nat.noConfusion⟩ -- number
theorem fl192_1 : FieldT Tryd.prog 192 1 1 98 1 := ⟨⟨_, _, rfl, rfl, rfl, rfl⟩, rfl, Nat.noConfusion⟩ -- found
theorem fl192_2 : FieldT Tryd.prog 192 2 2 3 1 := ⟨⟨_, _, rfl, rfl, rfl, rfl⟩, rfl, Nat.noConfusion⟩ -- most
theorem ct193 : CellT Tryd.prog 193 := ⟨⟨_, rfl, rfl⟩, rfl⟩
theorem ct194 : CellT Tryd.prog 194 := ⟨⟨_, rfl, rfl⟩, rfl⟩
theorem ar195 : ArrT Tryd.prog 195 2 73 4 := ⟨rfl, rfl⟩
theorem ag195 : AggT Tryd.prog 195 8 := ⟨⟨_, rfl, rfl⟩, rfl⟩
theorem ct196 : CellT Tryd.prog 196 := ⟨⟨_, rfl, rfl⟩, rfl⟩
theorem ct197 : CellT Tryd.prog 197 := ⟨⟨_, rfl, rfl⟩, rfl⟩
theorem ct198 : CellT Tryd.prog 198 := ⟨⟨_, rfl, rfl⟩, rfl⟩
theorem ag199 : AggT Tryd.prog 199 2 := ⟨⟨_, rfl, rfl⟩, rfl⟩
theorem fl199_0 : FieldT Tryd.prog 199 0 0 5 1 := ⟨⟨_, _, rfl, rfl, rfl, rfl⟩, rfl, Nat.noConfusion⟩ -- letter
theorem fl199_1 : FieldT Tryd.prog 199 1 1 5 1 := ⟨⟨_, _, rfl, rfl, rfl, rfl⟩, rfl, Nat.noConfusion⟩ -- value
theorem ar200 : ArrT Tryd.prog 200 3 199 2 := ⟨rfl, rfl⟩
theorem ag200 : AggT Tryd.prog 200 6 := ⟨⟨_, rfl, rfl⟩, rfl⟩
theorem ct201 : CellT Tryd.prog 201 := ⟨⟨_, rfl, rfl⟩, rfl⟩
theorem ct202 : CellT Tryd.prog 202 := ⟨⟨_, rfl, rfl⟩, rfl⟩
theorem ct203 : CellT Tryd.prog 203 := ⟨⟨_, rfl, rfl⟩, rfl⟩
theorem ct204 : CellT Tryd.prog 204 := ⟨⟨_, rfl, rfl⟩, rfl⟩
theorem ct205 : CellT Tryd.prog 205 := ⟨⟨_, rfl, rfl⟩, rfl⟩
theorem ct206 : CellT Tryd.prog 206 := ⟨⟨_, rfl, rfl⟩, rfl⟩
theorem ct207 : CellT Tryd.prog 207 := ⟨⟨_, rfl, rfl⟩, rfl⟩
theorem ct208 : CellT Tryd.prog 208 := ⟨⟨_, rfl, rfl⟩, rfl⟩
theorem ct209 : CellT Tryd.prog 209 := ⟨⟨_, rfl, rfl⟩, rfl⟩
theorem ar210 : ArrT Tryd.prog 210 24 5 1 := ⟨rfl, rfl⟩
theorem ag210 : AggT Tryd.prog 210 24 := ⟨⟨_, rfl, rfl⟩, rfl⟩
theorem ct211 : CellT Tryd.prog 211 := ⟨⟨_, rfl, rfl⟩, rfl⟩
theorem ct213 : CellT Tryd.prog 213 := ⟨⟨_, rfl, rfl⟩, rfl⟩
theorem ct214 : CellT Tryd.prog 214 := ⟨⟨_, rfl, rfl⟩, rfl⟩
theorem ct215 : CellT Tryd.prog 215 := ⟨⟨_, rfl, rfl⟩, rfl⟩
theorem ct217 : CellT Tryd.prog 217 := ⟨⟨_, rfl, rfl⟩, rfl⟩
theorem ct218 : CellT Tryd.prog 218 := ⟨⟨_, rfl, rfl⟩, rfl⟩
theorem ct219 : CellT Tryd.prog 219 := ⟨⟨_, rfl, rfl⟩, rfl⟩
theorem ct220 : CellT Tryd.prog 220 := ⟨⟨_, rfl, rfl⟩, rfl⟩
theorem ct221 : CellT Tryd.prog 221 := ⟨⟨_, rfl, rfl⟩, rfl⟩
theorem ct222 : CellT Tryd.prog 222 := ⟨⟨_, rfl, rfl⟩, rfl⟩
theorem ct223 : CellT Tryd.prog 223 := ⟨⟨_, rfl, rfl⟩, rfl⟩
theorem ct224 : CellT Tryd.prog 224 := ⟨⟨_, rfl, rfl⟩, rfl⟩
theorem ar225 : ArrT Tryd.prog 225 20 69 1 := ⟨rfl, rfl⟩
theorem ag225 : AggT Tryd.prog 225 20 := ⟨⟨_, rfl, rfl⟩, rfl⟩
theorem ar226 : ArrT Tryd.prog 226 65 5 1 := ⟨rfl, rfl⟩
theorem ag226 : AggT Tryd.prog 226 65 := ⟨⟨_, rfl, rfl⟩, rfl⟩
theorem ct227 : CellT Tryd.prog 227 := ⟨⟨_, rfl, rfl⟩, rfl⟩
theorem ct228 : CellT Tryd.prog 228 := ⟨⟨_, rfl, rfl⟩, rfl⟩
theorem ct229 : CellT Tryd.prog 229 := ⟨⟨_, rfl, rfl⟩, rfl⟩
theorem ct230 : CellT Tryd.prog 230 := ⟨⟨_, rfl, rfl⟩, rfl⟩
theorem ct231 : CellT Tryd.prog 231 := ⟨⟨_, rfl, rfl⟩, rfl⟩
theorem ct232 : CellT Tryd.prog 232 := ⟨⟨_, rfl, rfl⟩, rfl⟩
theorem ct233 : CellT Tryd.prog 233 := ⟨⟨_, rfl, rfl⟩, rfl⟩
theorem ct235 : CellT Tryd.prog 235 := ⟨⟨_, rfl, rfl⟩, rfl⟩
theorem ar236 : ArrT Tryd.prog 236 32 5 1 := ⟨rfl, rfl⟩
theorem ag236 : AggT Tryd.prog 236 32 := ⟨⟨_, rfl, rfl⟩, rfl⟩
theorem ar237 : ArrT Tryd.prog 237 64 5 1 := ⟨rfl, rfl⟩
theorem ag237 : AggT Tryd.prog 237 64 := ⟨⟨_, rfl, rfl⟩, rfl⟩
theorem ag238 : AggT Tryd.prog 238 4 := ⟨⟨_, rfl, rfl⟩, rfl⟩
theorem fl238_0 : FieldT Tryd.prog 238 0 0 17 1 := ⟨⟨_, _, rfl, rfl, rfl, rfl⟩, rfl, Nat.noConfusion⟩ -- _interface
theorem fl238_1 : FieldT Tryd.prog 238 1 1 17 1 := ⟨⟨_, _, rfl, rfl, rfl, rfl⟩, rfl, Nat.noConfusion⟩ -- concrete
theorem fl238_2 : FieldT Tryd.prog 238 2 2 17 1 := ⟨⟨_, _, rfl, rfl, rfl, rfl⟩, rfl, Nat.noConfusion⟩ -- asserted
theorem fl238_3 : FieldT Tryd.prog 238 3 3 9 1 := ⟨⟨_, _, rfl, rfl, rfl, rfl⟩, rfl, Nat.noConfusion⟩ -- missingMethod
theorem ag239 : AggT Tryd.prog 239 4 := ⟨⟨_, rfl, rfl⟩, rfl⟩
theorem fl239_0 : FieldT Tryd.prog 239 0 0 17 1 := ⟨⟨_, _, rfl, rfl, rfl, rfl⟩, rfl, Nat.noConfusion⟩ -- _interface
theorem fl239_1 : FieldT Tryd.prog 239 1 1 17 1 := ⟨⟨_, _, rfl, rfl, rfl, rfl⟩, rfl, Nat.noConfusion⟩ -- concrete
theorem fl239_2 : FieldT Tryd.prog 239 2 2 17 1 := ⟨⟨_, _, rfl, rfl, rfl, rfl⟩, rfl, Nat.noConfusion⟩ -- asserted
theorem fl239_3 : FieldT Tryd.prog 239 3 3 9 1 := ⟨⟨_, _, rfl, rfl, rfl, rfl⟩, rfl, Nat.noConfusion⟩ -- missingMethod
theorem ar240 : ArrT Tryd.prog 240 0 16 1 := ⟨rfl, rfl⟩
theorem ag240 : AggT Tryd.prog 240 0 := ⟨⟨_, rfl, rfl⟩, rfl⟩
theorem ag241 : AggT Tryd.prog 241 0 := ⟨⟨_, rfl, rfl⟩, rfl⟩
theorem ag242 : AggT Tryd.prog 242 0 := ⟨⟨_, rfl, rfl⟩, rfl⟩
theorem ct243 : CellT Tryd.prog 243 := ⟨⟨_, rfl, rfl⟩, rfl⟩
theorem ct244 : CellT Tryd.prog 244 := ⟨⟨_, rfl, rfl⟩, rfl⟩
theorem ct245 : CellT Tryd.prog 245 := ⟨⟨_, rfl, rfl⟩, rfl⟩
theorem ct246 : CellT Tryd.prog 246 := ⟨⟨_, rfl, rfl⟩, rfl⟩
theorem ct247 : CellT Tryd.prog 247 := ⟨⟨_, rfl, rfl⟩, rfl⟩
theorem ag248 : AggT Tryd.prog 248 11 := ⟨⟨_, rfl, rfl⟩, rfl⟩
theorem fl248_0 : FieldT Tryd.prog 248 0 0 12 1 := ⟨⟨_, _, rfl, rfl, rfl, rfl⟩, rfl, Nat.noConfusion⟩ -- Size_
theorem fl248_1 : FieldT Tryd.prog 248 1 1 12 1 := ⟨⟨_, _, rfl, rfl, rfl, rfl⟩, rfl, Nat.noConfusion⟩ -- PtrBytes
theorem fl248_2 : FieldT Tryd.prog 248 2 2 222 1 := ⟨⟨_, _, rfl, rfl, rfl, rfl⟩, rfl, Nat.noConfusion⟩ -- Hash
theorem fl248_3 : FieldT Tryd.prog 248 3 3 243 1 := ⟨⟨_, _, rfl, rfl, rfl, rfl⟩, rfl, Nat.noConfusion⟩ -- TFlag
theorem fl248_4 : FieldT Tryd.prog 248 4 4 5 1 := ⟨⟨_, _, rfl, rfl, rfl, rfl⟩, rfl, Nat.noConfusion⟩ -- Align_
theorem fl248_5 : FieldT Tryd.prog 248 5 5 5 1 := ⟨⟨_, _, rfl, rfl, rfl, rfl⟩, rfl, Nat.noConfusion⟩ -- FieldAlign_
theorem fl248_6 : FieldT Tryd.prog 248 6 6 244 1 := ⟨⟨_, _, rfl, rfl, rfl, rfl⟩, rfl, Nat.noConfusion⟩ -- Kind_
theorem fl248_7 : FieldT Tryd.prog 248 7 7 245 1 := ⟨⟨_, _, rfl, rfl, rfl, rfl⟩, rfl, Nat.noConfusion⟩ -- Equal
theorem fl248_8 : FieldT Tryd.prog 248 8 8 174 1 := ⟨⟨_, _, rfl, rfl, rfl, rfl⟩, rfl, Nat.noConfusion⟩ -- GCData
theorem fl248_9 : FieldT Tryd.prog 248 9 9 246 1 := ⟨⟨_, _, rfl, rfl, rfl, rfl⟩, rfl, Nat.noConfusion⟩ -- Str
theorem fl248_10 : FieldT Tryd.prog 248 10 10 247 1 := ⟨⟨_, _, rfl, rfl, rfl, rfl⟩, rfl, Nat.noConfusion⟩ -- PtrToThis
theorem ag249 : AggT Tryd.prog 249 11 := ⟨⟨_, rfl, rfl⟩, rfl⟩
theorem fl249_0 : FieldT Tryd.prog 249 0 0 12 1 := ⟨⟨_, _, rfl, rfl, rfl, rfl⟩, rfl, Nat.noConfusion⟩ -- Size_
theorem fl249_1 : FieldT Tryd.prog 249 1 1 12 1 := ⟨⟨_, _, rfl, rfl, rfl, rfl⟩, rfl, Nat.noConfusion⟩ -- PtrBytes
theorem fl249_2 : FieldT Tryd.prog 249 2 2 222 1 := ⟨⟨_, _, rfl, rfl, rfl, rfl⟩, rfl, Nat.noConfusion⟩ -- Hash
theorem fl249_3 : FieldT Tryd.prog 249 3 3 243 1 := ⟨⟨_, _, rfl, rfl, rfl, rfl⟩, rfl, Nat.noConfusion⟩ -- TFlag
theorem fl249_4 : FieldT Tryd.prog 249 4 4 5 1 := ⟨⟨_, _, rfl, rfl, rfl, rfl⟩, rfl, Nat.noConfusion⟩ -- Align_
theorem fl249_5 : FieldT Tryd.prog 249 5 5 5 1 := ⟨⟨_, _, rfl, rfl, rfl, rfl⟩, rfl, Nat.noConfusion⟩ -- FieldAlign_
theorem fl249_6 : FieldT Tryd.prog 249 6 6 244 1 := ⟨⟨_, _, rfl, rfl, rfl, rfl⟩, rfl, Nat.noConfusion⟩ -- Kind_
theorem fl249_7 : FieldT Tryd.prog 249 7 7 245 1 := ⟨⟨_, _, rfl, rfl, rfl, rfl⟩, rfl, Nat.noConfusion⟩ -- Equal
theorem fl249_8 : FieldT Tryd.prog 249 8 8 174 1 := ⟨⟨_, _, rfl, rfl, rfl, rfl⟩, rfl, Nat.noConfusion⟩ -- GCData
theorem fl249_9 : FieldT Tryd.prog 249 9 9 246 1 := ⟨⟨_, _, rfl, rfl, rfl, rfl⟩, rfl, Nat.noConfusion⟩ -- Str
theorem fl249_10 : FieldT Tryd.prog 249 10 10 247 1 := ⟨⟨_, _, rfl, rfl, rfl, rfl⟩, rfl, Nat.noConfusion⟩ -- PtrToThis
end Go.Proofs.YthomdogheamfpaaDoor
/- What the functions of package class compute: sets of bytes as 256 bits. -/
set_option linter.unusedVariables false
set_option linter.unusedSimpArgs false
set_option maxRecDepth 100000
namespace Go.Proofs.YthomdogheamfpaaDoor
open Go.VC

/-- Word i of a set. -/
def wd (s : BitVec 256) (i : Nat) : Nat := (s.toNat / 2 ^ (64 * i)) % 2 ^ 64
def setV (s : BitVec 256) : Value := .agg #[.int .u64 (wd s 0), .int .u64 (wd s 1), .int .u64 (wd s 2), .int .u64 (wd s 3)]
def setL (s : BitVec 256) : List Value := [.int .u64 (wd s 0), .int .u64 (wd s 1), .int .u64 (wd s 2), .int .u64 (wd s 3)]
theorem wd_lt (s : BitVec 256) (i : Nat) : wd s i < 2 ^ 64 := Nat.mod_lt _ (by decide)
theorem wd_in (s : BitVec 256) (i : Nat) : inK .u64 (wd s i : Int) := by
  have := wd_lt s i
  refine ⟨?_, ?_⟩ <;> simp only [IntKind.min, IntKind.max, IntKind.signed, IntKind.bits] <;> simp <;> omega
theorem wd_bit (s : BitVec 256) (i j : Nat) (hj : j < 64) : (wd s i).testBit j = s.getLsbD (64 * i + j) := by
  unfold wd
  rw [Nat.testBit_mod_two_pow, Nat.testBit_div_two_pow, BitVec.testBit_toNat]
  simp [hj]; congr 1; omega
theorem wd_inj {s t : BitVec 256} (h : ∀ i, i < 4 → wd s i = wd t i) : s = t := by
  apply BitVec.eq_of_getLsbD_eq
  intro k hk
  have h1 := wd_bit s (k / 64) (k % 64) (Nat.mod_lt _ (by decide))
  have h2 := wd_bit t (k / 64) (k % 64) (Nat.mod_lt _ (by decide))
  rw [show 64 * (k / 64) + k % 64 = k by omega] at h1 h2
  rw [← h1, ← h2, h _ (by omega)]
theorem setV_inj {s t : BitVec 256} (h : setV s = setV t) : s = t := by
  unfold setV at h
  simp only [Value.agg.injEq, Array.mk.injEq, List.cons.injEq, Value.int.injEq, true_and, and_true, Int.natCast_inj] at h
  apply wd_inj
  intro i hi
  match i, hi with
  | 0, _ => exact h.1
  | 1, _ => exact h.2.1
  | 2, _ => exact h.2.2.1
  | 3, _ => exact h.2.2.2

theorem has_c (s : BitVec 256) (b : Nat) (hb : b < 256) (H : Heap) : Pure Tryd.prog 72 #[setV s, .int .u8 b] H (.bool (s.getLsbD b)) := by
  refine FnOk.of_vc Tryd.func72 rfl (Tryd.call72 _) ?_
  (conv => whnf)
  refine vbox (setL s) rfl ?_
  intro p H1 hp hs1 hb1 ha1
  (conv => whnf); refine vshr (b := 6) (by decide) ?_
  (conv => whnf); refine ixa ar73 (by omega) (by omega) ?_
  (conv => whnf); refine ld1 ct69 (v := .int .u64 (wd s (b / 64))) ?_ trivial ?_
  · rw [hb1.cell]
    have : b / 2 ^ 6 < 4 := by omega
    rw [show b / 64 = b / 2 ^ 6 by omega]
    generalize b / 2 ^ 6 = q at this
    match q, this with
    | 0, _ => rfl
    | 1, _ => rfl
    | 2, _ => rfl
    | 3, _ => rfl
  (conv => whnf); refine vand (b := 63) ⟨by simp [IntKind.min, IntKind.signed], by simp [IntKind.max, IntKind.signed, IntKind.bits]; omega⟩ ⟨by decide, by decide⟩ ?_
  (conv => whnf); refine vshr (Nat.le_trans Nat.and_le_right (by decide)) ?_
  (conv => whnf); refine vand (b := 1) (inK_le (wd_in s _) (Nat.div_le_self _ _)) ⟨by decide, by decide⟩ ?_
  (conv => whnf)
  refine ⟨?_, by rw [← hp]; exact ha1⟩
  congr 1
  have e1 : b &&& 63 = b % 64 := by rw [show (63 : Nat) = 2 ^ 6 - 1 by decide, Nat.and_two_pow_sub_one_eq_mod]
  have h1 := wd_bit s (b / 64) (b % 64) (Nat.mod_lt _ (by decide))
  rw [show 64 * (b / 64) + b % 64 = b by omega] at h1
  rw [e1, ← h1, Nat.testBit_eq_decide_div_mod_eq, Nat.and_one_is_mod]
  have := Nat.mod_two_eq_zero_or_one (wd s (b / 64) / 2 ^ (b % 64))
  rcases this with h | h <;> simp [h]

/-- The four loads and bit operations of Meet, Union. -/
theorem wd_and (a b : BitVec 256) (i : Nat) : wd (a &&& b) i = wd a i &&& wd b i := by
  apply Nat.eq_of_testBit_eq
  intro j
  rw [Nat.testBit_and]
  by_cases hj : j < 64
  · rw [wd_bit _ _ _ hj, wd_bit _ _ _ hj, wd_bit _ _ _ hj, BitVec.getLsbD_and]
  · rw [Nat.testBit_lt_two_pow (Nat.lt_of_lt_of_le (wd_lt _ _) (Nat.pow_le_pow_right (by decide) (by omega))),
      Nat.testBit_lt_two_pow (x := wd a i) (Nat.lt_of_lt_of_le (wd_lt _ _) (Nat.pow_le_pow_right (by decide) (by omega)))]; rfl
theorem wd_or (a b : BitVec 256) (i : Nat) : wd (a ||| b) i = wd a i ||| wd b i := by
  apply Nat.eq_of_testBit_eq
  intro j
  rw [Nat.testBit_or]
  by_cases hj : j < 64
  · rw [wd_bit _ _ _ hj, wd_bit _ _ _ hj, wd_bit _ _ _ hj, BitVec.getLsbD_or]
  · rw [Nat.testBit_lt_two_pow (Nat.lt_of_lt_of_le (wd_lt _ _) (Nat.pow_le_pow_right (by decide) (by omega))),
      Nat.testBit_lt_two_pow (x := wd a i) (Nat.lt_of_lt_of_le (wd_lt _ _) (Nat.pow_le_pow_right (by decide) (by omega))),
      Nat.testBit_lt_two_pow (x := wd b i) (Nat.lt_of_lt_of_le (wd_lt _ _) (Nat.pow_le_pow_right (by decide) (by omega)))]; rfl

theorem meet_c (a b : BitVec 256) (H : Heap) : Pure Tryd.prog 109 #[setV a, setV b] H (setV (a &&& b)) := by
  refine FnOk.of_vc Tryd.func109 rfl (Tryd.call109 _) ?_
  (conv => whnf); refine vbox (setL a) rfl ?_
  intro p H1 hp hs1 hb1 ha1
  (conv => whnf); refine vbox (setL b) rfl ?_
  intro q H2 hq hs2 hb2 ha2
  (conv => whnf); refine valloc (setV 0) (setL 0) rfl rfl ?_
  intro r H3 hr hs3 hb3 ha3
  replace hb1 := (hb1.agr ha2 (show p < q by omega)).agr ha3 (show p < r by omega)
  replace hb2 := hb2.agr ha3 (show q < r by omega)
  (conv => whnf); refine ixa ar73 (by decide) (by decide) ?_
  (conv => whnf); refine ld1 ct69 ((hb1.cell _).trans rfl) trivial ?_
  (conv => whnf); refine ixa ar73 (by decide) (by decide) ?_
  (conv => whnf); refine ld1 ct69 ((hb2.cell _).trans rfl) trivial ?_
  (conv => whnf); refine vand (wd_in a _) (wd_in b _) ?_
  (conv => whnf); refine ixa ar73 (by decide) (by decide) ?_
  (conv => whnf); refine ld1 ct69 ((hb1.cell _).trans rfl) trivial ?_
  (conv => whnf); refine ixa ar73 (by decide) (by decide) ?_
  (conv => whnf); refine ld1 ct69 ((hb2.cell _).trans rfl) trivial ?_
  (conv => whnf); refine vand (wd_in a _) (wd_in b _) ?_
  (conv => whnf); refine ixa ar73 (by decide) (by decide) ?_
  (conv => whnf); refine ld1 ct69 ((hb1.cell _).trans rfl) trivial ?_
  (conv => whnf); refine ixa ar73 (by decide) (by decide) ?_
  (conv => whnf); refine ld1 ct69 ((hb2.cell _).trans rfl) trivial ?_
  (conv => whnf); refine vand (wd_in a _) (wd_in b _) ?_
  (conv => whnf); refine ixa ar73 (by decide) (by decide) ?_
  (conv => whnf); refine ld1 ct69 ((hb1.cell _).trans rfl) trivial ?_
  (conv => whnf); refine ixa ar73 (by decide) (by decide) ?_
  (conv => whnf); refine ld1 ct69 ((hb2.cell _).trans rfl) trivial ?_
  (conv => whnf); refine vand (wd_in a _) (wd_in b _) ?_
  (conv => whnf); refine vbuildA ar73 (setV 0) rfl [Value.int .u64 ((wd a 0 &&& wd b 0 : Nat) : Int), Value.int .u64 ((wd a 1 &&& wd b 1 : Nat) : Int), Value.int .u64 ((wd a 2 &&& wd b 2 : Nat) : Int), Value.int .u64 ((wd a 3 &&& wd b 3 : Nat) : Int)] rfl ?_
  (conv => whnf); refine stN rfl hb3 (show 0 + 4 ≤ 4 by decide) rfl ?_
  intro H4 hb4 ha4 hs4
  (conv => whnf); refine ldN (cs := [Value.int .u64 ((wd a 0 &&& wd b 0 : Nat) : Int), Value.int .u64 ((wd a 1 &&& wd b 1 : Nat) : Int), Value.int .u64 ((wd a 2 &&& wd b 2 : Nat) : Int), Value.int .u64 ((wd a 3 &&& wd b 3 : Nat) : Int)]) ag73 (hb4.cells (fun j v hv => by simpa [splice, setL] using hv)) trivial ?_
  refine ⟨?_, ?_⟩
  · unfold setV; rw [wd_and, wd_and, wd_and, wd_and]
  · intro k hk; rw [ha4 k (by omega), ha3 k (by omega), ha2 k (by omega), ha1 k (by omega)]

theorem union_c (a b : BitVec 256) (H : Heap) : Pure Tryd.prog 117 #[setV a, setV b] H (setV (a ||| b)) := by
  refine FnOk.of_vc Tryd.func117 rfl (Tryd.call117 _) ?_
  (conv => whnf); refine vbox (setL a) rfl ?_
  intro p H1 hp hs1 hb1 ha1
  (conv => whnf); refine vbox (setL b) rfl ?_
  intro q H2 hq hs2 hb2 ha2
  (conv => whnf); refine valloc (setV 0) (setL 0) rfl rfl ?_
  intro r H3 hr hs3 hb3 ha3
  replace hb1 := (hb1.agr ha2 (show p < q by omega)).agr ha3 (show p < r by omega)
  replace hb2 := hb2.agr ha3 (show q < r by omega)
  (conv => whnf); refine ixa ar73 (by decide) (by decide) ?_
  (conv => whnf); refine ld1 ct69 ((hb1.cell _).trans rfl) trivial ?_
  (conv => whnf); refine ixa ar73 (by decide) (by decide) ?_
  (conv => whnf); refine ld1 ct69 ((hb2.cell _).trans rfl) trivial ?_
  (conv => whnf); refine vor (wd_in a _) (wd_in b _) ?_
  (conv => whnf); refine ixa ar73 (by decide) (by decide) ?_
  (conv => whnf); refine ld1 ct69 ((hb1.cell _).trans rfl) trivial ?_
  (conv => whnf); refine ixa ar73 (by decide) (by decide) ?_
  (conv => whnf); refine ld1 ct69 ((hb2.cell _).trans rfl) trivial ?_
  (conv => whnf); refine vor (wd_in a _) (wd_in b _) ?_
  (conv => whnf); refine ixa ar73 (by decide) (by decide) ?_
  (conv => whnf); refine ld1 ct69 ((hb1.cell _).trans rfl) trivial ?_
  (conv => whnf); refine ixa ar73 (by decide) (by decide) ?_
  (conv => whnf); refine ld1 ct69 ((hb2.cell _).trans rfl) trivial ?_
  (conv => whnf); refine vor (wd_in a _) (wd_in b _) ?_
  (conv => whnf); refine ixa ar73 (by decide) (by decide) ?_
  (conv => whnf); refine ld1 ct69 ((hb1.cell _).trans rfl) trivial ?_
  (conv => whnf); refine ixa ar73 (by decide) (by decide) ?_
  (conv => whnf); refine ld1 ct69 ((hb2.cell _).trans rfl) trivial ?_
  (conv => whnf); refine vor (wd_in a _) (wd_in b _) ?_
  (conv => whnf); refine vbuildA ar73 (setV 0) rfl [Value.int .u64 ((wd a 0 ||| wd b 0 : Nat) : Int), Value.int .u64 ((wd a 1 ||| wd b 1 : Nat) : Int), Value.int .u64 ((wd a 2 ||| wd b 2 : Nat) : Int), Value.int .u64 ((wd a 3 ||| wd b 3 : Nat) : Int)] rfl ?_
  (conv => whnf); refine stN rfl hb3 (show 0 + 4 ≤ 4 by decide) rfl ?_
  intro H4 hb4 ha4 hs4
  (conv => whnf); refine ldN (cs := [Value.int .u64 ((wd a 0 ||| wd b 0 : Nat) : Int), Value.int .u64 ((wd a 1 ||| wd b 1 : Nat) : Int), Value.int .u64 ((wd a 2 ||| wd b 2 : Nat) : Int), Value.int .u64 ((wd a 3 ||| wd b 3 : Nat) : Int)]) ag73 (hb4.cells (fun j v hv => by simpa [splice, setL] using hv)) trivial ?_
  refine ⟨?_, ?_⟩
  · unfold setV; rw [wd_or, wd_or, wd_or, wd_or]
  · intro k hk; rw [ha4 k (by omega), ha3 k (by omega), ha2 k (by omega), ha1 k (by omega)]

theorem and63 (b : Nat) : b &&& 63 = b % 64 := by rw [show (63 : Nat) = 2 ^ 6 - 1 by decide, Nat.and_two_pow_sub_one_eq_mod]
theorem setL_get (s : BitVec 256) (b : Nat) (hb : b < 256) : (setL s)[b / 2 ^ 6]? = some (.int .u64 (wd s (b / 64))) := by
  have : b / 2 ^ 6 < 4 := by omega
  rw [show b / 64 = b / 2 ^ 6 by omega]
  generalize b / 2 ^ 6 = q at this
  match q, this with
  | 0, _ => rfl
  | 1, _ => rfl
  | 2, _ => rfl
  | 3, _ => rfl
theorem wd_put (s : BitVec 256) (b i : Nat) (hb : b < 256) : wd (s ||| BitVec.twoPow 256 b) i = if i = b / 64 then wd s i ||| 2 ^ (b % 64) else wd s i := by
  apply Nat.eq_of_testBit_eq
  intro j
  by_cases hj : j < 64
  · rw [wd_bit _ _ _ hj, BitVec.getLsbD_or, BitVec.getLsbD_twoPow]
    by_cases hi : i = b / 64
    · rw [if_pos hi, Nat.testBit_or, wd_bit _ _ _ hj, Nat.testBit_two_pow]
      congr 1
      by_cases h : b % 64 = j
      · have : b = 64 * i + j := by omega
        simp [h, ← this, hb]
      · have : ¬ b = 64 * i + j := by omega
        simp [h, this]
    · rw [if_neg hi, wd_bit _ _ _ hj]
      have : ¬ b = 64 * i + j := by omega
      simp [this]
  · have hbig : 2 ^ 64 ≤ 2 ^ j := Nat.pow_le_pow_right (by decide) (by omega)
    rw [Nat.testBit_lt_two_pow (Nat.lt_of_lt_of_le (wd_lt _ _) hbig)]
    split
    · rw [Nat.testBit_or, Nat.testBit_lt_two_pow (Nat.lt_of_lt_of_le (wd_lt _ _) hbig), Nat.testBit_two_pow]
      simp; omega
    · rw [Nat.testBit_lt_two_pow (Nat.lt_of_lt_of_le (wd_lt _ _) hbig)]
theorem setL_put (s : BitVec 256) (b : Nat) (hb : b < 256) : (setL s).set (b / 64) (.int .u64 ((wd s (b / 64) ||| 2 ^ (b % 64) : Nat) : Int)) = setL (s ||| BitVec.twoPow 256 b) := by
  have h : b / 64 < 4 := by omega
  unfold setL
  rw [wd_put s b 0 hb, wd_put s b 1 hb, wd_put s b 2 hb, wd_put s b 3 hb]
  generalize b / 64 = q at h
  match q, h with
  | 0, _ => rfl
  | 1, _ => rfl
  | 2, _ => rfl
  | 3, _ => rfl

theorem span_c (lo hi : Nat) (hlo : lo < 256) (hhi : hi < 256) (H : Heap) : FnOk Tryd.prog 88 #[.int .u8 lo, .int .u8 hi] H fun v H' =>
    (∃ s, v = setV s ∧ ∀ b, b < 256 → s.getLsbD b = (decide (lo ≤ b) && decide (b ≤ hi))) ∧ Agr (Old H) H H' := by
  refine FnOk.of_vc Tryd.func88 rfl (Tryd.call88 _) ?_
  (conv => whnf); refine valloc (setV 0) (setL 0) rfl rfl ?_
  intro r H1 hr hs1 hb1 ha1
  (conv => whnf); refine valloc (setV 0) (setL 0) rfl rfl ?_
  intro p H2 hp hs2 hb2 ha2
  replace hb1 := hb1.agr ha2 (show r < p by omega)
  (conv => whnf); rw [w64 (x := (lo : Int)) (by omega) (by omega)]
  refine VLoop.mk [6] (fun b : Nat => [.int .i64 b]) (fun b H3 => lo ≤ b ∧ (b ≤ hi + 1 ∨ b = lo) ∧ Agr (fun k => k ≠ p) H2 H3 ∧ H3.size = H2.size ∧ ∃ s : BitVec 256, Blk H3 p 73 (setL s) ∧ ∀ c, c < 256 → s.getLsbD c = (decide (lo ≤ c) && decide (c < b))) (fun b _ => 256 - b) ?_ ?_
  · (conv => whnf)
    exact ⟨lo, rfl, by omega, by omega, Agr.refl _ _, rfl, 0, hb2, fun c hc => by simp⟩
  · rintro b H3 junk ⟨h1, h2, ha3, hs3, s, hb3, hs⟩
    (conv => whnf); rw [w64 (x := (hi : Int)) (by omega) (by omega)]
    refine VIte.mk (fun h => ?_) (fun h => ?_) <;> simp only [decide_eq_true_eq, decide_eq_false_iff_not] at h
    · (conv => whnf)
      refine VDraw.tail 9 (sq [0,1,2,3,4,5,6,7,8] (.f 9 .e)) rfl (by kernel_rfl) ?_
      (conv => whnf); refine vshr (b := 6) (by decide) ?_
      (conv => whnf); refine ixa ar73 (by omega) (by omega) ?_
      (conv => whnf); refine ld1 ct69 (v := .int .u64 (wd s (b / 64))) (by rw [hb3.cell, Nat.zero_add, Nat.mul_one]; exact setL_get s b (by omega)) trivial ?_
      (conv => whnf); refine vand (b := 63) (inI64 (by omega)) (inI64 (by decide)) ?_
      have hpow : 2 ^ (b % 64) < 2 ^ 64 := Nat.pow_lt_pow_right (by decide) (by omega)
      rw [and63]
      have hin : inK .u64 ((1 * 2 ^ (b % 64) : Nat) : Int) := inU64 (by omega)
      (conv => whnf); refine vshl (a := 1) (by simp [IntKind.bits]; omega) hin ?_
      (conv => whnf); refine vor (wd_in s _) hin ?_
      (conv => whnf); refine ixa ar73 (by omega) (by omega) ?_
      (conv => whnf); refine st1 ct69 hb3 (by simp [setL]; omega) rfl ?_
      intro H4 hb4 ha4 hs4
      (conv => whnf); rw [w64 (x := (b : Int) + 1) (by omega) (by omega)]
      refine ⟨rfl, b + 1, by simp, ⟨by omega, by omega, ha3.trans ha4, by omega, s ||| BitVec.twoPow 256 b, ?_, fun c hc => ?_⟩, by omega⟩
      · rw [Nat.zero_add, Nat.mul_one, Nat.one_mul] at hb4
        rw [← setL_put s b (by omega)]
        exact hb4
      · rw [BitVec.getLsbD_or, hs c hc, BitVec.getLsbD_twoPow]
        by_cases hbc : b = c
        · subst hbc; simp [hc, h1]
        · have : (decide (c < b + 1)) = decide (c < b) := by simp; omega
          simp [hbc, this]
    · (conv => whnf)
      refine ldN (cs := setL s) ag73 (hb3.cells (fun j v hv => by simpa using hv)) trivial ?_
      (conv => whnf); refine stN rfl (hb1.agr ha3 (show r ≠ p by omega)) (show 0 + 4 ≤ 4 by decide) rfl ?_
      intro H4 hb4 ha4 hs4
      (conv => whnf); refine ldN (cs := setL s) ag73 (hb4.cells (fun j v hv => by simpa [splice, setL] using hv)) trivial ?_
      refine ⟨⟨s, rfl, fun c hc => ?_⟩, fun k hk => ?_⟩
      · rw [hs c hc]
        rcases h2 with h2 | h2
        · have : (decide (c < b)) = decide (c ≤ hi) := by simp; omega
          rw [this]
        · subst h2
          by_cases hcl : b ≤ c
          · simp [show ¬ c < b by omega, show ¬ c ≤ hi by omega]
          · simp [hcl]
      · unfold Old at hk
        rw [ha4 k (by omega), ha3 k (by omega), ha2 k (by omega), ha1 k (by omega)]

/-! ### sets as data, and their equality -/
def tSet : Ty (BitVec 256) where
  size := 4
  rep _ _ cs s := cs = setL s
  len h := by rw [h]; rfl
  frame h _ := h
  mono h _ := h
def setLits (s : BitVec 256) : List Lit := [.int .u64 (wd s 0), .int .u64 (wd s 1), .int .u64 (wd s 2), .int .u64 (wd s 3)]
theorem setLits_inj (a b : BitVec 256) : decide (a = b) = true ↔ setLits a = setLits b := by
  rw [decide_eq_true_eq]
  constructor
  · rintro rfl; rfl
  · intro h
    unfold setLits at h
    simp only [List.cons.injEq, Lit.int.injEq, true_and, and_true, Int.natCast_inj] at h
    apply wd_inj
    intro i hi
    match i, hi with
    | 0, _ => exact h.1
    | 1, _ => exact h.2.1
    | 2, _ => exact h.2.2.1
    | 3, _ => exact h.2.2.2
theorem set_wf (s : BitVec 256) (i : Nat) : (Lit.int .u64 (wd s i)).wf = true := by
  have := wd_in s i
  unfold Lit.wf
  simp only [Bool.and_eq_true, decide_eq_true_eq]
  exact this
theorem set_lits (s : BitVec 256) : Tryd.prog.keyLits 2 73 (setL s) = some (setLits s) := by
  have c1 : Tryd.prog.cellsOf 73 = 4 := rfl
  have c2 : Tryd.prog.cellsOf 69 = 1 := rfl
  simp [Program.keyLits, Tryd.underlying73, Tryd.underlying69, c1, c2, setL, setLits, set_wf, List.range, List.range.loop]
theorem set_eq (a b : BitVec 256) {x y : Operand} {S : Nat → Prop} {H : Heap} {K : Value → Prop} (k : K (.bool (decide (a = b)))) :
    VDet Tryd.prog (do eqGuard .eql 73 x y (setV a) (setV b); binOp .eql 73 (setV a) (setV b)) S H K :=
  veq (m := 2) (la := setLits a) (lb := setLits b) rfl (by decide) (Tryd.eqGuardType73) rfl rfl (set_lits a) (set_lits b) (setLits_inj a b) k
theorem set_neq (a b : BitVec 256) {x y : Operand} {S : Nat → Prop} {H : Heap} {K : Value → Prop} (k : K (.bool (!decide (a = b)))) :
    VDet Tryd.prog (do eqGuard .neq 73 x y (setV a) (setV b); binOp .neq 73 (setV a) (setV b)) S H K :=
  vneq (m := 2) (la := setLits a) (lb := setLits b) rfl (by decide) (Tryd.eqGuardType73) rfl rfl (set_lits a) (set_lits b) (setLits_inj a b) k


def spanS (lo hi : Nat) : BitVec 256 := BitVec.ofNat 256 ((2 ^ (hi + 1 - lo) - 1) <<< lo)
theorem spanS_bit (lo hi b : Nat) (hb : b < 256) : (spanS lo hi).getLsbD b = (decide (lo ≤ b) && decide (b ≤ hi)) := by
  unfold spanS
  rw [BitVec.getLsbD_ofNat, Nat.testBit_shiftLeft, Nat.testBit_two_pow_sub_one]
  by_cases h : lo ≤ b
  · simp only [hb, decide_true, Bool.true_and, h, ge_iff_le]
    congr 1
    rw [eq_iff_iff]; omega
  · simp [h]
theorem span_p (lo hi : Nat) (hlo : lo < 256) (hhi : hi < 256) (H : Heap) : Pure Tryd.prog 88 #[.int .u8 lo, .int .u8 hi] H (setV (spanS lo hi)) := by
  refine (span_c lo hi hlo hhi H).mono ?_
  rintro v H' ⟨⟨s, rfl, hs⟩, ha⟩
  refine ⟨?_, ha⟩
  congr 1
  apply BitVec.eq_of_getLsbD_eq
  intro b hb
  rw [hs b hb, spanS_bit lo hi b hb]
theorem spanS_full : spanS 0 255 = BitVec.allOnes 256 := by
  apply BitVec.eq_of_getLsbD_eq
  intro b hb
  rw [spanS_bit 0 255 b hb, BitVec.getLsbD_allOnes]
  simp [hb]; omega

end Go.Proofs.YthomdogheamfpaaDoor
/- Nondeterministic automata, plain: what silent edges reach, what a text reaches. -/
set_option linter.unusedVariables false
set_option linter.unusedSimpArgs false
namespace Go.Proofs.YthomdogheamfpaaDoor
open Go.VC
structure EdM where
  fr : Int
  to : Int
  sil : Bool
  set : BitVec 256
structure NfM where
  st : Int
  start : Int
  fin : Int
  edges : List EdM
def NfM.has (a : NfM) (q : Int) : Bool := decide (0 ≤ q) && decide (q < a.st) && decide (a.st ≤ 65536)
theorem NfM.has_iff {a : NfM} {q : Int} : a.has q = true ↔ 0 ≤ q ∧ q < a.st ∧ a.st ≤ 65536 := by
  unfold NfM.has
  simp only [Bool.and_eq_true, decide_eq_true_eq, and_assoc]
/-- What silent edges reach. -/
inductive Sils (a : NfM) : Int → Int → Prop
  | refl (p : Int) : Sils a p p
  | step {p : Int} {e : EdM} : Sils a p e.fr → e ∈ a.edges → e.sil = true → a.has e.to = true → Sils a p e.to
theorem Sils.trans {a : NfM} {p q r : Int} (h : Sils a p q) (k : Sils a q r) : Sils a p r := by
  induction k with
  | refl => exact h
  | step _ h1 h2 h3 ih => exact .step ih h1 h2 h3
abbrev PS := Int → Prop
def clS (a : NfM) (X : PS) : PS := fun q => ∃ p, X p ∧ Sils a p q
def begS (a : NfM) : PS := clS a fun q => q = a.start ∧ a.has a.start = true
def hopS (a : NfM) (X : PS) (b : Nat) : PS := fun q => ∃ e ∈ a.edges, e.sil = false ∧ e.set.getLsbD b = true ∧ X e.fr ∧ a.has e.to = true ∧ q = e.to
def goS (a : NfM) (X : PS) (b : Nat) : PS := clS a (hopS a X b)
def rchS (a : NfM) (s : List Nat) : PS := s.foldl (goS a) (begS a)
/-- Closed under silent edges. -/
def Shut_ (a : NfM) (X : PS) : Prop := ∀ e ∈ a.edges, e.sil = true → a.has e.to = true → X e.fr → X e.to
theorem clS_in {a : NfM} {X : PS} {q : Int} (h : X q) : clS a X q := ⟨q, h, .refl q⟩
theorem clS_shut (a : NfM) (X : PS) : Shut_ a (clS a X) := fun e h1 h2 h3 ⟨p, hp, hs⟩ => ⟨p, hp, .step hs h1 h2 h3⟩
theorem clS_least {a : NfM} {X Y : PS} (h : ∀ q, X q → Y q) (hs : Shut_ a Y) : ∀ q, clS a X q → Y q := by
  rintro q ⟨p, hp, hq⟩
  induction hq with
  | refl => exact h _ hp
  | step _ h1 h2 h3 ih => exact hs _ h1 h2 h3 ih
theorem clS_has {a : NfM} {X : PS} (h : ∀ q, X q → a.has q = true) : ∀ q, clS a X q → a.has q = true := clS_least h fun e _ _ h3 _ => h3
theorem begS_has (a : NfM) : ∀ q, begS a q → a.has q = true := clS_has fun q ⟨e, h⟩ => e ▸ h
theorem goS_has (a : NfM) (X : PS) (b : Nat) : ∀ q, goS a X b q → a.has q = true := clS_has fun q ⟨e, _, _, _, _, h, hq⟩ => hq ▸ h
theorem rchS_snoc (a : NfM) (s : List Nat) (b : Nat) : rchS a (s ++ [b]) = goS a (rchS a s) b := by unfold rchS; rw [List.foldl_append]; rfl
theorem fold_has (a : NfM) : ∀ (s : List Nat) (X : PS), (∀ q, X q → a.has q = true) → ∀ q, s.foldl (goS a) X q → a.has q = true
  | [], X, h => h
  | b :: s, X, h => fold_has a s (goS a X b) (goS_has a X b)
theorem rchS_has (a : NfM) (s : List Nat) : ∀ q, rchS a s q → a.has q = true := fold_has a s _ (begS_has a)
theorem fold_shut (a : NfM) : ∀ (s : List Nat) (X : PS), Shut_ a X → Shut_ a (s.foldl (goS a) X)
  | [], X, h => h
  | b :: s, X, h => fold_shut a s (goS a X b) (clS_shut a _)
theorem rchS_shut (a : NfM) (s : List Nat) : Shut_ a (rchS a s) := fold_shut a s _ (clS_shut a _)
theorem goS_ext {a : NfM} {X Y : PS} (h : ∀ q, X q ↔ Y q) (b : Nat) : goS a X b = goS a Y b := by
  have : X = Y := funext fun q => propext (h q)
  rw [this]
/-! ### sorted lists -/
theorem srt_uniq : ∀ {l m : List Int}, l.Pairwise (· < ·) → m.Pairwise (· < ·) → (∀ q, q ∈ l ↔ q ∈ m) → l = m
  | [], [], _, _, _ => rfl
  | [], y :: m, _, _, h => by have := (h y).2 (by simp); cases this
  | x :: l, [], _, _, h => by have := (h x).1 (by simp); cases this
  | x :: l, y :: m, hl, hm, h => by
    obtain ⟨h1, h2⟩ := List.pairwise_cons.1 hl
    obtain ⟨k1, k2⟩ := List.pairwise_cons.1 hm
    have hxy : x = y := by
      have hx := (h x).1 (by simp)
      have hy := (h y).2 (by simp)
      rcases List.mem_cons.1 hx with e | hx
      · exact e
      · rcases List.mem_cons.1 hy with e | hy
        · exact e.symm
        · have := h1 y hy; have := k1 x hx; omega
    subst hxy
    congr 1
    refine srt_uniq h2 k2 fun q => ⟨fun hq => ?_, fun hq => ?_⟩
    · rcases List.mem_cons.1 ((h q).1 (by simp [hq])) with e | h3
      · have := h1 q hq; omega
      · exact h3
    · rcases List.mem_cons.1 ((h q).2 (by simp [hq])) with e | h3
      · have := k1 q hq; omega
      · exact h3
open Classical in
/-- The list of a set of states, rising. -/
noncomputable def lstS (X : PS) : List Int := ((List.range 65536).map fun (n : Nat) => (n : Int)).filter fun q => decide (X q)
theorem lstS_srt (X : PS) : (lstS X).Pairwise (· < ·) := by
  unfold lstS
  refine List.Pairwise.filter _ ?_
  rw [List.pairwise_map]
  exact List.pairwise_lt_range.imp fun h => by omega
open Classical in
theorem lstS_mem {X : PS} (h : ∀ q, X q → 0 ≤ q ∧ q < 65536) (q : Int) : q ∈ lstS X ↔ X q := by
  unfold lstS
  rw [List.mem_filter, decide_eq_true_eq, List.mem_map]
  constructor
  · exact fun ⟨_, hx⟩ => hx
  · intro hx
    obtain ⟨h1, h2⟩ := h q hx
    exact ⟨⟨q.toNat, List.mem_range.2 (by omega), by omega⟩, hx⟩
theorem lstS_uniq {X : PS} {l : List Int} (h : ∀ q, X q → 0 ≤ q ∧ q < 65536) (hs : l.Pairwise (· < ·)) (hm : ∀ q, q ∈ l ↔ X q) : l = lstS X :=
  srt_uniq hs (lstS_srt X) fun q => (hm q).trans (lstS_mem h q).symm
theorem lstS_len (X : PS) : (lstS X).length ≤ 65536 := by
  unfold lstS
  exact Nat.le_trans (List.length_filter_le _ _) (by simp)
theorem has_rng {a : NfM} {X : PS} (h : ∀ q, X q → a.has q = true) : ∀ q, X q → 0 ≤ q ∧ q < 65536 := fun q hq => by
  have := NfM.has_iff.1 (h q hq); omega
noncomputable def rchL (a : NfM) (s : List Nat) : List Int := lstS (rchS a s)
theorem rchL_mem (a : NfM) (s : List Nat) (q : Int) : q ∈ rchL a s ↔ rchS a s q := lstS_mem (has_rng (rchS_has a s)) q
open Classical in
noncomputable def accN (a : NfM) (s : List Nat) : Bool := decide (rchS a s a.fin)
theorem accN_iff (a : NfM) (s : List Nat) : accN a s = true ↔ rchS a s a.fin := by unfold accN; simp
/-! ### a text of two parts -/
theorem hop_union {a : NfM} {X : PS} {b : Nat} {q : Int} : goS a X b q ↔ ∃ p, X p ∧ goS a (· = p) b q := by
  constructor
  · rintro ⟨r, ⟨e, h1, h2, h3, h4, h5, rfl⟩, hs⟩
    exact ⟨e.fr, h4, e.to, ⟨e, h1, h2, h3, rfl, h5, rfl⟩, hs⟩
  · rintro ⟨p, hp, r, ⟨e, h1, h2, h3, rfl, h5, rfl⟩, hs⟩
    exact ⟨e.to, ⟨e, h1, h2, h3, hp, h5, rfl⟩, hs⟩
theorem fold_union (a : NfM) : ∀ (t : List Nat) (I : Type) (F : I → PS) (q : Int), t.foldl (goS a) (fun q => ∃ i, F i q) q ↔ ∃ i, t.foldl (goS a) (F i) q
  | [], I, F, q => Iff.rfl
  | b :: t, I, F, q => by
    have e : goS a (fun q => ∃ i, F i q) b = fun q => ∃ i, goS a (F i) b q := funext fun q => propext (by
      constructor
      · intro h
        obtain ⟨p, ⟨i, hp⟩, hq⟩ := hop_union.1 h
        exact ⟨i, hop_union.2 ⟨p, hp, hq⟩⟩
      · rintro ⟨i, h⟩
        obtain ⟨p, hp, hq⟩ := hop_union.1 h
        exact hop_union.2 ⟨p, ⟨i, hp⟩, hq⟩)
    rw [List.foldl_cons, e]
    exact fold_union a t I (fun i => goS a (F i) b) q
theorem goes_on (a : NfM) (s t : List Nat) (q : Int) : rchS a (s ++ t) q ↔ ∃ p, rchS a s p ∧ rchS { a with start := p } t q := by
  have hc : rchS a s = fun q => ∃ i : { p // rchS a s p }, begS { a with start := i.1 } q := funext fun q => propext (by
    constructor
    · intro h
      exact ⟨⟨q, h⟩, q, ⟨rfl, rchS_has a s q h⟩, .refl q⟩
    · rintro ⟨⟨p, hp⟩, r, ⟨e, hr⟩, hs⟩
      have e' : r = p := e
      have gen : ∀ x y, Sils { a with start := p } x y → Sils a x y := fun x y h => by
        induction h with
        | refl => exact .refl _
        | step _ h1 h2 h3 ih => exact .step ih h1 h2 h3
      have hs' := gen _ _ hs
      rw [e'] at hs'
      exact clS_least (X := rchS a s) (fun _ h => h) (rchS_shut a s) q ⟨p, hp, hs'⟩)
  have hg : ∀ p : Int, goS { a with start := p } = goS a := fun p => by
    funext X b q
    refine propext ⟨?_, ?_⟩
    · rintro ⟨r, hr, hs⟩
      refine ⟨r, hr, ?_⟩
      clear hr
      induction hs with
      | refl => exact .refl _
      | step _ h1 h2 h3 ih => exact .step ih h1 h2 h3
    · rintro ⟨r, hr, hs⟩
      refine ⟨r, hr, ?_⟩
      clear hr
      induction hs with
      | refl => exact .refl _
      | step _ h1 h2 h3 ih => exact .step ih h1 h2 h3
  have h1 : rchS a (s ++ t) = t.foldl (goS a) (rchS a s) := by unfold rchS; rw [List.foldl_append]
  have e2 : t.foldl (goS a) (rchS a s) q = t.foldl (goS a) (fun q => ∃ i : { p // rchS a s p }, begS { a with start := i.1 } q) q := congrArg (fun X => t.foldl (goS a) X q) hc
  have main := fold_union a t { p // rchS a s p } (fun i => begS { a with start := i.1 }) q
  rw [h1, e2]
  refine main.trans ⟨?_, ?_⟩
  · rintro ⟨⟨p, hp⟩, h⟩
    refine ⟨p, hp, ?_⟩
    unfold rchS
    rw [hg p]
    exact h
  · rintro ⟨p, hp, h⟩
    refine ⟨⟨p, hp⟩, ?_⟩
    unfold rchS at h
    rw [hg p] at h
    exact h
/-! ### turned round -/
def EdM.turn (e : EdM) : EdM := { e with fr := e.to, to := e.fr }
def NfM.turn (a : NfM) : NfM := { st := a.st, start := a.fin, fin := a.start, edges := a.edges.map EdM.turn }
theorem turn_turn (a : NfM) : a.turn.turn = a := by
  obtain ⟨st, start, fin, edges⟩ := a
  have e : (edges.map EdM.turn).map EdM.turn = edges := by
    rw [List.map_map]
    exact (List.map_congr_left (g := id) fun e _ => rfl).trans (List.map_id _)
  show NfM.mk st start fin ((edges.map EdM.turn).map EdM.turn) = _
  rw [e]
/-- A way through the automaton that reads a text. -/
inductive Way (a : NfM) : Int → List Nat → Int → Prop
  | nil {p : Int} : a.has p = true → Way a p [] p
  | sil {e : EdM} {s : List Nat} {q : Int} : e ∈ a.edges → e.sil = true → a.has e.fr = true → Way a e.to s q → Way a e.fr s q
  | hop {e : EdM} {b : Nat} {s : List Nat} {q : Int} : e ∈ a.edges → e.sil = false → e.set.getLsbD b = true → a.has e.fr = true → Way a e.to s q → Way a e.fr (b :: s) q
theorem Way.ends {a : NfM} {p q : Int} {s : List Nat} (h : Way a p s q) : a.has p = true ∧ a.has q = true := by
  induction h with
  | nil h => exact ⟨h, h⟩
  | sil _ _ h _ ih => exact ⟨h, ih.2⟩
  | hop _ _ _ h _ ih => exact ⟨h, ih.2⟩
theorem Way.app {a : NfM} {p q r : Int} {s t : List Nat} (h : Way a p s q) (k : Way a q t r) : Way a p (s ++ t) r := by
  induction h with
  | nil h => exact k
  | sil h1 h2 h3 _ ih => exact .sil h1 h2 h3 (ih k)
  | hop h1 h2 h3 h4 _ ih => exact .hop h1 h2 h3 h4 (ih k)
theorem has_turn (a : NfM) (q : Int) : a.turn.has q = a.has q := rfl
theorem Way.turn {a : NfM} {p q : Int} {s : List Nat} (h : Way a p s q) : Way a.turn q s.reverse p := by
  induction h with
  | nil h => exact .nil h
  | @sil e s q h1 h2 h3 h4 ih =>
    have := ih.app (Way.sil (a := a.turn) (e := e.turn) (List.mem_map_of_mem h1) h2 h4.ends.1 (.nil h3))
    rw [List.append_nil] at this
    exact this
  | @hop e b s q h1 h2 h3 h4 h5 ih =>
    have := ih.app (Way.hop (a := a.turn) (e := e.turn) (List.mem_map_of_mem h1) h2 h3 h5.ends.1 (.nil h4))
    rw [List.reverse_cons]
    exact this
theorem sils_way {a : NfM} {p q : Int} (h : Sils a p q) (hp : a.has p = true) : Way a p [] q := by
  induction h with
  | refl => exact .nil hp
  | step _ h1 h2 h3 ih =>
    have := ih.app (.sil h1 h2 ih.ends.2 (.nil h3))
    simpa using this
theorem rch_way (a : NfM) : ∀ (s : List Nat) (q : Int), rchS a s q → Way a a.start s q := by
  have key : ∀ (n : Nat) (s : List Nat), s.length = n → ∀ (q : Int), rchS a s q → Way a a.start s q := by
    intro n
    induction n with
    | zero =>
      intro s hs q h
      obtain rfl := List.eq_nil_of_length_eq_zero hs
      obtain ⟨p, ⟨rfl, hp⟩, hq⟩ := h
      exact sils_way hq hp
    | succ n ih =>
      intro s hs q h
      obtain ⟨t, b, rfl⟩ : ∃ t b, s = t ++ [b] := ⟨s.dropLast, s.getLast (by intro e; subst e; simp at hs), (List.dropLast_concat_getLast _).symm⟩
      rw [rchS_snoc] at h
      obtain ⟨r, ⟨e, h1, h2, h3, h4, h5, rfl⟩, hq⟩ := h
      have w1 := ih t (by simpa using hs) e.fr h4
      exact w1.app (.hop h1 h2 h3 w1.ends.2 (sils_way hq h5))
  exact fun s q h => key s.length s rfl q h
theorem way_rch {a : NfM} {p q : Int} {s : List Nat} (h : Way a p s q) : ∀ (X : PS), Shut_ a X → X p → s.foldl (goS a) X q := by
  induction h with
  | nil h => exact fun X _ hp => hp
  | sil h1 h2 h3 h4 ih => exact fun X hX hp => ih X hX (hX _ h1 h2 h4.ends.1 hp)
  | hop h1 h2 h3 h4 h5 ih => exact fun X hX hp => ih _ (clS_shut _ _) (clS_in ⟨_, h1, h2, h3, hp, h5.ends.1, rfl⟩)
theorem acc_way (a : NfM) (s : List Nat) : accN a s = true ↔ Way a a.start s a.fin := by
  rw [accN_iff]
  exact ⟨rch_way a s a.fin, fun h => way_rch h _ (clS_shut a _) (clS_in ⟨rfl, h.ends.1⟩)⟩
theorem acc_turn (a : NfM) (s : List Nat) : accN a.turn s.reverse = accN a s := by
  have h1 : accN a s = true ↔ accN a.turn s.reverse = true := by
    rw [acc_way, acc_way]
    constructor
    · exact fun h => h.turn
    · intro h
      have := h.turn
      rw [turn_turn, List.reverse_reverse] at this
      exact this
  cases h2 : accN a s <;> cases h3 : accN a.turn s.reverse <;> simp_all
end Go.Proofs.YthomdogheamfpaaDoor
