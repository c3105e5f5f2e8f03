import Derived.Test.YtfdlhakfmbdamaaDoorVMore
import Derived.DeepKeys3
import Derived.Maps.RangeRun
/- Maps of the call's own whose keys are arrays or structs; going through a map. -/
set_option linter.unusedVariables false
set_option linter.unusedSimpArgs false
namespace Go.VC
structure MapTW (P : Program) (t kt et : TypeId) (z : Value) : Prop where
  under : P.underlying t = some (.map kt et)
  zero : (P.info? et).bind (·.zero) = some z
/-- What the model asks of keys, of all that are Ok. -/
structure KeyW (P : Program) (kt : TypeId) {α : Type} (Ok : α → Prop) (enc : α → Value) : Prop where
  inj : ∀ a b, enc a = enc b → a = b
  check : ∀ (w : World) (em : Bool) (a : α), Ok a → (Instr.checkKey em 10000 kt (enc a)).run P w = .ok () w
  find : ∀ (w : World) (a : α), Ok a → ∀ es : List MapEntry, (∀ e ∈ es, ∃ b, Ok b ∧ e.key = enc b) →
    ((Instr.findKey kt (enc a) es).run P w = .ok none w ∧ ∀ e ∈ es, e.key ≠ enc a) ∨ ∃ j e, (Instr.findKey kt (enc a) es).run P w = .ok (some (j, e.val)) w ∧ es[j]? = some e ∧ e.key = enc a
  stays : ∀ (w : World) (a : α), Ok a → (Instr.keyThatStays (enc a) (enc a)).run P w = .ok (enc a) w
theorem KeyW.ofLaw {P : Program} {kt : TypeId} {α : Type} {Ok : α → Prop} {enc : α → Value} (h : WideMaps.KeyLaw P kt) (hi : ∀ a b, enc a = enc b → a = b) (hk : ∀ a, Ok a → ∃ l, keyOf P kt (enc a) = some l) : KeyW P kt Ok enc :=
  ⟨hi, fun w em a ha => let ⟨_, e⟩ := hk a ha; h.check w em e, fun w a ha es hes => let ⟨_, e⟩ := hk a ha; h.find w e es fun x hx => by
      obtain ⟨b, hb, e⟩ := hes x hx
      rw [e]; exact hk b hb,
    fun w a ha => let ⟨_, e⟩ := hk a ha; h.stays w e⟩
/-- The map in block b holds m, all of whose keys are Ok. -/
def MapW {α : Type} (Ok : α → Prop) (enc : α → Value) (H : Heap) (b : Nat) (m : α → Option Value) : Prop := MapF enc H b m ∧ ∀ a v, m a = some v → Ok a
def TurnW {α : Type} (Ok : α → Prop) (enc : α → Value) (H : Heap) (K : Heap → Prop) (b : Nat) (m : α → Option Value) : Prop :=
  ∀ H', MapW Ok enc H' b m → Agr (fun k => k ≠ b) H H' → H'.size = H.size → K H'
section
variable {α : Type} {Ok : α → Prop} {enc : α → Value} {P : Program} {t kt et : TypeId} {z : Value} {S : Nat → Prop} {H : Heap} {b : Nat} {m : α → Option Value} {a : α}
theorem MapW.agr {H' : Heap} (h : MapW Ok enc H b m) (k : Agr S H H') (hb : S b) : MapW Ok enc H' b m := ⟨h.1.agr k hb, h.2⟩
theorem put_ok (h : ∀ a v, m a = some v → Ok a) (ha : Ok a) (v : Value) : ∀ b u, put m a (some v) b = some u → Ok b := fun b u hb => by
  by_cases hba : b = a
  · rw [hba]; exact ha
  · rw [put_ne hba] at hb; exact h b u hb
theorem find_specW (hk : KeyW P kt Ok enc) (ha : Ok a) (hok : ∀ a v, m a = some v → Ok a) {es : Array MapEntry} (hes : ∀ (i : Nat) (x : MapEntry), es[i]? = some x → ∃ a, x.key = enc a ∧ m a = some x.val) (hm : ∀ a v, m a = some v → ∃ (i : Nat) (x : MapEntry), es[i]? = some x ∧ x.key = enc a ∧ x.val = v) (w : World) :
    ((Instr.findKey kt (enc a) es.toList).run P w = .ok none w ∧ m a = none ∧ ∀ x ∈ es.toList, x.key ≠ enc a) ∨ ∃ j e, (Instr.findKey kt (enc a) es.toList).run P w = .ok (some (j, e.val)) w ∧ es[j]? = some e ∧ e.key = enc a ∧ m a = some e.val := by
  have hall : ∀ x ∈ es.toList, ∃ b, Ok b ∧ x.key = enc b := fun x hx => by
    obtain ⟨i, hi⟩ := List.getElem?_of_mem hx
    obtain ⟨b, e1, e2⟩ := hes i x (by simpa using hi)
    exact ⟨b, hok b _ e2, e1⟩
  rcases hk.find w a ha es.toList hall with ⟨h1, h2⟩ | ⟨j, e, h1, h2, h3⟩
  · refine .inl ⟨h1, ?_, h2⟩
    cases hma : m a with
    | none => rfl
    | some v =>
      obtain ⟨i, x, hx, he, _⟩ := hm a v hma
      exact absurd he (h2 x (List.mem_of_getElem? (by simpa using hx)))
  · have hj : es[j]? = some e := by simpa using h2
    refine .inr ⟨j, e, h1, hj, h3, ?_⟩
    obtain ⟨a', e1, e2⟩ := hes j e hj
    rw [hk.inj a a' (h3.symm.trans e1)]; exact e2
theorem mlookW (ht : MapTW P t kt et z) (hk : KeyW P kt Ok enc) (ha : Ok a) (h : MapW Ok enc H b m) (hb : S b) {K : Value → Prop} (k : K ((m a).getD z)) : VDet P (Instr.lookup t (.map (some b)) (enc a) false) S H K := by
  obtain ⟨⟨es, clock, h1, h2, h3, h4⟩, hok⟩ := h
  refine VDet.mk _ (fun w hw => ?_) k
  have hb' := (hw b hb).trans h1
  rcases find_specW hk ha hok h3 h4 w with ⟨e1, e2, e3⟩ | ⟨j, e, e1, e2, e3, e4⟩
  · simp [Instr.lookup, run_underlying ht.under, Go.MapKept.run_getObj_map hb', hk.check w _ a ha, e1, zero_run ht.zero, e2]
  · simp [Instr.lookup, run_underlying ht.under, Go.MapKept.run_getObj_map hb', hk.check w _ a ha, e1, e4]
theorem mlookOkW (ht : MapTW P t kt et z) (hk : KeyW P kt Ok enc) (ha : Ok a) (h : MapW Ok enc H b m) (hb : S b) {K : Value → Prop} (k : K (.tuple #[(m a).getD z, .bool (m a).isSome])) : VDet P (Instr.lookup t (.map (some b)) (enc a) true) S H K := by
  obtain ⟨⟨es, clock, h1, h2, h3, h4⟩, hok⟩ := h
  refine VDet.mk _ (fun w hw => ?_) k
  have hb' := (hw b hb).trans h1
  rcases find_specW hk ha hok h3 h4 w with ⟨e1, e2, e3⟩ | ⟨j, e, e1, e2, e3, e4⟩
  · simp [Instr.lookup, run_underlying ht.under, Go.MapKept.run_getObj_map hb', hk.check w _ a ha, e1, zero_run ht.zero, e2]
  · simp [Instr.lookup, run_underlying ht.under, Go.MapKept.run_getObj_map hb', hk.check w _ a ha, e1, e4]
theorem modify_oldW (hinj : ∀ a b, enc a = enc b → a = b) {es : Array MapEntry} {clock : Nat} (hs : Go.MapKept.Stamped es clock) (h3 : ∀ (i : Nat) (x : MapEntry), es[i]? = some x → ∃ a, x.key = enc a ∧ m a = some x.val) (h4 : ∀ a v, m a = some v → ∃ (i : Nat) (x : MapEntry), es[i]? = some x ∧ x.key = enc a ∧ x.val = v) {j : Nat} {e : MapEntry} (hj : es[j]? = some e) (he : e.key = enc a) {f : MapEntry → MapEntry} {v : Value}
    (hf1 : (f e).key = enc a) (hf2 : (f e).val = v) (hf3 : ∀ x, (f x).born = x.born) {H' : Heap}
    (hb : H'[b]? = some (.map (es.modify j f) clock)) : MapF enc H' b (put m a (some v)) ∧ StampF enc H' b a e.born := by
  have hgt : ∀ i x, (es.modify j f)[i]? = some x → (i ≠ j ∧ es[i]? = some x) ∨ (i = j ∧ x = f e) := by
    intro i x hx
    rw [Array.getElem?_modify] at hx
    by_cases hi : j = i
    · subst hi; rw [if_pos rfl, hj] at hx; exact .inr ⟨rfl, by cases hx; rfl⟩
    · rw [if_neg hi] at hx; exact .inl ⟨Ne.symm hi, hx⟩
  refine ⟨⟨_, _, hb, Go.MapKept.stamped_modify hs _ _ (fun x _ => hf3 x) (fun x _ hx => ?_), fun i x hx => ?_, fun a' v' hv => ?_⟩, _, _, hb, fun i x hx => ?_⟩
  · rw [hj] at hx; cases hx; rw [hf1, he]
  · rcases hgt i x hx with ⟨hne, hx⟩ | ⟨_, rfl⟩
    · obtain ⟨a', e1, e2⟩ := h3 i x hx
      have : a' ≠ a := fun h => hne (stamped_key hs hx hj (by rw [e1, h, he]))
      exact ⟨a', e1, by rw [put_ne this]; exact e2⟩
    · exact ⟨a, hf1, by rw [put_self, hf2]⟩
  · by_cases ha : a' = a
    · subst ha
      rw [put_self] at hv
      cases hv
      exact ⟨j, f e, by rw [Array.getElem?_modify, if_pos rfl, hj]; rfl, hf1, hf2⟩
    · rw [put_ne ha] at hv
      obtain ⟨i, x, hx, e1, e2⟩ := h4 a' v' hv
      refine ⟨i, x, ?_, e1, e2⟩
      rw [Array.getElem?_modify, if_neg ?_]
      · exact hx
      · rintro rfl
        rw [hj] at hx; cases hx
        exact ha (hinj _ _ (e1.symm.trans he))
  · rcases hgt i x hx with ⟨hne, hx⟩ | ⟨_, rfl⟩
    · exact ⟨fun h => absurd (stamped_born hs hx hj h) hne, fun h => absurd (stamped_key hs hx hj (h.trans he.symm)) hne⟩
    · exact ⟨fun _ => hf1, fun _ => hf3 e⟩
theorem mputW (ht : MapTW P t kt et z) (hk : KeyW P kt Ok enc) (ha : Ok a) (h : MapW Ok enc H b m) {v : Value} {K : Heap → Prop} (k : TurnW Ok enc H K b (put m a (some v))) : VEffU P (Instr.mapUpdate t (.map (some b)) (enc a) v) H K := by
  obtain ⟨⟨es, clock, h1, h2, h3, h4⟩, hok⟩ := h
  refine VEffU.mk fun w hw => ?_
  subst hw
  rcases find_specW hk ha hok h3 h4 w with ⟨e1, e2, e3⟩ | ⟨j, e, e1, e2, e3, e4⟩
  · obtain ⟨t1, t2, t3⟩ := set_turn (o' := .map (es.push ⟨enc a, v, clock⟩) (clock + 1)) h1
    exact ⟨setW w b (.map (es.push ⟨enc a, v, clock⟩) (clock + 1)), by simp [Instr.mapUpdate, run_underlying ht.under, Go.MapKept.run_getObj_map h1, hk.check w _ a ha, e1, Go.MapKept.run_setObj_map _ h1], ⟨rfl, rfl, rfl⟩, k _ ⟨(push_new h2 h3 h4 e3 t1).1, put_ok hok ha v⟩ t2 t3⟩
  · obtain ⟨t1, t2, t3⟩ := set_turn (o' := .map (es.modify j fun e => { e with key := enc a, val := v }) clock) h1
    exact ⟨setW w b (.map (es.modify j fun e => { e with key := enc a, val := v }) clock), by simp [Instr.mapUpdate, run_underlying ht.under, Go.MapKept.run_getObj_map h1, hk.check w _ a ha, e1, Go.MapKept.run_setObj_map _ h1, e2, e3, hk.stays w a ha], ⟨rfl, rfl, rfl⟩, k _ ⟨(modify_oldW hk.inj h2 h3 h4 e2 e3 (f := fun e => { e with key := enc a, val := v }) rfl rfl (fun _ => rfl) t1).1, put_ok hok ha v⟩ t2 t3⟩
theorem mentryW (ht : MapTW P t kt et z) (hk : KeyW P kt Ok enc) (ha : Ok a) (h : MapW Ok enc H b m) {K : Value → Heap → Prop}
    (k : ∀ H' s, MapW Ok enc H' b (put m a (some ((m a).getD z))) → StampF enc H' b a s → Agr (fun k => k ≠ b) H H' → H'.size = H.size → K (.tuple #[(m a).getD z, .int .i64 (s : Int)]) H') : VEff P (Instr.mapEntry t (.map (some b)) (enc a)) H K := by
  obtain ⟨⟨es, clock, h1, h2, h3, h4⟩, hok⟩ := h
  refine VEff.mk fun w hw => ?_
  subst hw
  rcases find_specW hk ha hok h3 h4 w with ⟨e1, e2, e3⟩ | ⟨j, e, e1, e2, e3, e4⟩
  · obtain ⟨t1, t2, t3⟩ := set_turn (o' := .map (es.push ⟨enc a, z, clock⟩) (clock + 1)) h1
    have hp := push_new h2 h3 h4 e3 t1
    refine ⟨.tuple #[z, .int .i64 (clock : Int)], setW w b (.map (es.push ⟨enc a, z, clock⟩) (clock + 1)), by simp [Instr.mapEntry, run_underlying ht.under, Go.MapKept.run_getObj_map h1, hk.check w _ a ha, e1, Go.MapKept.run_setObj_map _ h1, zero_run ht.zero, goInt], ⟨rfl, rfl, rfl⟩, ?_⟩
    have := k _ clock (by rw [e2]; exact ⟨hp.1, put_ok hok ha z⟩) hp.2 t2 t3
    rw [e2] at this
    exact this
  · obtain ⟨t1, t2, t3⟩ := set_turn (o' := .map (es.modify j fun e => { e with key := enc a }) clock) h1
    have hp := modify_oldW hk.inj h2 h3 h4 e2 e3 (f := fun e => { e with key := enc a }) (v := e.val) rfl rfl (fun _ => rfl) t1
    refine ⟨.tuple #[e.val, .int .i64 (e.born : Int)], setW w b (.map (es.modify j fun e => { e with key := enc a }) clock), by simp [Instr.mapEntry, run_underlying ht.under, Go.MapKept.run_getObj_map h1, hk.check w _ a ha, e1, Go.MapKept.run_setObj_map _ h1, e2, e3, hk.stays w a ha, goInt], ⟨rfl, rfl, rfl⟩, ?_⟩
    have := k _ e.born (by rw [e4]; exact ⟨hp.1, put_ok hok ha e.val⟩) hp.2 t2 t3
    rw [e4] at this
    exact this
theorem mstoreW {u : TypeId} (hk : KeyW P kt Ok enc) (ha : Ok a) (h : MapW Ok enc H b m) {s : Nat} (hs : StampF enc H b a s) (hin : (m a).isSome = true) {v : Value} {K : Heap → Prop} (k : TurnW Ok enc H K b (put m a (some v))) : VEffU P (Instr.entryStore u (.map (some b)) (.int .i64 (s : Int)) v) H K := by
  obtain ⟨⟨es, clock, h1, h2, h3, h4⟩, hok⟩ := h
  obtain ⟨es', clock', h1', h5⟩ := hs
  rw [h1] at h1'; cases h1'
  refine VEffU.mk fun w hw => ?_
  subst hw
  obtain ⟨v0, hv0⟩ := Option.isSome_iff_exists.1 hin
  obtain ⟨i, x, hx, q1, q2⟩ := h4 a v0 hv0
  have hb := (h5 i x hx).2 q1
  have hfi : es.findIdx? (fun e => (e.born : Int) == (s : Int)) = some i := by
    rw [Array.findIdx?_eq_some_iff_getElem]
    have hil := (Array.getElem?_eq_some_iff.1 hx).1
    have hxi : es[i] = x := (Array.getElem?_eq_some_iff.1 hx).2
    refine ⟨hil, by simp [hxi, hb], fun j hji => ?_⟩
    have hjx : es[j]? = some es[j] := Array.getElem?_eq_getElem (by omega)
    intro hbj
    have hbj' : es[j].born = s := by
      have : (es[j].born : Int) = (s : Int) := by simpa using hbj
      omega
    have := stamped_born h2 hjx hx (hbj'.trans hb.symm)
    omega
  obtain ⟨t1, t2, t3⟩ := set_turn (o' := .map (es.modify i fun e => { e with val := v }) clock) h1
  exact ⟨setW w b (.map (es.modify i fun e => { e with val := v }) clock), by simp [Instr.entryStore, Go.MapKept.run_getObj_map h1, asInt, asIntOf, hfi, Go.MapKept.run_setObj_map _ h1], ⟨rfl, rfl, rfl⟩, k _ ⟨(modify_oldW hk.inj h2 h3 h4 hx q1 (f := fun e => { e with val := v }) q1 rfl (fun _ => rfl) t1).1, put_ok hok ha v⟩ t2 t3⟩
theorem mmakeW {K : Value → Heap → Prop} (k : ∀ b H', b = H.size → H'.size = b + 1 → MapW Ok enc H' b (fun _ => none) → Agr (fun k => k < b) H H' → K (.map (some b)) H') : VEff P (Instr.makeMap t none) H K :=
  mmake fun b H' h1 h2 h3 h4 => k b H' h1 h2 ⟨h3, fun a v h => by cases h⟩ h4
end
end Go.VC

/- Going through a map of the call's own; wide-keyed maps and loops over them as pieces. -/
set_option linter.unusedVariables false
set_option linter.unusedSimpArgs false
namespace Go.VC
/-- The map in block b holds m, and is gone through by the iterator in block r: D have come, `last` the last of them; n are still to come. -/
def IterW {α : Type} (Ok : α → Prop) (enc : α → Value) (H : Heap) (b r : Nat) (m : α → Option Value) (D : α → Prop) (last : Option α) (n : Nat) : Prop :=
  (∃ es clock seen, H[b]? = some (.map es clock) ∧ Go.MapKept.Stamped es clock ∧ (∀ (i : Nat) (x : MapEntry), es[i]? = some x → ∃ a, x.key = enc a ∧ m a = some x.val) ∧
    (∀ a v, m a = some v → ∃ (i : Nat) (x : MapEntry), es[i]? = some x ∧ x.key = enc a ∧ x.val = v) ∧ H[r]? = some (.mapIter (some b) clock seen clock) ∧
    (∀ (i : Nat) (x : MapEntry) (a : α), es[i]? = some x → x.key = enc a → (seen.contains x.born = true ↔ D a)) ∧ n = (leftOf es seen).size ∧
    ∀ a, last = some a → ∃ (e : MapEntry) (s0 : Array Nat), e ∈ es.toList ∧ e.key = enc a ∧ seen = s0.push e.born) ∧ (∀ a v, m a = some v → Ok a)
section
variable {α : Type} {Ok : α → Prop} {enc : α → Value} {P : Program} {t kt et : TypeId} {z : Value} {S : Nat → Prop} {H : Heap} {b r n : Nat} {m : α → Option Value} {D : α → Prop} {last : Option α}
theorem IterW.agr {H' : Heap} (h : IterW Ok enc H b r m D last n) (k : Agr S H H') (hb : S b) (hr : S r) : IterW Ok enc H' b r m D last n := by
  obtain ⟨⟨es, clock, seen, h1, h2, h3, h4, h5, h6⟩, h7⟩ := h
  exact ⟨⟨es, clock, seen, (k b hb).trans h1, h2, h3, h4, (k r hr).trans h5, h6⟩, h7⟩
theorem IterW.map (h : IterW Ok enc H b r m D last n) : MapW Ok enc H b m := by
  obtain ⟨⟨es, clock, seen, h1, h2, h3, h4, h5, h6⟩, h7⟩ := h
  exact ⟨⟨es, clock, h1, h2, h3, h4⟩, h7⟩
theorem IterW.ext {D' : α → Prop} (hi : ∀ a b, enc a = enc b → a = b) (h : IterW Ok enc H b r m D last n) (k : ∀ a, (m a).isSome = true → (D a ↔ D' a)) : IterW Ok enc H b r m D' last n := by
  obtain ⟨⟨es, clock, seen, h1, h2, h3, h4, h5, h6, h8⟩, h7⟩ := h
  refine ⟨⟨es, clock, seen, h1, h2, h3, h4, h5, fun i x a hx hk => ?_, h8⟩, h7⟩
  rw [h6 i x a hx hk]
  obtain ⟨a', e1, e2⟩ := h3 i x hx
  obtain rfl := hi _ _ (hk.symm.trans e1)
  exact k a (by rw [e2]; rfl)
theorem left_push (es : Array MapEntry) (seen : Array Nat) {e : MapEntry} (he : e ∈ (leftOf es seen).toList) : (leftOf es (seen.push e.born)).size < (leftOf es seen).size := by
  have h1 : leftOf es (seen.push e.born) = (leftOf es seen).filter fun x => !(x.born == e.born) := by
    unfold leftOf
    rw [Array.filter_filter]
    congr 1
    funext x
    rw [Array.contains_push]
    cases h1 : seen.contains x.born <;> cases h2 : x.born == e.born <;> simp_all
  have h2 : ((leftOf es seen).filter fun x => !(x.born == e.born)).size = ((leftOf es seen).toList.filter fun x => !(x.born == e.born)).length := by rw [← Array.toList_filter, Array.length_toList]
  rw [h1, h2, ← Array.length_toList]
  exact List.length_filter_lt_length_iff_exists.2 ⟨e, he, by simp⟩
theorem mrange (ht : MapTW P t kt et z) (h : MapW Ok enc H b m) {K : Value → Heap → Prop}
    (k : ∀ r n H', r = H.size → H'.size = r + 1 → IterW Ok enc H' b r m (fun _ => False) none n → Agr (fun k => k < H.size) H H' → K (.pointer (some ⟨r, 0, none⟩)) H') : VEff P (Instr.range t (.map (some b))) H K := by
  obtain ⟨⟨es, clock, h1, h2, h3, h4⟩, hok⟩ := h
  refine VEff.mk fun w hw => ?_
  subst hw
  have hbl : b < w.heap.size := (Array.getElem?_eq_some_iff.1 h1).1
  refine ⟨_, w.alloc (.mapIter (some b) clock #[] clock), by simp [Instr.range, run_underlying ht.under, Go.MapKept.run_getObj_map h1], ⟨rfl, rfl, rfl⟩, k w.heap.size (leftOf es #[]).size _ rfl (by rw [alloc_heap]; simp) ⟨⟨es, clock, #[], ?_, h2, h3, h4, by rw [alloc_heap]; simp, fun i x a hx hk => by simp, rfl, fun a h => by cases h⟩, hok⟩ (heap_push_old _ _)⟩
  rw [alloc_heap, Array.getElem?_push, if_neg (by omega)]; exact h1
theorem mnext {ty : TypeId} (hi : ∀ a b, enc a = enc b → a = b) (h : IterW Ok enc H b r m D last n) {K : Value → Heap → Prop} (k0 : (∀ a, (m a).isSome = true → D a) → K (.tuple #[.bool false]) H)
    (k1 : ∀ a v H' n', m a = some v → ¬ D a → n' < n → IterW Ok enc H' b r m (fun x => D x ∨ x = a) (some a) n' → Agr (fun k => k ≠ r) H H' → H'.size = H.size → K (.tuple #[.bool true, enc a, v]) H') : VEff P (Instr.next (.pointer (some ⟨r, 0, none⟩)) false ty) H K := by
  obtain ⟨⟨es, clock, seen, h1, h2, h3, h4, h5, h6, h7, h8⟩, hok⟩ := h
  refine VEff.mk fun w hw => ?_
  subst hw
  have hbr : b ≠ r := by
    rintro rfl
    rw [h1] at h5; cases h5
  have hml : ∀ x, x ∈ (leftOf es seen).toList ↔ x ∈ es.toList ∧ seen.contains x.born = false := fun x => by
    unfold leftOf
    rw [Array.toList_filter, List.mem_filter, Bool.not_eq_true']
  rcases run_next_at (P := P) w ty r b clock clock seen es clock h5 h1 h2.1 (Nat.le_refl _) with ⟨e1, e2⟩ | ⟨e, he, w1, hw1, e2⟩
  · refine ⟨_, w, e2, Env.refl w, k0 fun a ha => ?_⟩
    obtain ⟨v, hv⟩ := Option.isSome_iff_exists.1 ha
    obtain ⟨i, x, hx, hk, -⟩ := h4 a v hv
    refine (h6 i x a hx hk).1 ?_
    cases hs : seen.contains x.born with
    | true => rfl
    | false =>
      have := (hml x).2 ⟨List.mem_of_getElem? (i := i) (by simpa using hx), hs⟩
      have h0 : (leftOf es seen).toList = [] := List.eq_nil_of_length_eq_zero (by rw [Array.length_toList]; exact e1)
      rw [h0] at this; cases this
  · obtain ⟨he1, he2⟩ := (hml e).1 he
    obtain ⟨j, hj⟩ := List.getElem?_of_mem he1
    have hj' : es[j]? = some e := by simpa using hj
    obtain ⟨a, hka, hma⟩ := h3 j e hj'
    have hnD : ¬ D a := fun hd => by
      rw [(h6 j e a hj' hka).2 hd] at he2; cases he2
    have hw1h : w1.heap = w.heap := by rcases hw1 with rfl | rfl <;> rfl
    have hw1e : Env w w1 := by rcases hw1 with rfl | rfl <;> exact ⟨rfl, rfl, rfl⟩
    have hrl : r < w.heap.size := (Array.getElem?_eq_some_iff.1 h5).1
    have hset : (Go.ChangeMaps.setBlock w1 r (.mapIter (some b) clock (seen.push e.born) clock)).heap = w.heap.setIfInBounds r (.mapIter (some b) clock (seen.push e.born) clock) := by
      show w1.heap.setIfInBounds r _ = _
      rw [hw1h]
    refine ⟨_, _, e2, ⟨hw1e.os, hw1e.tape, hw1e.output⟩, ?_⟩
    rw [hka]
    refine k1 a e.val _ _ hma hnD (h7 ▸ left_push es seen he) ⟨⟨es, clock, seen.push e.born, ?_, h2, h3, h4, ?_, fun i x a' hx hk => ?_, rfl, fun a' ha' => ?_⟩, hok⟩ ?_ ?_
    · rw [hset, Array.getElem?_setIfInBounds_ne (Ne.symm hbr)]; exact h1
    · rw [hset, Array.getElem?_setIfInBounds_self_of_lt hrl]
    · rw [Array.contains_push, Bool.or_eq_true, h6 i x a' hx hk, beq_iff_eq]
      refine or_congr Iff.rfl ⟨fun hb => ?_, fun ha' => ?_⟩
      · obtain rfl := stamped_born h2 hx hj' hb
        rw [hj'] at hx; cases hx
        exact hi _ _ (hk.symm.trans hka)
      · subst ha'
        obtain rfl := stamped_key h2 hx hj' (hk.trans hka.symm)
        rw [hj'] at hx; cases hx; rfl
    · cases ha'
      exact ⟨e, seen, he1, hka, rfl⟩
    · rw [hset]
      exact fun k hk => Array.getElem?_setIfInBounds_ne (Ne.symm hk)
    · rw [hset]; simp
theorem mhere {a : α} {v : Value} (h : IterW Ok enc H b r m D (some a) n) (hi : ∀ a b, enc a = enc b → a = b) (hv : m a = some v) {K : Value → Heap → Prop} (k : K (.tuple #[enc a, v]) H) : VEff P (Instr.entry (.pointer (some ⟨r, 0, none⟩))) H K := by
  obtain ⟨⟨es, clock, seen, h1, h2, h3, h4, h5, h6, h7, h8⟩, hok⟩ := h
  obtain ⟨e, s0, he, hk, rfl⟩ := h8 a rfl
  refine VEff.mk fun w hw => ?_
  subst hw
  obtain ⟨i, x, hx, hkx, hvx⟩ := h4 a v hv
  obtain ⟨j, hj⟩ := List.getElem?_of_mem he
  have hj' : es[j]? = some e := by simpa using hj
  obtain rfl := stamped_key h2 hx hj' (hkx.trans hk.symm)
  rw [hj'] at hx; cases hx
  refine ⟨_, w, run_entry_at w r b clock s0 es clock e h5 h1 he h2.2.1, Env.refl w, ?_⟩
  rw [hk, hvx]; exact k
theorem mlen {vt : TypeId} (ht : MapTW P t kt et z) (h : MapW Ok enc H b m) (hb : S b) {K : Value → Prop} (k : ∀ c : Nat, (c = 0 ↔ ∀ a, m a = none) → K (.int .i64 (c : Int))) : VDet P (Builtin.len_ #[t] vt [.map (some b)].toArray) S H K := by
  obtain ⟨⟨es, clock, h1, h2, h3, h4⟩, hok⟩ := h
  refine VDet.mk _ (fun w hw => ?_) (k es.size ⟨fun h0 a => ?_, fun h0 => ?_⟩)
  · have hb' := (hw b hb).trans h1
    simp [Builtin.len_, run_underlying ht.under, Go.MapKept.run_getObj_map hb', goInt]
  · cases hma : m a with
    | none => rfl
    | some v =>
      obtain ⟨i, x, hx, -⟩ := h4 a v hma
      have := (Array.getElem?_eq_some_iff.1 hx).1
      omega
  · apply Classical.byContradiction
    intro hne
    obtain ⟨a, -, e⟩ := h3 0 es[0] (Array.getElem?_eq_getElem (by omega))
    rw [h0 a] at e; cases e
end

/-! ### as pieces -/
section
variable {α : Type} {Ok : α → Prop} {enc : α → Value} {b r n : Nat} {m m' : α → Option Value} {D : α → Prop} {last : Option α} {B : Nat → Prop} {H0 H H' : Heap} {ps : List Pc} {P : Program} {t kt et : TypeId} {z : Value}
def pMW (Ok : α → Prop) (enc : α → Value) (b : Nat) (m : α → Option Value) : Pc := ⟨fun k => k = b, fun H => MapW Ok enc H b m, fun h hp => hp.agr h rfl⟩
def pIW (Ok : α → Prop) (enc : α → Value) (b r : Nat) (m : α → Option Value) (D : α → Prop) (last : Option α) (n : Nat) : Pc := ⟨fun k => k = b ∨ k = r, fun H => IterW Ok enc H b r m D last n, fun h hp => hp.agr h (.inl rfl) (.inr rfl)⟩
theorem StB.mapW (st : StB B H0 H ps) (i : Nat) (hp : ps[i]? = some (pMW Ok enc b m)) : MapW Ok enc H b m := st.at_ i hp
theorem StB.iterW (st : StB B H0 H ps) (i : Nat) (hp : ps[i]? = some (pIW Ok enc b r m D last n)) : IterW Ok enc H b r m D last n := st.at_ i hp
theorem StB.mapNewW (st : StB B H0 H ps) (hb : b = H.size) (hs : H'.size = b + 1) (hm : MapW Ok enc H' b (fun _ => none)) (ha : Agr (fun k => k < b) H H') : StB B H0 H' (ps ++ [pMW Ok enc b fun _ => none]) := by
  subst hb
  exact st.add (ha.mono fun k hk => hk) _ hm fun k hk => by have : k = H.size := hk; omega
theorem mputPW {v : Value} {a : α} {K : Heap → Prop} (st : StB B H0 H ps) (i : Nat) (ht : MapTW P t kt et z) (hk : KeyW P kt Ok enc) (ha : Ok a) (hp : ps[i]? = some (pMW Ok enc b m)) (hm : put m a (some v) = m')
    (k : ∀ H', StB B H0 H' (ps.set i (pMW Ok enc b m')) → K H') : VEffU P (Instr.mapUpdate t (.map (some b)) (enc a) v) H K := by
  refine mputW ht hk ha (st.mapW i hp) ?_
  intro H' hb' ha' hs'
  subst hm
  exact k H' (st.upd i hp (ha'.mono fun k hk hkb => hk.2 hkb) _ hb' (fun k hk => .inl hk) (fun k hk => by rw [hs']; exact (st.in_ i hp hk).2) (by omega))
theorem mrangeP {K : Value → Heap → Prop} (st : StB B H0 H ps) (i : Nat) (ht : MapTW P t kt et z) (hp : ps[i]? = some (pMW Ok enc b m))
    (k : ∀ r n H', StB B H0 H' (ps.set i (pIW Ok enc b r m (fun _ => False) none n)) → K (.pointer (some ⟨r, 0, none⟩)) H') : VEff P (Instr.range t (.map (some b))) H K := by
  refine mrange ht (st.mapW i hp) fun r n H' hr hs hi ha => ?_
  subst hr
  have hbl := (st.in_ i hp (k := b) rfl).2
  refine k _ n H' (st.upd i hp (ha.mono fun k hk => hk.1) _ hi (fun k hk => ?_) (fun k hk => ?_) (by omega))
  · rcases hk with hk | hk
    · exact .inl hk
    · exact .inr (by omega)
  · rcases hk with rfl | rfl <;> omega
theorem mnextP {ty : TypeId} {K : Value → Heap → Prop} (st : StB B H0 H ps) (i : Nat) (hi : ∀ a b, enc a = enc b → a = b) (hp : ps[i]? = some (pIW Ok enc b r m D last n)) (k0 : (∀ a, (m a).isSome = true → D a) → K (.tuple #[.bool false]) H)
    (k1 : ∀ a v H' n', m a = some v → ¬ D a → n' < n → StB B H0 H' (ps.set i (pIW Ok enc b r m (fun x => D x ∨ x = a) (some a) n')) → K (.tuple #[.bool true, enc a, v]) H') : VEff P (Instr.next (.pointer (some ⟨r, 0, none⟩)) false ty) H K := by
  refine mnext hi (st.iterW i hp) k0 fun a v H' n' h1 h2 h3 h4 h5 h6 => k1 a v H' n' h1 h2 h3 (st.upd i hp (h5.mono fun k hk hkr => hk.2 (.inr hkr)) _ h4 (fun k hk => .inl hk) (fun k hk => by rw [h6]; exact (st.in_ i hp hk).2) (by omega))
/-- A loop over a map has ended. -/
theorem StB.iterEnd (st : StB B H0 H ps) (i : Nat) (hp : ps[i]? = some (pIW Ok enc b r m D last n)) : StB B H0 H (ps.set i (pMW Ok enc b m)) :=
  st.upd i hp (Agr.refl _ _) _ (st.iterW i hp).map (fun k hk => .inl (.inl hk)) (fun k hk => (st.in_ i hp (.inl hk)).2) (Nat.le_refl _)
end
end Go.VC

/- Appending to own slices without a bound but the model's; maps of slices with wide keys as pieces. -/
set_option linter.unusedVariables false
set_option linter.unusedSimpArgs false
namespace Go.VC
section
variable {α : Type} {T : Ty α} {e : TypeId} {a : Option Addr} {n cap : Nat} {xs : List α} {B : Nat → Prop} {H0 H : Heap} {ps : List Pc}
theorem appG {P : Program} {t ty q o m cap2 by_ : Nat} {z : Value} {ys : List α} {ds : List Value} {K : Value → Heap → Prop} (st : StB B H0 H ps) (i : Nat) (ht : SlT P t e T.size by_ z) (hp : ps[i]? = some (pS T e a n cap xs))
    (hd : Cells H q o ds) (hy : T.reps none_ H ds ys) (hm : m = ys.length) (h1 : ∀ u ∈ ds, u.oneCell' = true) (h63 : xs.length + ys.length ≤ maxLen) (hby : (xs.length + ys.length) * by_ ≤ 140737488355328)
    (k : ∀ a' cap' H', StB B H0 H' (ps.set i (pS T e a' (xs.length + ys.length) cap' (xs ++ ys))) → Agr (fun k => k < H.size ∧ ¬ slB (.slice a n cap) k) H H' → K (.slice a' (xs.length + ys.length) cap') H') :
    VEff P (Builtin.append_ #[t, t] ty [.slice a n cap, .slice (some ⟨q, o, none⟩) m cap2].toArray) H K := by
  refine vappendO (T := T) (S := none_) (lo := 0) ht (st.at_ i hp).1 (Nat.zero_le _) (fun k hk => hk.elim) hd hy hm h1 h63 hby ?_
  intro v' H' hown hagr hsz hfr
  obtain ⟨a', cap', rfl⟩ := hown.hull
  rw [List.length_append] at hown hfr ⊢
  refine k a' cap' H' (st.upd i hp (hagr.mono fun k hk => ⟨hk.1, fun hb => hk.2 (.inl hb)⟩) _ ⟨hown, fun k hk => hk.elim⟩ (fun k hk => ?_) (fun k hk => ?_) hsz) hagr
  · rcases hk with hk | hk
    · rcases hfr k hk with h | h
      · exact .inl (.inl h)
      · exact .inr h
    · exact hk.elim
  · rcases hk with hk | hk
    · exact (hown.lt hk).2
    · exact hk.elim
end

/-! ### maps of slices -/
section
variable {α β : Type} {Ok : α → Prop} {enc : α → Value} {T : Ty β} {e : TypeId} {b : Nat} {m : α → Option Value} {xs : α → List β} {B : Nat → Prop} {H0 H H' : Heap} {ps : List Pc} {P : Program} {t kt et : TypeId} {a : α}
/-- A map of own slices. -/
def pMQ (Ok : α → Prop) (enc : α → Value) (T : Ty β) (e : TypeId) (b : Nat) (m : α → Option Value) (xs : α → List β) : Pc where
  foot k := k = b ∨ ∃ a, slB (slAt m a) k
  ok H := MapW Ok enc H b m ∧ (∀ a, SlO T none_ H 0 e (slAt m a) (xs a)) ∧ (∀ a a' k, a ≠ a' → slB (slAt m a) k → ¬ slB (slAt m a') k) ∧ ∀ a, ¬ slB (slAt m a) b
  fr h hp := ⟨hp.1.agr h (.inl rfl), fun a => (hp.2.1 a).agr h (fun k hk => .inr ⟨a, hk⟩) (fun _ hk => hk.elim), hp.2.2⟩
theorem StB.mqMap (st : StB B H0 H ps) (i : Nat) (hp : ps[i]? = some (pMQ Ok enc T e b m xs)) : MapW Ok enc H b m := (st.at_ i hp).1
theorem StB.mqView (st : StB B H0 H ps) (i : Nat) (hp : ps[i]? = some (pMQ Ok enc T e b m xs)) (a : α) : ∃ ad cap, slAt m a = .slice ad (xs a).length cap ∧ SlD T (Old H) H ad cap (xs a) := by
  obtain ⟨ad, cap, h1, h2, -⟩ := ((st.at_ i hp).2.1 a).view (S' := Old H) (fun k hk => (st.in_ i hp (.inr ⟨a, hk⟩)).2) (fun _ hk => hk.elim)
  exact ⟨ad, cap, h1, h2⟩
theorem StB.mqNew (st : StB B H0 H ps) (i : Nat) (hp : ps[i]? = some (pMW Ok enc b fun _ => none)) : StB B H0 H (ps.set i (pMQ Ok enc T e b (fun _ => none) fun _ => [])) := by
  refine st.upd i hp (Agr.refl _ _) _ ⟨st.mapW i hp, fun a => SlO.nil, fun a a' k _ hk => ?_, fun a hk => ?_⟩ (fun k hk => ?_) (fun k hk => ?_) (Nat.le_refl _)
  · obtain ⟨o, n, c, h⟩ := hk; cases h
  · obtain ⟨o, n, c, h⟩ := hk; cases h
  · rcases hk with hk | ⟨a, o, n, c, h⟩
    · exact .inl hk
    · cases h
  · rcases hk with hk | ⟨a, o, n, c, h⟩
    · exact (st.in_ i hp hk).2
    · cases h
/-- The same, while the slice at a is out, as v', holding x'. -/
def pMQm (Ok : α → Prop) (enc : α → Value) (T : Ty β) (e : TypeId) (b : Nat) (m : α → Option Value) (xs : α → List β) (a : α) (v' : Value) (x' : List β) : Pc where
  foot k := k = b ∨ slB v' k ∨ ∃ c, c ≠ a ∧ slB (slAt m c) k
  ok H := MapW Ok enc H b m ∧ (m a).isSome = true ∧ SlO T none_ H 0 e v' x' ∧ (∀ c, c ≠ a → SlO T none_ H 0 e (slAt m c) (xs c)) ∧ (∀ c c' k, c ≠ a → c' ≠ a → c ≠ c' → slB (slAt m c) k → ¬ slB (slAt m c') k) ∧ (∀ c k, c ≠ a → slB (slAt m c) k → ¬ slB v' k) ∧ (∀ c, c ≠ a → ¬ slB (slAt m c) b) ∧ ¬ slB v' b
  fr h hp := ⟨hp.1.agr h (.inl rfl), hp.2.1, hp.2.2.1.agr h (fun k hk => .inr (.inl hk)) (fun _ hk => hk.elim), fun c hc => (hp.2.2.2.1 c hc).agr h (fun k hk => .inr (.inr ⟨c, hc, hk⟩)) (fun _ hk => hk.elim), hp.2.2.2.2⟩
theorem mentryQ (st : StB B H0 H ps) (i : Nat) (ht : MapTW P t kt et (.slice none 0 0)) (hk : KeyW P kt Ok enc) (ha : Ok a) (hp : ps[i]? = some (pMQ Ok enc T e b m xs)) {K : Value → Heap → Prop}
    (k : ∀ s m' H', StampF enc H' b a s → Agr (fun k => k ≠ b) H H' → (∀ c, (m' c).isSome = true ↔ (m c).isSome = true ∨ c = a) → StB B H0 H' (ps.set i (pMQm Ok enc T e b m' xs a (slAt m a) (xs a))) → K (.tuple #[slAt m a, .int .i64 (s : Int)]) H') : VEff P (Instr.mapEntry t (.map (some b)) (enc a)) H K := by
  obtain ⟨hmap, hown, hap, hb⟩ := st.at_ i hp
  refine mentryW ht hk ha hmap fun H' s h1 h2 h3 h4 => ?_
  have e1 : ∀ c, slAt (put m a (some ((m a).getD (.slice none 0 0)))) c = slAt m c := fun c => by
    by_cases hc : c = a
    · subst hc; rw [slAt_put]; rfl
    · rw [slAt_ne hc]
  refine k s _ H' h2 h3 (fun c => ?_) (st.upd i hp (h3.mono fun k hk hkb => hk.2 (.inl hkb)) (pMQm Ok enc T e b (put m a (some ((m a).getD (.slice none 0 0)))) xs a (slAt m a) (xs a)) ⟨h1, by rw [put_self]; rfl, ?_, fun c hc => ?_, fun c c' k hc hc' hcc => ?_, fun c k hc => ?_, fun c hc => ?_, hb a⟩ (fun k hk => ?_) (fun k hk => ?_) (by omega))
  · by_cases hc : c = a
    · subst hc; rw [put_self]; simp
    · rw [put_ne hc]; simp [hc]
  · exact (hown a).agr h3 (fun k hk hkb => hb a (hkb ▸ hk)) (fun _ hk => hk.elim)
  · rw [e1]; exact (hown c).agr h3 (fun k hk hkb => hb c (hkb ▸ hk)) (fun _ hk => hk.elim)
  · rw [e1, e1]; exact hap c c' k hcc
  · rw [e1]; exact hap c a k hc
  · rw [e1]; exact hb c
  · refine .inl ?_
    rcases hk with hk | hk | ⟨c, -, hk⟩
    · exact .inl hk
    · exact .inr ⟨a, hk⟩
    · rw [e1] at hk; exact .inr ⟨c, hk⟩
  · rw [h4]
    rcases hk with hk | hk | ⟨c, -, hk⟩
    · exact (st.in_ i hp (.inl hk)).2
    · exact (st.in_ i hp (.inr ⟨a, hk⟩)).2
    · rw [e1] at hk; exact (st.in_ i hp (.inr ⟨c, hk⟩)).2
theorem appQm {ty q o l cap2 by_ : Nat} {z v : Value} {x : List β} {ys : List β} {ds : List Value} {tt : TypeId} {K : Value → Heap → Prop} (st : StB B H0 H ps) (i : Nat) (ht : SlT P tt e T.size by_ z) (hp : ps[i]? = some (pMQm Ok enc T e b m xs a v x))
    (hd : Cells H q o ds) (hy : T.reps none_ H ds ys) (hl : l = ys.length) (h1 : ∀ u ∈ ds, u.oneCell' = true) (h63 : x.length + ys.length ≤ maxLen) (hby : (x.length + ys.length) * by_ ≤ 140737488355328)
    (k : ∀ v' H', StB B H0 H' (ps.set i (pMQm Ok enc T e b m xs a v' (x ++ ys))) → Agr (fun k => k < H.size ∧ ¬ slB v k) H H' → ¬ slB v b → K v' H') :
    VEff P (Builtin.append_ #[tt, tt] ty [v, .slice (some ⟨q, o, none⟩) l cap2].toArray) H K := by
  obtain ⟨hmap, hin, hv, hown, hap, hapv, hb, hvb⟩ := st.at_ i hp
  have hlt : ∀ c, c ≠ a → ∀ k, slB (slAt m c) k → k < H.size := fun c hc k hk => (st.in_ i hp (.inr (.inr ⟨c, hc, hk⟩))).2
  have hbl : b < H.size := (st.in_ i hp (.inl rfl)).2
  refine vappendO (T := T) (S := none_) (lo := 0) ht hv (Nat.zero_le _) (fun k hk => hk.elim) hd hy hl h1 h63 hby ?_
  intro v' H' hv' hagr hsz hfr
  refine k v' H' (st.upd i hp (hagr.mono fun k hk => ⟨hk.1, fun hb => hk.2 (.inr (.inl hb))⟩) (pMQm Ok enc T e b m xs a v' (x ++ ys)) ⟨hmap.agr hagr ⟨hbl, hvb⟩, hin, hv', fun c hc => (hown c hc).agr hagr (fun k hk => ⟨hlt c hc k hk, hapv c k hc hk⟩) (fun _ hk => hk.elim), hap, fun c k hc hk hk' => ?_, hb, fun hk => ?_⟩ (fun k hk => ?_) (fun k hk => ?_) hsz) hagr hvb
  · rcases hfr k hk' with h | h
    · exact hapv c k hc hk h
    · have := hlt c hc k hk; omega
  · rcases hfr b hk with h | h
    · exact hvb h
    · omega
  · rcases hk with hk | hk | hk
    · exact .inl (.inl hk)
    · rcases hfr k hk with h | h
      · exact .inl (.inr (.inl h))
      · exact .inr h
    · exact .inl (.inr (.inr hk))
  · rcases hk with hk | hk | ⟨c, hc, hk⟩
    · have : k = b := hk; omega
    · exact (hv'.lt hk).2
    · have := hlt c hc k hk; omega
theorem mstoreQ {u : TypeId} {s : Nat} {v : Value} {x : List β} {K : Heap → Prop} (st : StB B H0 H ps) (i : Nat) (hk : KeyW P kt Ok enc) (ha : Ok a) (hp : ps[i]? = some (pMQm Ok enc T e b m xs a v x)) (hs : StampF enc H b a s)
    (k : ∀ m' H', (∀ c, (m' c).isSome = true ↔ (m c).isSome = true) → StB B H0 H' (ps.set i (pMQ Ok enc T e b m' (upd xs a x))) → K H') : VEffU P (Instr.entryStore u (.map (some b)) (.int .i64 (s : Int)) v) H K := by
  obtain ⟨hmap, hin, hv, hown, hap, hapv, hb, hvb⟩ := st.at_ i hp
  refine mstoreW hk ha hmap hs hin ?_
  intro H' h1 h2 h3
  have e1 : slAt (put m a (some v)) a = v := slAt_put m a v
  have e2 : ∀ c, c ≠ a → slAt (put m a (some v)) c = slAt m c := fun c hc => slAt_ne hc
  refine k _ H' (fun c => ?_) (st.upd i hp (h2.mono fun k hk hkb => hk.2 (.inl hkb)) (pMQ Ok enc T e b (put m a (some v)) (upd xs a x)) ⟨h1, fun c => ?_, fun c c' k hcc => ?_, fun c => ?_⟩ (fun k hk => ?_) (fun k hk => ?_) (by omega))
  · by_cases hc : c = a
    · subst hc; rw [put_self]; simp [hin]
    · rw [put_ne hc]
  · by_cases hc : c = a
    · subst hc; rw [e1, upd_self]; exact hv.agr h2 (fun k hk hkb => hvb (hkb ▸ hk)) (fun _ hk => hk.elim)
    · rw [e2 c hc, upd_ne hc]; exact (hown c hc).agr h2 (fun k hk hkb => hb c hc (hkb ▸ hk)) (fun _ hk => hk.elim)
  · by_cases hc : c = a
    · subst hc
      rw [e1, e2 c' (Ne.symm hcc)]
      exact fun h1 h2 => hapv c' _ (Ne.symm hcc) h2 h1
    · by_cases hc' : c' = a
      · subst hc'
        rw [e1, e2 c hc]
        exact hapv c _ hc
      · rw [e2 c hc, e2 c' hc']; exact hap c c' k hc hc' hcc
  · by_cases hc : c = a
    · subst hc; rw [e1]; exact hvb
    · rw [e2 c hc]; exact hb c hc
  · refine .inl ?_
    rcases hk with hk | ⟨c, hk⟩
    · exact .inl hk
    · by_cases hc : c = a
      · subst hc; rw [e1] at hk; exact .inr (.inl hk)
      · rw [e2 c hc] at hk; exact .inr (.inr ⟨c, hc, hk⟩)
  · rw [h3]
    rcases hk with hk | ⟨c, hk⟩
    · exact (st.in_ i hp (.inl hk)).2
    · by_cases hc : c = a
      · subst hc; rw [e1] at hk; exact (st.in_ i hp (.inr (.inl hk))).2
      · rw [e2 c hc] at hk; exact (st.in_ i hp (.inr (.inr ⟨c, hc, hk⟩))).2
end
end Go.VC

/- A block whose cells hold slices of the call's own, of several types. -/
set_option linter.unusedVariables false
set_option linter.unusedSimpArgs false
namespace Go.VC
/-- What a slice of the call's own holds. -/
structure Slot where
  ok : Heap → Value → Prop
  fr : ∀ {S : Nat → Prop} {H H' : Heap} {v : Value}, Agr S H H' → (∀ k, slB v k → S k) → ok H v → ok H' v
  lt : ∀ {H : Heap} {v : Value} {k : Nat}, ok H v → slB v k → k < H.size
def slot {α : Type} (T : Ty α) (e : TypeId) (xs : List α) : Slot := ⟨fun H v => SlO T none_ H 0 e v xs, fun h hb hv => hv.agr h hb (fun _ f => f.elim), fun h hk => (h.lt hk).2⟩
def updS (ss : Nat → Slot) (j : Nat) (s : Slot) : Nat → Slot := fun i => if i = j then s else ss i
theorem updS_self (ss : Nat → Slot) (j : Nat) (s : Slot) : updS ss j s j = s := if_pos rfl
theorem updS_ne {ss : Nat → Slot} {i j : Nat} {s : Slot} (h : i ≠ j) : updS ss j s i = ss i := if_neg h
section
variable {α : Type} {T : Ty α} {B : Nat → Prop} {H0 H H1 : Heap} {ps : List Pc} {e te : TypeId} {b : Nat} {vs : List Value} {ss : Nat → Slot} {xs : List α} {v : Value} {j : Nat}
def pF (te : TypeId) (b : Nat) (vs : List Value) (ss : Nat → Slot) : Pc where
  foot k := k = b ∨ ∃ (i : Nat) (v : Value), vs[i]? = some v ∧ slB v k
  ok H := Blk H b te vs ∧ (∀ (i : Nat) (v : Value), vs[i]? = some v → (ss i).ok H v) ∧ (∀ (i j : Nat) (v w : Value) (k : Nat), i ≠ j → vs[i]? = some v → vs[j]? = some w → slB v k → ¬ slB w k) ∧ ∀ (i : Nat) (v : Value), vs[i]? = some v → ¬ slB v b
  fr h hp := ⟨hp.1.agr h (.inl rfl), fun i v hv => (ss i).fr h (fun k hk => .inr ⟨i, v, hv, hk⟩) (hp.2.1 i v hv), hp.2.2⟩
theorem nil_slB {k : Nat} : ¬ slB (.slice none 0 0) k := fun ⟨_, _, _, h⟩ => by cases h
theorem StB.fldNew {n : Nat} (st : StB B H0 H ps) (i : Nat) (hp : ps[i]? = some (pB te b (List.replicate n (.slice none 0 0)))) (hs : ∀ j H, (ss j).ok H (.slice none 0 0)) : StB B H0 H (ps.set i (pF te b (List.replicate n (.slice none 0 0)) ss)) := by
  have hz : ∀ (j : Nat) (v : Value), (List.replicate n (Value.slice none 0 0))[j]? = some v → v = .slice none 0 0 := fun j v hv => by
    exact List.eq_of_mem_replicate (List.mem_of_getElem? hv)
  refine st.upd i hp (Agr.refl _ _) (pF te b (List.replicate n (.slice none 0 0)) ss) ⟨st.blk i hp, fun j v hv => by rw [hz j v hv]; exact hs j H, fun i j v w k _ hv hw hk => ?_, fun j v hv hk => ?_⟩ (fun k hk => ?_) (fun k hk => ?_) (Nat.le_refl _)
  · rw [hz i v hv] at hk; exact absurd hk nil_slB
  · rw [hz j v hv] at hk; exact nil_slB hk
  · rcases hk with hk | ⟨j, v, hv, hk⟩
    · exact .inl hk
    · rw [hz j v hv] at hk; exact absurd hk nil_slB
  · rcases hk with hk | ⟨j, v, hv, hk⟩
    · exact (st.in_ i hp hk).2
    · rw [hz j v hv] at hk; exact absurd hk nil_slB
theorem StB.fblk (st : StB B H0 H ps) (i : Nat) (hp : ps[i]? = some (pF te b vs ss)) : Blk H b te vs := (st.at_ i hp).1
theorem StB.fview (st : StB B H0 H ps) (i : Nat) (hp : ps[i]? = some (pF te b vs ss)) (hv : vs[j]? = some v) (hs : ss j = slot T e xs) : ∃ a cap, v = .slice a xs.length cap ∧ SlD T (Old H) H a cap xs := by
  have h := (st.at_ i hp).2.1 j v hv
  rw [hs] at h
  obtain ⟨a, cap, h1, h2, -⟩ := SlO.view (S' := Old H) (h : SlO T none_ H 0 e v xs) (fun k hk => (st.in_ i hp (.inr ⟨j, v, hv, hk⟩)).2) (fun _ f => f.elim)
  exact ⟨a, cap, h1, h2⟩
/-- The same, while the slice in cell j is out, as v'. -/
def pFm (te : TypeId) (b : Nat) (vs : List Value) (ss : Nat → Slot) (j : Nat) (s : Slot) (v' : Value) : Pc where
  foot k := k = b ∨ slB v' k ∨ ∃ (i : Nat) (v : Value), i ≠ j ∧ vs[i]? = some v ∧ slB v k
  ok H := Blk H b te vs ∧ j < vs.length ∧ s.ok H v' ∧ (∀ (i : Nat) (v : Value), i ≠ j → vs[i]? = some v → (ss i).ok H v) ∧ (∀ (i l : Nat) (v w : Value) (k : Nat), i ≠ j → l ≠ j → i ≠ l → vs[i]? = some v → vs[l]? = some w → slB v k → ¬ slB w k) ∧
    (∀ (i : Nat) (v : Value) (k : Nat), i ≠ j → vs[i]? = some v → slB v k → ¬ slB v' k) ∧ (∀ (i : Nat) (v : Value), i ≠ j → vs[i]? = some v → ¬ slB v b) ∧ ¬ slB v' b
  fr h hp := ⟨hp.1.agr h (.inl rfl), hp.2.1, s.fr h (fun k hk => .inr (.inl hk)) hp.2.2.1, fun i v hi hv => (ss i).fr h (fun k hk => .inr (.inr ⟨i, v, hi, hv, hk⟩)) (hp.2.2.2.1 i v hi hv), hp.2.2.2.2⟩
theorem appF {P : Program} {tt ty q o m cap2 by_ : Nat} {z : Value} {ys : List α} {ds : List Value} {K : Value → Heap → Prop} (st : StB B H0 H ps) (i : Nat) (ht : SlT P tt e T.size by_ z) (hp : ps[i]? = some (pF te b vs ss)) (hv : vs[j]? = some v) (hs : ss j = slot T e xs)
    (hd : Cells H q o ds) (hy : T.reps none_ H ds ys) (hm : m = ys.length) (h1 : ∀ u ∈ ds, u.oneCell' = true) (h63 : xs.length + ys.length ≤ maxLen) (hby : (xs.length + ys.length) * by_ ≤ 140737488355328)
    (k : ∀ v' H', StB B H0 H' (ps.set i (pFm te b vs ss j (slot T e (xs ++ ys)) v')) → Agr (fun k => k < H.size ∧ ¬ slB v k) H H' → v'.oneCell' = true → K v' H') :
    VEff P (Builtin.append_ #[tt, tt] ty [v, .slice (some ⟨q, o, none⟩) m cap2].toArray) H K := by
  obtain ⟨hblk, hall, hap, hb⟩ := st.at_ i hp
  have hown := hall j v hv
  rw [hs] at hown
  have hjl := (List.getElem?_eq_some_iff.1 hv).1
  have hbl : b < H.size := (st.in_ i hp (.inl rfl)).2
  have hlt : ∀ (l : Nat) (w : Value), vs[l]? = some w → ∀ k, slB w k → k < H.size := fun l w hw k hk => (st.in_ i hp (.inr ⟨l, w, hw, hk⟩)).2
  refine vappendO (T := T) (S := none_) (lo := 0) ht (hown : SlO T none_ H 0 e v xs) (Nat.zero_le _) (fun k hk => hk.elim) hd hy hm h1 h63 hby ?_
  intro v' H' hv' hagr hsz hfr
  refine k v' H' (st.upd i hp (hagr.mono fun k hk => ⟨hk.1, fun hb => hk.2 (.inr ⟨j, v, hv, hb⟩)⟩) (pFm te b vs ss j (slot T e (xs ++ ys)) v') ⟨hblk.agr hagr ⟨hbl, hb j v hv⟩, hjl, hv', fun l w hl hw => (ss l).fr hagr (fun k hk => ⟨hlt l w hw k hk, hap l j w v k hl hw hv hk⟩) (hall l w hw), fun l l' w w' k _ _ hll => hap l l' w w' k hll, fun l w k hl hw hk hk' => ?_, fun l w _ hw => hb l w hw, fun hk => ?_⟩ (fun k hk => ?_) (fun k hk => ?_) hsz) hagr hv'.one
  · rcases hfr k hk' with h | h
    · exact hap l j w v k hl hw hv hk h
    · have := hlt l w hw k hk; omega
  · rcases hfr b hk with h | h
    · exact hb j v hv h
    · omega
  · rcases hk with hk | hk | ⟨l, w, -, hw, hk⟩
    · exact .inl (.inl hk)
    · rcases hfr k hk with h | h
      · exact .inl (.inr ⟨j, v, hv, h⟩)
      · exact .inr h
    · exact .inl (.inr ⟨l, w, hw, hk⟩)
  · rcases hk with hk | hk | ⟨l, w, hl, hw, hk⟩
    · have : k = b := hk; omega
    · exact (hv'.lt hk).2
    · have := hlt l w hw k hk; omega
theorem stF {P : Program} {o : Nat} {s : Slot} {t : TypeId} {K : Heap → Prop} (st : StB B H0 H ps) (i : Nat) (ht : CellT P t) (hp : ps[i]? = some (pFm te b vs ss j s v)) (ho : o = j) (h1 : v.oneCell' = true)
    (k : ∀ H', StB B H0 H' (ps.set i (pF te b (vs.set j v) (updS ss j s))) → K H') : VEffU P (Instr.storeAt t (.pointer (some ⟨b, o, none⟩)) v) H K := by
  subst ho
  obtain ⟨hblk, hjl, hv', hall, hap, hapv, hb, hvb⟩ := st.at_ i hp
  refine VC.st1 ht hblk hjl h1 ?_
  intro H' hb' ha' hs'
  have e1 : ∀ (l : Nat) (w : Value), (vs.set o v)[l]? = some w → (l = o ∧ w = v) ∨ (l ≠ o ∧ vs[l]? = some w) := fun l w hw => by
    by_cases hl : l = o
    · subst hl
      rw [List.getElem?_set_self hjl] at hw
      cases hw; exact .inl ⟨rfl, rfl⟩
    · rw [List.getElem?_set_ne (Ne.symm hl)] at hw; exact .inr ⟨hl, hw⟩
  refine k H' (st.upd i hp (ha'.mono fun k hk hkb => hk.2 (.inl hkb)) (pF te b (vs.set o v) (updS ss o s)) ⟨hb', fun l w hw => ?_, fun l l' w w' kk hll hw hw' hk hk' => ?_, fun l w hw => ?_⟩ (fun k hk => ?_) (fun k hk => ?_) (by omega))
  · rcases e1 l w hw with ⟨rfl, rfl⟩ | ⟨hl, hw⟩
    · rw [updS_self]; exact s.fr ha' (fun k hk hkb => hvb (hkb ▸ hk)) hv'
    · rw [updS_ne hl]; exact (ss l).fr ha' (fun k hk hkb => hb l w hl hw (hkb ▸ hk)) (hall l w hl hw)
  · rcases e1 l w hw with ⟨rfl, rfl⟩ | ⟨hl, hw1⟩ <;> rcases e1 l' w' hw' with ⟨rfl, rfl⟩ | ⟨hl', hw1'⟩
    · exact hll rfl
    · exact hapv l' w' kk hl' hw1' hk' hk
    · exact hapv l w kk hl hw1 hk hk'
    · exact hap l l' w w' kk hl hl' hll hw1 hw1' hk hk'
  · rcases e1 l w hw with ⟨rfl, rfl⟩ | ⟨hl, hw⟩
    · exact hvb
    · exact hb l w hl hw
  · refine .inl ?_
    rcases hk with hk | ⟨l, w, hw, hk⟩
    · exact .inl hk
    · rcases e1 l w hw with ⟨rfl, rfl⟩ | ⟨hl, hw⟩
      · exact .inr (.inl hk)
      · exact .inr (.inr ⟨l, w, hl, hw, hk⟩)
  · rw [hs']
    rcases hk with hk | ⟨l, w, hw, hk⟩
    · exact (st.in_ i hp (.inl hk)).2
    · rcases e1 l w hw with ⟨rfl, rfl⟩ | ⟨hl, hw⟩
      · exact (st.in_ i hp (.inr (.inl hk))).2
      · exact (st.in_ i hp (.inr (.inr ⟨l, w, hl, hw, hk⟩))).2
/-- A value of one cell is written at place o into the slice in cell j. -/
theorem stFE {P : Program} {c o n cap : Nat} {u : Value} {y : α} {K : Heap → Prop} (st : StB B H0 H ps) (i : Nat) (ht : CellT P e) (hp : ps[i]? = some (pF te b vs ss)) (hv : vs[j]? = some (.slice (some ⟨c, 0, none⟩) n cap)) (hs : ss j = slot T e xs)
    (hsz : T.size = 1) (ho : o < xs.length) (hone : u.oneCell' = true) (hr : ∀ H', T.rep none_ H' [u] y) (k : ∀ H', StB B H0 H' (ps.set i (pF te b vs (updS ss j (slot T e (xs.set o y))))) → K H') : VEffU P (Instr.storeAt e (.pointer (some ⟨c, o, none⟩)) u) H K := by
  obtain ⟨hblk, hall, hap, hb⟩ := st.at_ i hp
  have hown := hall j _ hv
  rw [hs] at hown
  obtain ⟨-, -, hlo, l, hblk2, hlen, -, hput⟩ := SlO.placeS (hown : SlO T none_ H 0 e _ xs) ho
  rw [hsz, Nat.mul_one] at hlen hput
  refine VC.st1 ht hblk2 (by omega) hone ?_
  intro H' hb' ha' hs'
  have hown' := hput H' [u] y (by rw [splice_one (by omega)]; exact hb') (fun j hj => hj.elim) (hr H')
  have slb : slB (.slice (some ⟨c, 0, none⟩) n cap) c := ⟨0, n, cap, rfl⟩
  have hbc : b ≠ c := fun h => hb j _ hv (h ▸ slb)
  refine k H' (st.upd i hp (ha'.mono fun k hk hkc => hk.2 (.inr ⟨j, _, hv, by rw [hkc]; exact slb⟩)) (pF te b vs (updS ss j (slot T e (xs.set o y)))) ⟨hblk.agr ha' hbc, fun l w hw => ?_, hap, hb⟩ (fun k hk => .inl hk) (fun k hk => by rw [hs']; exact (st.in_ i hp hk).2) (by omega))
  by_cases hl : l = j
  · subst hl
    rw [hv] at hw; cases hw
    rw [updS_self]; exact hown'
  · rw [updS_ne hl]
    exact (ss l).fr ha' (fun k hk hkc => hap l j w _ k hl hw hv hk (by rw [hkc]; exact slb)) (hall l w hw)
/-- The address of an element. -/
theorem StB.fadr (st : StB B H0 H ps) (i : Nat) (hp : ps[i]? = some (pF te b vs ss)) (hv : vs[j]? = some v) (hs : ss j = slot T e xs) (hn : 0 < xs.length) : ∃ c cap, v = .slice (some ⟨c, 0, none⟩) xs.length cap := by
  have h := (st.at_ i hp).2.1 j v hv
  rw [hs] at h
  obtain ⟨cs, ⟨h0, h1⟩, h2⟩ := (h : SlO T none_ H 0 e v xs)
  rcases h1 with ⟨rfl, h1⟩ | ⟨c, cap, l, rfl, r⟩
  · omega
  · exact ⟨c, cap, rfl⟩
end
end Go.VC
