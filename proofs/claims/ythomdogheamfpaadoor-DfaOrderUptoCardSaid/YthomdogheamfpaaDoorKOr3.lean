/- Parts of the proof: VMapX, VSplit, VMapI, PNfa2, VTop, PNetIn5, VBook, VHeldG, PSort, VRange, VPush, PKeyS, MDfa, PNfa3 -/
import Derived.Test.YthomdogheamfpaaDoorKOr2
import Derived.DeepKeys3
import Derived.Maps.RangeRun
import Derived.Test.YthomdogheamfpaaDoorRows
import Derived.ProofKit
import Derived.OpenShut
import Derived.JoinedCond
import Derived.WideKeyArgs
import Derived.Test.YthomdogheamfpaaDoorKOr1
import Derived.Sort.OwnSortedInts
import Derived.Shelf.Sort.Plain
import Derived.Shelf.Slices.In.SortNone
import Derived.TacticsIn
import Derived.RangeFuncRecord
/- Maps of the call's own whose keys are arrays or structs; going through a map. -/
set_option linter.unusedVariables false
set_option linter.unusedSimpArgs false
namespace Go.VC
structure MapTW (P : Program) (t kt et : TypeId) (z : Value) : Prop where
  under : P.underlying t = some (.map kt et)
  zero : (P.info? et).bind (·.zero) = some z
/-- What the model asks of keys, of all that are Ok. -/
structure KeyW (P : Program) (kt : TypeId) {α : Type} (Ok : α → Prop) (enc : α → Value) : Prop where
  inj : ∀ a b, enc a = enc b → a = b
  check : ∀ (w : World) (em : Bool) (a : α), Ok a → (Instr.checkKey em 10000 kt (enc a)).run P w = .ok () w
  find : ∀ (w : World) (a : α), Ok a → ∀ es : List MapEntry, (∀ e ∈ es, ∃ b, Ok b ∧ e.key = enc b) →
    ((Instr.findKey kt (enc a) es).run P w = .ok none w ∧ ∀ e ∈ es, e.key ≠ enc a) ∨ ∃ j e, (Instr.findKey kt (enc a) es).run P w = .ok (some (j, e.val)) w ∧ es[j]? = some e ∧ e.key = enc a
  stays : ∀ (w : World) (a : α), Ok a → (Instr.keyThatStays (enc a) (enc a)).run P w = .ok (enc a) w
theorem KeyW.ofLaw {P : Program} {kt : TypeId} {α : Type} {Ok : α → Prop} {enc : α → Value} (h : WideMaps.KeyLaw P kt) (hi : ∀ a b, enc a = enc b → a = b) (hk : ∀ a, Ok a → ∃ l, keyOf P kt (enc a) = some l) : KeyW P kt Ok enc :=
  ⟨hi, fun w em a ha => let ⟨_, e⟩ := hk a ha; h.check w em e, fun w a ha es hes => let ⟨_, e⟩ := hk a ha; h.find w e es fun x hx => by
      obtain ⟨b, hb, e⟩ := hes x hx
      rw [e]; exact hk b hb,
    fun w a ha => let ⟨_, e⟩ := hk a ha; h.stays w e⟩
/-- The map in block b holds m, all of whose keys are Ok. -/
def MapW {α : Type} (Ok : α → Prop) (enc : α → Value) (H : Heap) (b : Nat) (m : α → Option Value) : Prop := MapF enc H b m ∧ ∀ a v, m a = some v → Ok a
def TurnW {α : Type} (Ok : α → Prop) (enc : α → Value) (H : Heap) (K : Heap → Prop) (b : Nat) (m : α → Option Value) : Prop :=
  ∀ H', MapW Ok enc H' b m → Agr (fun k => k ≠ b) H H' → H'.size = H.size → K H'
section
variable {α : Type} {Ok : α → Prop} {enc : α → Value} {P : Program} {t kt et : TypeId} {z : Value} {S : Nat → Prop} {H : Heap} {b : Nat} {m : α → Option Value} {a : α}
theorem MapW.agr {H' : Heap} (h : MapW Ok enc H b m) (k : Agr S H H') (hb : S b) : MapW Ok enc H' b m := ⟨h.1.agr k hb, h.2⟩
theorem put_ok (h : ∀ a v, m a = some v → Ok a) (ha : Ok a) (v : Value) : ∀ b u, put m a (some v) b = some u → Ok b := fun b u hb => by
  by_cases hba : b = a
  · rw [hba]; exact ha
  · rw [put_ne hba] at hb; exact h b u hb
theorem find_specW (hk : KeyW P kt Ok enc) (ha : Ok a) (hok : ∀ a v, m a = some v → Ok a) {es : Array MapEntry} (hes : ∀ (i : Nat) (x : MapEntry), es[i]? = some x → ∃ a, x.key = enc a ∧ m a = some x.val) (hm : ∀ a v, m a = some v → ∃ (i : Nat) (x : MapEntry), es[i]? = some x ∧ x.key = enc a ∧ x.val = v) (w : World) :
    ((Instr.findKey kt (enc a) es.toList).run P w = .ok none w ∧ m a = none ∧ ∀ x ∈ es.toList, x.key ≠ enc a) ∨ ∃ j e, (Instr.findKey kt (enc a) es.toList).run P w = .ok (some (j, e.val)) w ∧ es[j]? = some e ∧ e.key = enc a ∧ m a = some e.val := by
  have hall : ∀ x ∈ es.toList, ∃ b, Ok b ∧ x.key = enc b := fun x hx => by
    obtain ⟨i, hi⟩ := List.getElem?_of_mem hx
    obtain ⟨b, e1, e2⟩ := hes i x (by simpa using hi)
    exact ⟨b, hok b _ e2, e1⟩
  rcases hk.find w a ha es.toList hall with ⟨h1, h2⟩ | ⟨j, e, h1, h2, h3⟩
  · refine .inl ⟨h1, ?_, h2⟩
    cases hma : m a with
    | none => rfl
    | some v =>
      obtain ⟨i, x, hx, he, _⟩ := hm a v hma
      exact absurd he (h2 x (List.mem_of_getElem? (by simpa using hx)))
  · have hj : es[j]? = some e := by simpa using h2
    refine .inr ⟨j, e, h1, hj, h3, ?_⟩
    obtain ⟨a', e1, e2⟩ := hes j e hj
    rw [hk.inj a a' (h3.symm.trans e1)]; exact e2
theorem mlookW (ht : MapTW P t kt et z) (hk : KeyW P kt Ok enc) (ha : Ok a) (h : MapW Ok enc H b m) (hb : S b) {K : Value → Prop} (k : K ((m a).getD z)) : VDet P (Instr.lookup t (.map (some b)) (enc a) false) S H K := by
  obtain ⟨⟨es, clock, h1, h2, h3, h4⟩, hok⟩ := h
  refine VDet.mk _ (fun w hw => ?_) k
  have hb' := (hw b hb).trans h1
  rcases find_specW hk ha hok h3 h4 w with ⟨e1, e2, e3⟩ | ⟨j, e, e1, e2, e3, e4⟩
  · simp [Instr.lookup, run_underlying ht.under, Go.MapKept.run_getObj_map hb', hk.check w _ a ha, e1, zero_run ht.zero, e2]
  · simp [Instr.lookup, run_underlying ht.under, Go.MapKept.run_getObj_map hb', hk.check w _ a ha, e1, e4]
theorem mlookOkW (ht : MapTW P t kt et z) (hk : KeyW P kt Ok enc) (ha : Ok a) (h : MapW Ok enc H b m) (hb : S b) {K : Value → Prop} (k : K (.tuple #[(m a).getD z, .bool (m a).isSome])) : VDet P (Instr.lookup t (.map (some b)) (enc a) true) S H K := by
  obtain ⟨⟨es, clock, h1, h2, h3, h4⟩, hok⟩ := h
  refine VDet.mk _ (fun w hw => ?_) k
  have hb' := (hw b hb).trans h1
  rcases find_specW hk ha hok h3 h4 w with ⟨e1, e2, e3⟩ | ⟨j, e, e1, e2, e3, e4⟩
  · simp [Instr.lookup, run_underlying ht.under, Go.MapKept.run_getObj_map hb', hk.check w _ a ha, e1, zero_run ht.zero, e2]
  · simp [Instr.lookup, run_underlying ht.under, Go.MapKept.run_getObj_map hb', hk.check w _ a ha, e1, e4]
theorem modify_oldW (hinj : ∀ a b, enc a = enc b → a = b) {es : Array MapEntry} {clock : Nat} (hs : Go.MapKept.Stamped es clock) (h3 : ∀ (i : Nat) (x : MapEntry), es[i]? = some x → ∃ a, x.key = enc a ∧ m a = some x.val) (h4 : ∀ a v, m a = some v → ∃ (i : Nat) (x : MapEntry), es[i]? = some x ∧ x.key = enc a ∧ x.val = v) {j : Nat} {e : MapEntry} (hj : es[j]? = some e) (he : e.key = enc a) {f : MapEntry → MapEntry} {v : Value}
    (hf1 : (f e).key = enc a) (hf2 : (f e).val = v) (hf3 : ∀ x, (f x).born = x.born) {H' : Heap}
    (hb : H'[b]? = some (.map (es.modify j f) clock)) : MapF enc H' b (put m a (some v)) ∧ StampF enc H' b a e.born := by
  have hgt : ∀ i x, (es.modify j f)[i]? = some x → (i ≠ j ∧ es[i]? = some x) ∨ (i = j ∧ x = f e) := by
    intro i x hx
    rw [Array.getElem?_modify] at hx
    by_cases hi : j = i
    · subst hi; rw [if_pos rfl, hj] at hx; exact .inr ⟨rfl, by cases hx; rfl⟩
    · rw [if_neg hi] at hx; exact .inl ⟨Ne.symm hi, hx⟩
  refine ⟨⟨_, _, hb, Go.MapKept.stamped_modify hs _ _ (fun x _ => hf3 x) (fun x _ hx => ?_), fun i x hx => ?_, fun a' v' hv => ?_⟩, _, _, hb, fun i x hx => ?_⟩
  · rw [hj] at hx; cases hx; rw [hf1, he]
  · rcases hgt i x hx with ⟨hne, hx⟩ | ⟨_, rfl⟩
    · obtain ⟨a', e1, e2⟩ := h3 i x hx
      have : a' ≠ a := fun h => hne (stamped_key hs hx hj (by rw [e1, h, he]))
      exact ⟨a', e1, by rw [put_ne this]; exact e2⟩
    · exact ⟨a, hf1, by rw [put_self, hf2]⟩
  · by_cases ha : a' = a
    · subst ha
      rw [put_self] at hv
      cases hv
      exact ⟨j, f e, by rw [Array.getElem?_modify, if_pos rfl, hj]; rfl, hf1, hf2⟩
    · rw [put_ne ha] at hv
      obtain ⟨i, x, hx, e1, e2⟩ := h4 a' v' hv
      refine ⟨i, x, ?_, e1, e2⟩
      rw [Array.getElem?_modify, if_neg ?_]
      · exact hx
      · rintro rfl
        rw [hj] at hx; cases hx
        exact ha (hinj _ _ (e1.symm.trans he))
  · rcases hgt i x hx with ⟨hne, hx⟩ | ⟨_, rfl⟩
    · exact ⟨fun h => absurd (stamped_born hs hx hj h) hne, fun h => absurd (stamped_key hs hx hj (h.trans he.symm)) hne⟩
    · exact ⟨fun _ => hf1, fun _ => hf3 e⟩
theorem mputW (ht : MapTW P t kt et z) (hk : KeyW P kt Ok enc) (ha : Ok a) (h : MapW Ok enc H b m) {v : Value} {K : Heap → Prop} (k : TurnW Ok enc H K b (put m a (some v))) : VEffU P (Instr.mapUpdate t (.map (some b)) (enc a) v) H K := by
  obtain ⟨⟨es, clock, h1, h2, h3, h4⟩, hok⟩ := h
  refine VEffU.mk fun w hw => ?_
  subst hw
  rcases find_specW hk ha hok h3 h4 w with ⟨e1, e2, e3⟩ | ⟨j, e, e1, e2, e3, e4⟩
  · obtain ⟨t1, t2, t3⟩ := set_turn (o' := .map (es.push ⟨enc a, v, clock⟩) (clock + 1)) h1
    exact ⟨setW w b (.map (es.push ⟨enc a, v, clock⟩) (clock + 1)), by simp [Instr.mapUpdate, run_underlying ht.under, Go.MapKept.run_getObj_map h1, hk.check w _ a ha, e1, Go.MapKept.run_setObj_map _ h1], ⟨rfl, rfl, rfl⟩, k _ ⟨(push_new h2 h3 h4 e3 t1).1, put_ok hok ha v⟩ t2 t3⟩
  · obtain ⟨t1, t2, t3⟩ := set_turn (o' := .map (es.modify j fun e => { e with key := enc a, val := v }) clock) h1
    exact ⟨setW w b (.map (es.modify j fun e => { e with key := enc a, val := v }) clock), by simp [Instr.mapUpdate, run_underlying ht.under, Go.MapKept.run_getObj_map h1, hk.check w _ a ha, e1, Go.MapKept.run_setObj_map _ h1, e2, e3, hk.stays w a ha], ⟨rfl, rfl, rfl⟩, k _ ⟨(modify_oldW hk.inj h2 h3 h4 e2 e3 (f := fun e => { e with key := enc a, val := v }) rfl rfl (fun _ => rfl) t1).1, put_ok hok ha v⟩ t2 t3⟩
theorem mentryW (ht : MapTW P t kt et z) (hk : KeyW P kt Ok enc) (ha : Ok a) (h : MapW Ok enc H b m) {K : Value → Heap → Prop}
    (k : ∀ H' s, MapW Ok enc H' b (put m a (some ((m a).getD z))) → StampF enc H' b a s → Agr (fun k => k ≠ b) H H' → H'.size = H.size → K (.tuple #[(m a).getD z, .int .i64 (s : Int)]) H') : VEff P (Instr.mapEntry t (.map (some b)) (enc a)) H K := by
  obtain ⟨⟨es, clock, h1, h2, h3, h4⟩, hok⟩ := h
  refine VEff.mk fun w hw => ?_
  subst hw
  rcases find_specW hk ha hok h3 h4 w with ⟨e1, e2, e3⟩ | ⟨j, e, e1, e2, e3, e4⟩
  · obtain ⟨t1, t2, t3⟩ := set_turn (o' := .map (es.push ⟨enc a, z, clock⟩) (clock + 1)) h1
    have hp := push_new h2 h3 h4 e3 t1
    refine ⟨.tuple #[z, .int .i64 (clock : Int)], setW w b (.map (es.push ⟨enc a, z, clock⟩) (clock + 1)), by simp [Instr.mapEntry, run_underlying ht.under, Go.MapKept.run_getObj_map h1, hk.check w _ a ha, e1, Go.MapKept.run_setObj_map _ h1, zero_run ht.zero, goInt], ⟨rfl, rfl, rfl⟩, ?_⟩
    have := k _ clock (by rw [e2]; exact ⟨hp.1, put_ok hok ha z⟩) hp.2 t2 t3
    rw [e2] at this
    exact this
  · obtain ⟨t1, t2, t3⟩ := set_turn (o' := .map (es.modify j fun e => { e with key := enc a }) clock) h1
    have hp := modify_oldW hk.inj h2 h3 h4 e2 e3 (f := fun e => { e with key := enc a }) (v := e.val) rfl rfl (fun _ => rfl) t1
    refine ⟨.tuple #[e.val, .int .i64 (e.born : Int)], setW w b (.map (es.modify j fun e => { e with key := enc a }) clock), by simp [Instr.mapEntry, run_underlying ht.under, Go.MapKept.run_getObj_map h1, hk.check w _ a ha, e1, Go.MapKept.run_setObj_map _ h1, e2, e3, hk.stays w a ha, goInt], ⟨rfl, rfl, rfl⟩, ?_⟩
    have := k _ e.born (by rw [e4]; exact ⟨hp.1, put_ok hok ha e.val⟩) hp.2 t2 t3
    rw [e4] at this
    exact this
theorem mstoreW {u : TypeId} (hk : KeyW P kt Ok enc) (ha : Ok a) (h : MapW Ok enc H b m) {s : Nat} (hs : StampF enc H b a s) (hin : (m a).isSome = true) {v : Value} {K : Heap → Prop} (k : TurnW Ok enc H K b (put m a (some v))) : VEffU P (Instr.entryStore u (.map (some b)) (.int .i64 (s : Int)) v) H K := by
  obtain ⟨⟨es, clock, h1, h2, h3, h4⟩, hok⟩ := h
  obtain ⟨es', clock', h1', h5⟩ := hs
  rw [h1] at h1'; cases h1'
  refine VEffU.mk fun w hw => ?_
  subst hw
  obtain ⟨v0, hv0⟩ := Option.isSome_iff_exists.1 hin
  obtain ⟨i, x, hx, q1, q2⟩ := h4 a v0 hv0
  have hb := (h5 i x hx).2 q1
  have hfi : es.findIdx? (fun e => (e.born : Int) == (s : Int)) = some i := by
    rw [Array.findIdx?_eq_some_iff_getElem]
    have hil := (Array.getElem?_eq_some_iff.1 hx).1
    have hxi : es[i] = x := (Array.getElem?_eq_some_iff.1 hx).2
    refine ⟨hil, by simp [hxi, hb], fun j hji => ?_⟩
    have hjx : es[j]? = some es[j] := Array.getElem?_eq_getElem (by omega)
    intro hbj
    have hbj' : es[j].born = s := by
      have : (es[j].born : Int) = (s : Int) := by simpa using hbj
      omega
    have := stamped_born h2 hjx hx (hbj'.trans hb.symm)
    omega
  obtain ⟨t1, t2, t3⟩ := set_turn (o' := .map (es.modify i fun e => { e with val := v }) clock) h1
  exact ⟨setW w b (.map (es.modify i fun e => { e with val := v }) clock), by simp [Instr.entryStore, Go.MapKept.run_getObj_map h1, asInt, asIntOf, hfi, Go.MapKept.run_setObj_map _ h1], ⟨rfl, rfl, rfl⟩, k _ ⟨(modify_oldW hk.inj h2 h3 h4 hx q1 (f := fun e => { e with val := v }) q1 rfl (fun _ => rfl) t1).1, put_ok hok ha v⟩ t2 t3⟩
theorem mmakeW {K : Value → Heap → Prop} (k : ∀ b H', b = H.size → H'.size = b + 1 → MapW Ok enc H' b (fun _ => none) → Agr (fun k => k < b) H H' → K (.map (some b)) H') : VEff P (Instr.makeMap t none) H K :=
  mmake fun b H' h1 h2 h3 h4 => k b H' h1 h2 ⟨h3, fun a v h => by cases h⟩ h4
end
end Go.VC

/- Going through a map of the call's own; wide-keyed maps and loops over them as pieces. -/
set_option linter.unusedVariables false
set_option linter.unusedSimpArgs false
namespace Go.VC
/-- The map in block b holds m, and is gone through by the iterator in block r: D have come, `last` the last of them; n are still to come. -/
def IterW {α : Type} (Ok : α → Prop) (enc : α → Value) (H : Heap) (b r : Nat) (m : α → Option Value) (D : α → Prop) (last : Option α) (n : Nat) : Prop :=
  (∃ es clock seen, H[b]? = some (.map es clock) ∧ Go.MapKept.Stamped es clock ∧ (∀ (i : Nat) (x : MapEntry), es[i]? = some x → ∃ a, x.key = enc a ∧ m a = some x.val) ∧
    (∀ a v, m a = some v → ∃ (i : Nat) (x : MapEntry), es[i]? = some x ∧ x.key = enc a ∧ x.val = v) ∧ H[r]? = some (.mapIter (some b) clock seen clock) ∧
    (∀ (i : Nat) (x : MapEntry) (a : α), es[i]? = some x → x.key = enc a → (seen.contains x.born = true ↔ D a)) ∧ n = (leftOf es seen).size ∧
    ∀ a, last = some a → ∃ (e : MapEntry) (s0 : Array Nat), e ∈ es.toList ∧ e.key = enc a ∧ seen = s0.push e.born) ∧ (∀ a v, m a = some v → Ok a)
section
variable {α : Type} {Ok : α → Prop} {enc : α → Value} {P : Program} {t kt et : TypeId} {z : Value} {S : Nat → Prop} {H : Heap} {b r n : Nat} {m : α → Option Value} {D : α → Prop} {last : Option α}
theorem IterW.agr {H' : Heap} (h : IterW Ok enc H b r m D last n) (k : Agr S H H') (hb : S b) (hr : S r) : IterW Ok enc H' b r m D last n := by
  obtain ⟨⟨es, clock, seen, h1, h2, h3, h4, h5, h6⟩, h7⟩ := h
  exact ⟨⟨es, clock, seen, (k b hb).trans h1, h2, h3, h4, (k r hr).trans h5, h6⟩, h7⟩
theorem IterW.map (h : IterW Ok enc H b r m D last n) : MapW Ok enc H b m := by
  obtain ⟨⟨es, clock, seen, h1, h2, h3, h4, h5, h6⟩, h7⟩ := h
  exact ⟨⟨es, clock, h1, h2, h3, h4⟩, h7⟩
theorem IterW.ext {D' : α → Prop} (hi : ∀ a b, enc a = enc b → a = b) (h : IterW Ok enc H b r m D last n) (k : ∀ a, (m a).isSome = true → (D a ↔ D' a)) : IterW Ok enc H b r m D' last n := by
  obtain ⟨⟨es, clock, seen, h1, h2, h3, h4, h5, h6, h8⟩, h7⟩ := h
  refine ⟨⟨es, clock, seen, h1, h2, h3, h4, h5, fun i x a hx hk => ?_, h8⟩, h7⟩
  rw [h6 i x a hx hk]
  obtain ⟨a', e1, e2⟩ := h3 i x hx
  obtain rfl := hi _ _ (hk.symm.trans e1)
  exact k a (by rw [e2]; rfl)
theorem left_push (es : Array MapEntry) (seen : Array Nat) {e : MapEntry} (he : e ∈ (leftOf es seen).toList) : (leftOf es (seen.push e.born)).size < (leftOf es seen).size := by
  have h1 : leftOf es (seen.push e.born) = (leftOf es seen).filter fun x => !(x.born == e.born) := by
    unfold leftOf
    rw [Array.filter_filter]
    congr 1
    funext x
    rw [Array.contains_push]
    cases h1 : seen.contains x.born <;> cases h2 : x.born == e.born <;> simp_all
  have h2 : ((leftOf es seen).filter fun x => !(x.born == e.born)).size = ((leftOf es seen).toList.filter fun x => !(x.born == e.born)).length := by rw [← Array.toList_filter, Array.length_toList]
  rw [h1, h2, ← Array.length_toList]
  exact List.length_filter_lt_length_iff_exists.2 ⟨e, he, by simp⟩
theorem mrange (ht : MapTW P t kt et z) (h : MapW Ok enc H b m) {K : Value → Heap → Prop}
    (k : ∀ r n H', r = H.size → H'.size = r + 1 → IterW Ok enc H' b r m (fun _ => False) none n → Agr (fun k => k < H.size) H H' → K (.pointer (some ⟨r, 0, none⟩)) H') : VEff P (Instr.range t (.map (some b))) H K := by
  obtain ⟨⟨es, clock, h1, h2, h3, h4⟩, hok⟩ := h
  refine VEff.mk fun w hw => ?_
  subst hw
  have hbl : b < w.heap.size := (Array.getElem?_eq_some_iff.1 h1).1
  refine ⟨_, w.alloc (.mapIter (some b) clock #[] clock), by simp [Instr.range, run_underlying ht.under, Go.MapKept.run_getObj_map h1], ⟨rfl, rfl, rfl⟩, k w.heap.size (leftOf es #[]).size _ rfl (by rw [alloc_heap]; simp) ⟨⟨es, clock, #[], ?_, h2, h3, h4, by rw [alloc_heap]; simp, fun i x a hx hk => by simp, rfl, fun a h => by cases h⟩, hok⟩ (heap_push_old _ _)⟩
  rw [alloc_heap, Array.getElem?_push, if_neg (by omega)]; exact h1
theorem mnext {ty : TypeId} (hi : ∀ a b, enc a = enc b → a = b) (h : IterW Ok enc H b r m D last n) {K : Value → Heap → Prop} (k0 : (∀ a, (m a).isSome = true → D a) → K (.tuple #[.bool false]) H)
    (k1 : ∀ a v H' n', m a = some v → ¬ D a → n' < n → IterW Ok enc H' b r m (fun x => D x ∨ x = a) (some a) n' → Agr (fun k => k ≠ r) H H' → H'.size = H.size → K (.tuple #[.bool true, enc a, v]) H') : VEff P (Instr.next (.pointer (some ⟨r, 0, none⟩)) false ty) H K := by
  obtain ⟨⟨es, clock, seen, h1, h2, h3, h4, h5, h6, h7, h8⟩, hok⟩ := h
  refine VEff.mk fun w hw => ?_
  subst hw
  have hbr : b ≠ r := by
    rintro rfl
    rw [h1] at h5; cases h5
  have hml : ∀ x, x ∈ (leftOf es seen).toList ↔ x ∈ es.toList ∧ seen.contains x.born = false := fun x => by
    unfold leftOf
    rw [Array.toList_filter, List.mem_filter, Bool.not_eq_true']
  rcases run_next_at (P := P) w ty r b clock clock seen es clock h5 h1 h2.1 (Nat.le_refl _) with ⟨e1, e2⟩ | ⟨e, he, w1, hw1, e2⟩
  · refine ⟨_, w, e2, Env.refl w, k0 fun a ha => ?_⟩
    obtain ⟨v, hv⟩ := Option.isSome_iff_exists.1 ha
    obtain ⟨i, x, hx, hk, -⟩ := h4 a v hv
    refine (h6 i x a hx hk).1 ?_
    cases hs : seen.contains x.born with
    | true => rfl
    | false =>
      have := (hml x).2 ⟨List.mem_of_getElem? (i := i) (by simpa using hx), hs⟩
      have h0 : (leftOf es seen).toList = [] := List.eq_nil_of_length_eq_zero (by rw [Array.length_toList]; exact e1)
      rw [h0] at this; cases this
  · obtain ⟨he1, he2⟩ := (hml e).1 he
    obtain ⟨j, hj⟩ := List.getElem?_of_mem he1
    have hj' : es[j]? = some e := by simpa using hj
    obtain ⟨a, hka, hma⟩ := h3 j e hj'
    have hnD : ¬ D a := fun hd => by
      rw [(h6 j e a hj' hka).2 hd] at he2; cases he2
    have hw1h : w1.heap = w.heap := by rcases hw1 with rfl | rfl <;> rfl
    have hw1e : Env w w1 := by rcases hw1 with rfl | rfl <;> exact ⟨rfl, rfl, rfl⟩
    have hrl : r < w.heap.size := (Array.getElem?_eq_some_iff.1 h5).1
    have hset : (Go.ChangeMaps.setBlock w1 r (.mapIter (some b) clock (seen.push e.born) clock)).heap = w.heap.setIfInBounds r (.mapIter (some b) clock (seen.push e.born) clock) := by
      show w1.heap.setIfInBounds r _ = _
      rw [hw1h]
    refine ⟨_, _, e2, ⟨hw1e.os, hw1e.tape, hw1e.output⟩, ?_⟩
    rw [hka]
    refine k1 a e.val _ _ hma hnD (h7 ▸ left_push es seen he) ⟨⟨es, clock, seen.push e.born, ?_, h2, h3, h4, ?_, fun i x a' hx hk => ?_, rfl, fun a' ha' => ?_⟩, hok⟩ ?_ ?_
    · rw [hset, Array.getElem?_setIfInBounds_ne (Ne.symm hbr)]; exact h1
    · rw [hset, Array.getElem?_setIfInBounds_self_of_lt hrl]
    · rw [Array.contains_push, Bool.or_eq_true, h6 i x a' hx hk, beq_iff_eq]
      refine or_congr Iff.rfl ⟨fun hb => ?_, fun ha' => ?_⟩
      · obtain rfl := stamped_born h2 hx hj' hb
        rw [hj'] at hx; cases hx
        exact hi _ _ (hk.symm.trans hka)
      · subst ha'
        obtain rfl := stamped_key h2 hx hj' (hk.trans hka.symm)
        rw [hj'] at hx; cases hx; rfl
    · cases ha'
      exact ⟨e, seen, he1, hka, rfl⟩
    · rw [hset]
      exact fun k hk => Array.getElem?_setIfInBounds_ne (Ne.symm hk)
    · rw [hset]; simp
theorem mhere {a : α} {v : Value} (h : IterW Ok enc H b r m D (some a) n) (hi : ∀ a b, enc a = enc b → a = b) (hv : m a = some v) {K : Value → Heap → Prop} (k : K (.tuple #[enc a, v]) H) : VEff P (Instr.entry (.pointer (some ⟨r, 0, none⟩))) H K := by
  obtain ⟨⟨es, clock, seen, h1, h2, h3, h4, h5, h6, h7, h8⟩, hok⟩ := h
  obtain ⟨e, s0, he, hk, rfl⟩ := h8 a rfl
  refine VEff.mk fun w hw => ?_
  subst hw
  obtain ⟨i, x, hx, hkx, hvx⟩ := h4 a v hv
  obtain ⟨j, hj⟩ := List.getElem?_of_mem he
  have hj' : es[j]? = some e := by simpa using hj
  obtain rfl := stamped_key h2 hx hj' (hkx.trans hk.symm)
  rw [hj'] at hx; cases hx
  refine ⟨_, w, run_entry_at w r b clock s0 es clock e h5 h1 he h2.2.1, Env.refl w, ?_⟩
  rw [hk, hvx]; exact k
theorem mlen {vt : TypeId} (ht : MapTW P t kt et z) (h : MapW Ok enc H b m) (hb : S b) {K : Value → Prop} (k : ∀ c : Nat, (c = 0 ↔ ∀ a, m a = none) → K (.int .i64 (c : Int))) : VDet P (Builtin.len_ #[t] vt [.map (some b)].toArray) S H K := by
  obtain ⟨⟨es, clock, h1, h2, h3, h4⟩, hok⟩ := h
  refine VDet.mk _ (fun w hw => ?_) (k es.size ⟨fun h0 a => ?_, fun h0 => ?_⟩)
  · have hb' := (hw b hb).trans h1
    simp [Builtin.len_, run_underlying ht.under, Go.MapKept.run_getObj_map hb', goInt]
  · cases hma : m a with
    | none => rfl
    | some v =>
      obtain ⟨i, x, hx, -⟩ := h4 a v hma
      have := (Array.getElem?_eq_some_iff.1 hx).1
      omega
  · apply Classical.byContradiction
    intro hne
    obtain ⟨a, -, e⟩ := h3 0 es[0] (Array.getElem?_eq_getElem (by omega))
    rw [h0 a] at e; cases e
end

/-! ### as pieces -/
section
variable {α : Type} {Ok : α → Prop} {enc : α → Value} {b r n : Nat} {m m' : α → Option Value} {D : α → Prop} {last : Option α} {B : Nat → Prop} {H0 H H' : Heap} {ps : List Pc} {P : Program} {t kt et : TypeId} {z : Value}
def pMW (Ok : α → Prop) (enc : α → Value) (b : Nat) (m : α → Option Value) : Pc := ⟨fun k => k = b, fun H => MapW Ok enc H b m, fun h hp => hp.agr h rfl⟩
def pIW (Ok : α → Prop) (enc : α → Value) (b r : Nat) (m : α → Option Value) (D : α → Prop) (last : Option α) (n : Nat) : Pc := ⟨fun k => k = b ∨ k = r, fun H => IterW Ok enc H b r m D last n, fun h hp => hp.agr h (.inl rfl) (.inr rfl)⟩
theorem StB.mapW (st : StB B H0 H ps) (i : Nat) (hp : ps[i]? = some (pMW Ok enc b m)) : MapW Ok enc H b m := st.at_ i hp
theorem StB.iterW (st : StB B H0 H ps) (i : Nat) (hp : ps[i]? = some (pIW Ok enc b r m D last n)) : IterW Ok enc H b r m D last n := st.at_ i hp
theorem StB.mapNewW (st : StB B H0 H ps) (hb : b = H.size) (hs : H'.size = b + 1) (hm : MapW Ok enc H' b (fun _ => none)) (ha : Agr (fun k => k < b) H H') : StB B H0 H' (ps ++ [pMW Ok enc b fun _ => none]) := by
  subst hb
  exact st.add (ha.mono fun k hk => hk) _ hm fun k hk => by have : k = H.size := hk; omega
theorem mputPW {v : Value} {a : α} {K : Heap → Prop} (st : StB B H0 H ps) (i : Nat) (ht : MapTW P t kt et z) (hk : KeyW P kt Ok enc) (ha : Ok a) (hp : ps[i]? = some (pMW Ok enc b m)) (hm : put m a (some v) = m')
    (k : ∀ H', StB B H0 H' (ps.set i (pMW Ok enc b m')) → K H') : VEffU P (Instr.mapUpdate t (.map (some b)) (enc a) v) H K := by
  refine mputW ht hk ha (st.mapW i hp) ?_
  intro H' hb' ha' hs'
  subst hm
  exact k H' (st.upd i hp (ha'.mono fun k hk hkb => hk.2 hkb) _ hb' (fun k hk => .inl hk) (fun k hk => by rw [hs']; exact (st.in_ i hp hk).2) (by omega))
theorem mrangeP {K : Value → Heap → Prop} (st : StB B H0 H ps) (i : Nat) (ht : MapTW P t kt et z) (hp : ps[i]? = some (pMW Ok enc b m))
    (k : ∀ r n H', StB B H0 H' (ps.set i (pIW Ok enc b r m (fun _ => False) none n)) → K (.pointer (some ⟨r, 0, none⟩)) H') : VEff P (Instr.range t (.map (some b))) H K := by
  refine mrange ht (st.mapW i hp) fun r n H' hr hs hi ha => ?_
  subst hr
  have hbl := (st.in_ i hp (k := b) rfl).2
  refine k _ n H' (st.upd i hp (ha.mono fun k hk => hk.1) _ hi (fun k hk => ?_) (fun k hk => ?_) (by omega))
  · rcases hk with hk | hk
    · exact .inl hk
    · exact .inr (by omega)
  · rcases hk with rfl | rfl <;> omega
theorem mnextP {ty : TypeId} {K : Value → Heap → Prop} (st : StB B H0 H ps) (i : Nat) (hi : ∀ a b, enc a = enc b → a = b) (hp : ps[i]? = some (pIW Ok enc b r m D last n)) (k0 : (∀ a, (m a).isSome = true → D a) → K (.tuple #[.bool false]) H)
    (k1 : ∀ a v H' n', m a = some v → ¬ D a → n' < n → StB B H0 H' (ps.set i (pIW Ok enc b r m (fun x => D x ∨ x = a) (some a) n')) → K (.tuple #[.bool true, enc a, v]) H') : VEff P (Instr.next (.pointer (some ⟨r, 0, none⟩)) false ty) H K := by
  refine mnext hi (st.iterW i hp) k0 fun a v H' n' h1 h2 h3 h4 h5 h6 => k1 a v H' n' h1 h2 h3 (st.upd i hp (h5.mono fun k hk hkr => hk.2 (.inr hkr)) _ h4 (fun k hk => .inl hk) (fun k hk => by rw [h6]; exact (st.in_ i hp hk).2) (by omega))
/-- A loop over a map has ended. -/
theorem StB.iterEnd (st : StB B H0 H ps) (i : Nat) (hp : ps[i]? = some (pIW Ok enc b r m D last n)) : StB B H0 H (ps.set i (pMW Ok enc b m)) :=
  st.upd i hp (Agr.refl _ _) _ (st.iterW i hp).map (fun k hk => .inl (.inl hk)) (fun k hk => (st.in_ i hp (.inl hk)).2) (Nat.le_refl _)
end
end Go.VC

/- Appending to own slices without a bound but the model's; maps of slices with wide keys as pieces. -/
set_option linter.unusedVariables false
set_option linter.unusedSimpArgs false
namespace Go.VC
section
variable {α : Type} {T : Ty α} {e : TypeId} {a : Option Addr} {n cap : Nat} {xs : List α} {B : Nat → Prop} {H0 H : Heap} {ps : List Pc}
theorem appG {P : Program} {t ty q o m cap2 by_ : Nat} {z : Value} {ys : List α} {ds : List Value} {K : Value → Heap → Prop} (st : StB B H0 H ps) (i : Nat) (ht : SlT P t e T.size by_ z) (hp : ps[i]? = some (pS T e a n cap xs))
    (hd : Cells H q o ds) (hy : T.reps none_ H ds ys) (hm : m = ys.length) (h1 : ∀ u ∈ ds, u.oneCell' = true) (h63 : xs.length + ys.length ≤ maxLen) (hby : (xs.length + ys.length) * by_ ≤ 140737488355328)
    (k : ∀ a' cap' H', StB B H0 H' (ps.set i (pS T e a' (xs.length + ys.length) cap' (xs ++ ys))) → Agr (fun k => k < H.size ∧ ¬ slB (.slice a n cap) k) H H' → K (.slice a' (xs.length + ys.length) cap') H') :
    VEff P (Builtin.append_ #[t, t] ty [.slice a n cap, .slice (some ⟨q, o, none⟩) m cap2].toArray) H K := by
  refine vappendO (T := T) (S := none_) (lo := 0) ht (st.at_ i hp).1 (Nat.zero_le _) (fun k hk => hk.elim) hd hy hm h1 h63 hby ?_
  intro v' H' hown hagr hsz hfr
  obtain ⟨a', cap', rfl⟩ := hown.hull
  rw [List.length_append] at hown hfr ⊢
  refine k a' cap' H' (st.upd i hp (hagr.mono fun k hk => ⟨hk.1, fun hb => hk.2 (.inl hb)⟩) _ ⟨hown, fun k hk => hk.elim⟩ (fun k hk => ?_) (fun k hk => ?_) hsz) hagr
  · rcases hk with hk | hk
    · rcases hfr k hk with h | h
      · exact .inl (.inl h)
      · exact .inr h
    · exact hk.elim
  · rcases hk with hk | hk
    · exact (hown.lt hk).2
    · exact hk.elim
end

/-! ### maps of slices -/
section
variable {α β : Type} {Ok : α → Prop} {enc : α → Value} {T : Ty β} {e : TypeId} {b : Nat} {m : α → Option Value} {xs : α → List β} {B : Nat → Prop} {H0 H H' : Heap} {ps : List Pc} {P : Program} {t kt et : TypeId} {a : α}
/-- A map of own slices. -/
def pMQ (Ok : α → Prop) (enc : α → Value) (T : Ty β) (e : TypeId) (b : Nat) (m : α → Option Value) (xs : α → List β) : Pc where
  foot k := k = b ∨ ∃ a, slB (slAt m a) k
  ok H := MapW Ok enc H b m ∧ (∀ a, SlO T none_ H 0 e (slAt m a) (xs a)) ∧ (∀ a a' k, a ≠ a' → slB (slAt m a) k → ¬ slB (slAt m a') k) ∧ ∀ a, ¬ slB (slAt m a) b
  fr h hp := ⟨hp.1.agr h (.inl rfl), fun a => (hp.2.1 a).agr h (fun k hk => .inr ⟨a, hk⟩) (fun _ hk => hk.elim), hp.2.2⟩
theorem StB.mqMap (st : StB B H0 H ps) (i : Nat) (hp : ps[i]? = some (pMQ Ok enc T e b m xs)) : MapW Ok enc H b m := (st.at_ i hp).1
theorem StB.mqView (st : StB B H0 H ps) (i : Nat) (hp : ps[i]? = some (pMQ Ok enc T e b m xs)) (a : α) : ∃ ad cap, slAt m a = .slice ad (xs a).length cap ∧ SlD T (Old H) H ad cap (xs a) := by
  obtain ⟨ad, cap, h1, h2, -⟩ := ((st.at_ i hp).2.1 a).view (S' := Old H) (fun k hk => (st.in_ i hp (.inr ⟨a, hk⟩)).2) (fun _ hk => hk.elim)
  exact ⟨ad, cap, h1, h2⟩
theorem StB.mqNew (st : StB B H0 H ps) (i : Nat) (hp : ps[i]? = some (pMW Ok enc b fun _ => none)) : StB B H0 H (ps.set i (pMQ Ok enc T e b (fun _ => none) fun _ => [])) := by
  refine st.upd i hp (Agr.refl _ _) _ ⟨st.mapW i hp, fun a => SlO.nil, fun a a' k _ hk => ?_, fun a hk => ?_⟩ (fun k hk => ?_) (fun k hk => ?_) (Nat.le_refl _)
  · obtain ⟨o, n, c, h⟩ := hk; cases h
  · obtain ⟨o, n, c, h⟩ := hk; cases h
  · rcases hk with hk | ⟨a, o, n, c, h⟩
    · exact .inl hk
    · cases h
  · rcases hk with hk | ⟨a, o, n, c, h⟩
    · exact (st.in_ i hp hk).2
    · cases h
/-- The same, while the slice at a is out, as v', holding x'. -/
def pMQm (Ok : α → Prop) (enc : α → Value) (T : Ty β) (e : TypeId) (b : Nat) (m : α → Option Value) (xs : α → List β) (a : α) (v' : Value) (x' : List β) : Pc where
  foot k := k = b ∨ slB v' k ∨ ∃ c, c ≠ a ∧ slB (slAt m c) k
  ok H := MapW Ok enc H b m ∧ (m a).isSome = true ∧ SlO T none_ H 0 e v' x' ∧ (∀ c, c ≠ a → SlO T none_ H 0 e (slAt m c) (xs c)) ∧ (∀ c c' k, c ≠ a → c' ≠ a → c ≠ c' → slB (slAt m c) k → ¬ slB (slAt m c') k) ∧ (∀ c k, c ≠ a → slB (slAt m c) k → ¬ slB v' k) ∧ (∀ c, c ≠ a → ¬ slB (slAt m c) b) ∧ ¬ slB v' b
  fr h hp := ⟨hp.1.agr h (.inl rfl), hp.2.1, hp.2.2.1.agr h (fun k hk => .inr (.inl hk)) (fun _ hk => hk.elim), fun c hc => (hp.2.2.2.1 c hc).agr h (fun k hk => .inr (.inr ⟨c, hc, hk⟩)) (fun _ hk => hk.elim), hp.2.2.2.2⟩
theorem mentryQ (st : StB B H0 H ps) (i : Nat) (ht : MapTW P t kt et (.slice none 0 0)) (hk : KeyW P kt Ok enc) (ha : Ok a) (hp : ps[i]? = some (pMQ Ok enc T e b m xs)) {K : Value → Heap → Prop}
    (k : ∀ s m' H', StampF enc H' b a s → Agr (fun k => k ≠ b) H H' → (∀ c, (m' c).isSome = true ↔ (m c).isSome = true ∨ c = a) → StB B H0 H' (ps.set i (pMQm Ok enc T e b m' xs a (slAt m a) (xs a))) → K (.tuple #[slAt m a, .int .i64 (s : Int)]) H') : VEff P (Instr.mapEntry t (.map (some b)) (enc a)) H K := by
  obtain ⟨hmap, hown, hap, hb⟩ := st.at_ i hp
  refine mentryW ht hk ha hmap fun H' s h1 h2 h3 h4 => ?_
  have e1 : ∀ c, slAt (put m a (some ((m a).getD (.slice none 0 0)))) c = slAt m c := fun c => by
    by_cases hc : c = a
    · subst hc; rw [slAt_put]; rfl
    · rw [slAt_ne hc]
  refine k s _ H' h2 h3 (fun c => ?_) (st.upd i hp (h3.mono fun k hk hkb => hk.2 (.inl hkb)) (pMQm Ok enc T e b (put m a (some ((m a).getD (.slice none 0 0)))) xs a (slAt m a) (xs a)) ⟨h1, by rw [put_self]; rfl, ?_, fun c hc => ?_, fun c c' k hc hc' hcc => ?_, fun c k hc => ?_, fun c hc => ?_, hb a⟩ (fun k hk => ?_) (fun k hk => ?_) (by omega))
  · by_cases hc : c = a
    · subst hc; rw [put_self]; simp
    · rw [put_ne hc]; simp [hc]
  · exact (hown a).agr h3 (fun k hk hkb => hb a (hkb ▸ hk)) (fun _ hk => hk.elim)
  · rw [e1]; exact (hown c).agr h3 (fun k hk hkb => hb c (hkb ▸ hk)) (fun _ hk => hk.elim)
  · rw [e1, e1]; exact hap c c' k hcc
  · rw [e1]; exact hap c a k hc
  · rw [e1]; exact hb c
  · refine .inl ?_
    rcases hk with hk | hk | ⟨c, -, hk⟩
    · exact .inl hk
    · exact .inr ⟨a, hk⟩
    · rw [e1] at hk; exact .inr ⟨c, hk⟩
  · rw [h4]
    rcases hk with hk | hk | ⟨c, -, hk⟩
    · exact (st.in_ i hp (.inl hk)).2
    · exact (st.in_ i hp (.inr ⟨a, hk⟩)).2
    · rw [e1] at hk; exact (st.in_ i hp (.inr ⟨c, hk⟩)).2
theorem appQm {ty q o l cap2 by_ : Nat} {z v : Value} {x : List β} {ys : List β} {ds : List Value} {tt : TypeId} {K : Value → Heap → Prop} (st : StB B H0 H ps) (i : Nat) (ht : SlT P tt e T.size by_ z) (hp : ps[i]? = some (pMQm Ok enc T e b m xs a v x))
    (hd : Cells H q o ds) (hy : T.reps none_ H ds ys) (hl : l = ys.length) (h1 : ∀ u ∈ ds, u.oneCell' = true) (h63 : x.length + ys.length ≤ maxLen) (hby : (x.length + ys.length) * by_ ≤ 140737488355328)
    (k : ∀ v' H', StB B H0 H' (ps.set i (pMQm Ok enc T e b m xs a v' (x ++ ys))) → Agr (fun k => k < H.size ∧ ¬ slB v k) H H' → ¬ slB v b → K v' H') :
    VEff P (Builtin.append_ #[tt, tt] ty [v, .slice (some ⟨q, o, none⟩) l cap2].toArray) H K := by
  obtain ⟨hmap, hin, hv, hown, hap, hapv, hb, hvb⟩ := st.at_ i hp
  have hlt : ∀ c, c ≠ a → ∀ k, slB (slAt m c) k → k < H.size := fun c hc k hk => (st.in_ i hp (.inr (.inr ⟨c, hc, hk⟩))).2
  have hbl : b < H.size := (st.in_ i hp (.inl rfl)).2
  refine vappendO (T := T) (S := none_) (lo := 0) ht hv (Nat.zero_le _) (fun k hk => hk.elim) hd hy hl h1 h63 hby ?_
  intro v' H' hv' hagr hsz hfr
  refine k v' H' (st.upd i hp (hagr.mono fun k hk => ⟨hk.1, fun hb => hk.2 (.inr (.inl hb))⟩) (pMQm Ok enc T e b m xs a v' (x ++ ys)) ⟨hmap.agr hagr ⟨hbl, hvb⟩, hin, hv', fun c hc => (hown c hc).agr hagr (fun k hk => ⟨hlt c hc k hk, hapv c k hc hk⟩) (fun _ hk => hk.elim), hap, fun c k hc hk hk' => ?_, hb, fun hk => ?_⟩ (fun k hk => ?_) (fun k hk => ?_) hsz) hagr hvb
  · rcases hfr k hk' with h | h
    · exact hapv c k hc hk h
    · have := hlt c hc k hk; omega
  · rcases hfr b hk with h | h
    · exact hvb h
    · omega
  · rcases hk with hk | hk | hk
    · exact .inl (.inl hk)
    · rcases hfr k hk with h | h
      · exact .inl (.inr (.inl h))
      · exact .inr h
    · exact .inl (.inr (.inr hk))
  · rcases hk with hk | hk | ⟨c, hc, hk⟩
    · have : k = b := hk; omega
    · exact (hv'.lt hk).2
    · have := hlt c hc k hk; omega
theorem mstoreQ {u : TypeId} {s : Nat} {v : Value} {x : List β} {K : Heap → Prop} (st : StB B H0 H ps) (i : Nat) (hk : KeyW P kt Ok enc) (ha : Ok a) (hp : ps[i]? = some (pMQm Ok enc T e b m xs a v x)) (hs : StampF enc H b a s)
    (k : ∀ m' H', (∀ c, (m' c).isSome = true ↔ (m c).isSome = true) → StB B H0 H' (ps.set i (pMQ Ok enc T e b m' (upd xs a x))) → K H') : VEffU P (Instr.entryStore u (.map (some b)) (.int .i64 (s : Int)) v) H K := by
  obtain ⟨hmap, hin, hv, hown, hap, hapv, hb, hvb⟩ := st.at_ i hp
  refine mstoreW hk ha hmap hs hin ?_
  intro H' h1 h2 h3
  have e1 : slAt (put m a (some v)) a = v := slAt_put m a v
  have e2 : ∀ c, c ≠ a → slAt (put m a (some v)) c = slAt m c := fun c hc => slAt_ne hc
  refine k _ H' (fun c => ?_) (st.upd i hp (h2.mono fun k hk hkb => hk.2 (.inl hkb)) (pMQ Ok enc T e b (put m a (some v)) (upd xs a x)) ⟨h1, fun c => ?_, fun c c' k hcc => ?_, fun c => ?_⟩ (fun k hk => ?_) (fun k hk => ?_) (by omega))
  · by_cases hc : c = a
    · subst hc; rw [put_self]; simp [hin]
    · rw [put_ne hc]
  · by_cases hc : c = a
    · subst hc; rw [e1, upd_self]; exact hv.agr h2 (fun k hk hkb => hvb (hkb ▸ hk)) (fun _ hk => hk.elim)
    · rw [e2 c hc, upd_ne hc]; exact (hown c hc).agr h2 (fun k hk hkb => hb c hc (hkb ▸ hk)) (fun _ hk => hk.elim)
  · by_cases hc : c = a
    · subst hc
      rw [e1, e2 c' (Ne.symm hcc)]
      exact fun h1 h2 => hapv c' _ (Ne.symm hcc) h2 h1
    · by_cases hc' : c' = a
      · subst hc'
        rw [e1, e2 c hc]
        exact hapv c _ hc
      · rw [e2 c hc, e2 c' hc']; exact hap c c' k hc hc' hcc
  · by_cases hc : c = a
    · subst hc; rw [e1]; exact hvb
    · rw [e2 c hc]; exact hb c hc
  · refine .inl ?_
    rcases hk with hk | ⟨c, hk⟩
    · exact .inl hk
    · by_cases hc : c = a
      · subst hc; rw [e1] at hk; exact .inr (.inl hk)
      · rw [e2 c hc] at hk; exact .inr (.inr ⟨c, hc, hk⟩)
  · rw [h3]
    rcases hk with hk | ⟨c, hk⟩
    · exact (st.in_ i hp (.inl hk)).2
    · by_cases hc : c = a
      · subst hc; rw [e1] at hk; exact (st.in_ i hp (.inr (.inl hk))).2
      · rw [e2 c hc] at hk; exact (st.in_ i hp (.inr (.inr ⟨c, hc, hk⟩))).2
end
end Go.VC

/- A block whose cells hold slices of the call's own, of several types. -/
set_option linter.unusedVariables false
set_option linter.unusedSimpArgs false
namespace Go.VC
/-- What a slice of the call's own holds. -/
structure Slot where
  ok : Heap → Value → Prop
  fr : ∀ {S : Nat → Prop} {H H' : Heap} {v : Value}, Agr S H H' → (∀ k, slB v k → S k) → ok H v → ok H' v
  lt : ∀ {H : Heap} {v : Value} {k : Nat}, ok H v → slB v k → k < H.size
def slot {α : Type} (T : Ty α) (e : TypeId) (xs : List α) : Slot := ⟨fun H v => SlO T none_ H 0 e v xs, fun h hb hv => hv.agr h hb (fun _ f => f.elim), fun h hk => (h.lt hk).2⟩
def updS (ss : Nat → Slot) (j : Nat) (s : Slot) : Nat → Slot := fun i => if i = j then s else ss i
theorem updS_self (ss : Nat → Slot) (j : Nat) (s : Slot) : updS ss j s j = s := if_pos rfl
theorem updS_ne {ss : Nat → Slot} {i j : Nat} {s : Slot} (h : i ≠ j) : updS ss j s i = ss i := if_neg h
section
variable {α : Type} {T : Ty α} {B : Nat → Prop} {H0 H H1 : Heap} {ps : List Pc} {e te : TypeId} {b : Nat} {vs : List Value} {ss : Nat → Slot} {xs : List α} {v : Value} {j : Nat}
def pF (te : TypeId) (b : Nat) (vs : List Value) (ss : Nat → Slot) : Pc where
  foot k := k = b ∨ ∃ (i : Nat) (v : Value), vs[i]? = some v ∧ slB v k
  ok H := Blk H b te vs ∧ (∀ (i : Nat) (v : Value), vs[i]? = some v → (ss i).ok H v) ∧ (∀ (i j : Nat) (v w : Value) (k : Nat), i ≠ j → vs[i]? = some v → vs[j]? = some w → slB v k → ¬ slB w k) ∧ ∀ (i : Nat) (v : Value), vs[i]? = some v → ¬ slB v b
  fr h hp := ⟨hp.1.agr h (.inl rfl), fun i v hv => (ss i).fr h (fun k hk => .inr ⟨i, v, hv, hk⟩) (hp.2.1 i v hv), hp.2.2⟩
theorem nil_slB {k : Nat} : ¬ slB (.slice none 0 0) k := fun ⟨_, _, _, h⟩ => by cases h
theorem StB.fldNew {n : Nat} (st : StB B H0 H ps) (i : Nat) (hp : ps[i]? = some (pB te b (List.replicate n (.slice none 0 0)))) (hs : ∀ j H, (ss j).ok H (.slice none 0 0)) : StB B H0 H (ps.set i (pF te b (List.replicate n (.slice none 0 0)) ss)) := by
  have hz : ∀ (j : Nat) (v : Value), (List.replicate n (Value.slice none 0 0))[j]? = some v → v = .slice none 0 0 := fun j v hv => by
    exact List.eq_of_mem_replicate (List.mem_of_getElem? hv)
  refine st.upd i hp (Agr.refl _ _) (pF te b (List.replicate n (.slice none 0 0)) ss) ⟨st.blk i hp, fun j v hv => by rw [hz j v hv]; exact hs j H, fun i j v w k _ hv hw hk => ?_, fun j v hv hk => ?_⟩ (fun k hk => ?_) (fun k hk => ?_) (Nat.le_refl _)
  · rw [hz i v hv] at hk; exact absurd hk nil_slB
  · rw [hz j v hv] at hk; exact nil_slB hk
  · rcases hk with hk | ⟨j, v, hv, hk⟩
    · exact .inl hk
    · rw [hz j v hv] at hk; exact absurd hk nil_slB
  · rcases hk with hk | ⟨j, v, hv, hk⟩
    · exact (st.in_ i hp hk).2
    · rw [hz j v hv] at hk; exact absurd hk nil_slB
theorem StB.fblk (st : StB B H0 H ps) (i : Nat) (hp : ps[i]? = some (pF te b vs ss)) : Blk H b te vs := (st.at_ i hp).1
theorem StB.fview (st : StB B H0 H ps) (i : Nat) (hp : ps[i]? = some (pF te b vs ss)) (hv : vs[j]? = some v) (hs : ss j = slot T e xs) : ∃ a cap, v = .slice a xs.length cap ∧ SlD T (Old H) H a cap xs := by
  have h := (st.at_ i hp).2.1 j v hv
  rw [hs] at h
  obtain ⟨a, cap, h1, h2, -⟩ := SlO.view (S' := Old H) (h : SlO T none_ H 0 e v xs) (fun k hk => (st.in_ i hp (.inr ⟨j, v, hv, hk⟩)).2) (fun _ f => f.elim)
  exact ⟨a, cap, h1, h2⟩
/-- The same, while the slice in cell j is out, as v'. -/
def pFm (te : TypeId) (b : Nat) (vs : List Value) (ss : Nat → Slot) (j : Nat) (s : Slot) (v' : Value) : Pc where
  foot k := k = b ∨ slB v' k ∨ ∃ (i : Nat) (v : Value), i ≠ j ∧ vs[i]? = some v ∧ slB v k
  ok H := Blk H b te vs ∧ j < vs.length ∧ s.ok H v' ∧ (∀ (i : Nat) (v : Value), i ≠ j → vs[i]? = some v → (ss i).ok H v) ∧ (∀ (i l : Nat) (v w : Value) (k : Nat), i ≠ j → l ≠ j → i ≠ l → vs[i]? = some v → vs[l]? = some w → slB v k → ¬ slB w k) ∧
    (∀ (i : Nat) (v : Value) (k : Nat), i ≠ j → vs[i]? = some v → slB v k → ¬ slB v' k) ∧ (∀ (i : Nat) (v : Value), i ≠ j → vs[i]? = some v → ¬ slB v b) ∧ ¬ slB v' b
  fr h hp := ⟨hp.1.agr h (.inl rfl), hp.2.1, s.fr h (fun k hk => .inr (.inl hk)) hp.2.2.1, fun i v hi hv => (ss i).fr h (fun k hk => .inr (.inr ⟨i, v, hi, hv, hk⟩)) (hp.2.2.2.1 i v hi hv), hp.2.2.2.2⟩
theorem appF {P : Program} {tt ty q o m cap2 by_ : Nat} {z : Value} {ys : List α} {ds : List Value} {K : Value → Heap → Prop} (st : StB B H0 H ps) (i : Nat) (ht : SlT P tt e T.size by_ z) (hp : ps[i]? = some (pF te b vs ss)) (hv : vs[j]? = some v) (hs : ss j = slot T e xs)
    (hd : Cells H q o ds) (hy : T.reps none_ H ds ys) (hm : m = ys.length) (h1 : ∀ u ∈ ds, u.oneCell' = true) (h63 : xs.length + ys.length ≤ maxLen) (hby : (xs.length + ys.length) * by_ ≤ 140737488355328)
    (k : ∀ v' H', StB B H0 H' (ps.set i (pFm te b vs ss j (slot T e (xs ++ ys)) v')) → Agr (fun k => k < H.size ∧ ¬ slB v k) H H' → v'.oneCell' = true → K v' H') :
    VEff P (Builtin.append_ #[tt, tt] ty [v, .slice (some ⟨q, o, none⟩) m cap2].toArray) H K := by
  obtain ⟨hblk, hall, hap, hb⟩ := st.at_ i hp
  have hown := hall j v hv
  rw [hs] at hown
  have hjl := (List.getElem?_eq_some_iff.1 hv).1
  have hbl : b < H.size := (st.in_ i hp (.inl rfl)).2
  have hlt : ∀ (l : Nat) (w : Value), vs[l]? = some w → ∀ k, slB w k → k < H.size := fun l w hw k hk => (st.in_ i hp (.inr ⟨l, w, hw, hk⟩)).2
  refine vappendO (T := T) (S := none_) (lo := 0) ht (hown : SlO T none_ H 0 e v xs) (Nat.zero_le _) (fun k hk => hk.elim) hd hy hm h1 h63 hby ?_
  intro v' H' hv' hagr hsz hfr
  refine k v' H' (st.upd i hp (hagr.mono fun k hk => ⟨hk.1, fun hb => hk.2 (.inr ⟨j, v, hv, hb⟩)⟩) (pFm te b vs ss j (slot T e (xs ++ ys)) v') ⟨hblk.agr hagr ⟨hbl, hb j v hv⟩, hjl, hv', fun l w hl hw => (ss l).fr hagr (fun k hk => ⟨hlt l w hw k hk, hap l j w v k hl hw hv hk⟩) (hall l w hw), fun l l' w w' k _ _ hll => hap l l' w w' k hll, fun l w k hl hw hk hk' => ?_, fun l w _ hw => hb l w hw, fun hk => ?_⟩ (fun k hk => ?_) (fun k hk => ?_) hsz) hagr hv'.one
  · rcases hfr k hk' with h | h
    · exact hap l j w v k hl hw hv hk h
    · have := hlt l w hw k hk; omega
  · rcases hfr b hk with h | h
    · exact hb j v hv h
    · omega
  · rcases hk with hk | hk | ⟨l, w, -, hw, hk⟩
    · exact .inl (.inl hk)
    · rcases hfr k hk with h | h
      · exact .inl (.inr ⟨j, v, hv, h⟩)
      · exact .inr h
    · exact .inl (.inr ⟨l, w, hw, hk⟩)
  · rcases hk with hk | hk | ⟨l, w, hl, hw, hk⟩
    · have : k = b := hk; omega
    · exact (hv'.lt hk).2
    · have := hlt l w hw k hk; omega
theorem stF {P : Program} {o : Nat} {s : Slot} {t : TypeId} {K : Heap → Prop} (st : StB B H0 H ps) (i : Nat) (ht : CellT P t) (hp : ps[i]? = some (pFm te b vs ss j s v)) (ho : o = j) (h1 : v.oneCell' = true)
    (k : ∀ H', StB B H0 H' (ps.set i (pF te b (vs.set j v) (updS ss j s))) → K H') : VEffU P (Instr.storeAt t (.pointer (some ⟨b, o, none⟩)) v) H K := by
  subst ho
  obtain ⟨hblk, hjl, hv', hall, hap, hapv, hb, hvb⟩ := st.at_ i hp
  refine VC.st1 ht hblk hjl h1 ?_
  intro H' hb' ha' hs'
  have e1 : ∀ (l : Nat) (w : Value), (vs.set o v)[l]? = some w → (l = o ∧ w = v) ∨ (l ≠ o ∧ vs[l]? = some w) := fun l w hw => by
    by_cases hl : l = o
    · subst hl
      rw [List.getElem?_set_self hjl] at hw
      cases hw; exact .inl ⟨rfl, rfl⟩
    · rw [List.getElem?_set_ne (Ne.symm hl)] at hw; exact .inr ⟨hl, hw⟩
  refine k H' (st.upd i hp (ha'.mono fun k hk hkb => hk.2 (.inl hkb)) (pF te b (vs.set o v) (updS ss o s)) ⟨hb', fun l w hw => ?_, fun l l' w w' kk hll hw hw' hk hk' => ?_, fun l w hw => ?_⟩ (fun k hk => ?_) (fun k hk => ?_) (by omega))
  · rcases e1 l w hw with ⟨rfl, rfl⟩ | ⟨hl, hw⟩
    · rw [updS_self]; exact s.fr ha' (fun k hk hkb => hvb (hkb ▸ hk)) hv'
    · rw [updS_ne hl]; exact (ss l).fr ha' (fun k hk hkb => hb l w hl hw (hkb ▸ hk)) (hall l w hl hw)
  · rcases e1 l w hw with ⟨rfl, rfl⟩ | ⟨hl, hw1⟩ <;> rcases e1 l' w' hw' with ⟨rfl, rfl⟩ | ⟨hl', hw1'⟩
    · exact hll rfl
    · exact hapv l' w' kk hl' hw1' hk' hk
    · exact hapv l w kk hl hw1 hk hk'
    · exact hap l l' w w' kk hl hl' hll hw1 hw1' hk hk'
  · rcases e1 l w hw with ⟨rfl, rfl⟩ | ⟨hl, hw⟩
    · exact hvb
    · exact hb l w hl hw
  · refine .inl ?_
    rcases hk with hk | ⟨l, w, hw, hk⟩
    · exact .inl hk
    · rcases e1 l w hw with ⟨rfl, rfl⟩ | ⟨hl, hw⟩
      · exact .inr (.inl hk)
      · exact .inr (.inr ⟨l, w, hl, hw, hk⟩)
  · rw [hs']
    rcases hk with hk | ⟨l, w, hw, hk⟩
    · exact (st.in_ i hp (.inl hk)).2
    · rcases e1 l w hw with ⟨rfl, rfl⟩ | ⟨hl, hw⟩
      · exact (st.in_ i hp (.inr (.inl hk))).2
      · exact (st.in_ i hp (.inr (.inr ⟨l, w, hl, hw, hk⟩))).2
/-- A value of one cell is written at place o into the slice in cell j. -/
theorem stFE {P : Program} {c o n cap : Nat} {u : Value} {y : α} {K : Heap → Prop} (st : StB B H0 H ps) (i : Nat) (ht : CellT P e) (hp : ps[i]? = some (pF te b vs ss)) (hv : vs[j]? = some (.slice (some ⟨c, 0, none⟩) n cap)) (hs : ss j = slot T e xs)
    (hsz : T.size = 1) (ho : o < xs.length) (hone : u.oneCell' = true) (hr : ∀ H', T.rep none_ H' [u] y) (k : ∀ H', StB B H0 H' (ps.set i (pF te b vs (updS ss j (slot T e (xs.set o y))))) → K H') : VEffU P (Instr.storeAt e (.pointer (some ⟨c, o, none⟩)) u) H K := by
  obtain ⟨hblk, hall, hap, hb⟩ := st.at_ i hp
  have hown := hall j _ hv
  rw [hs] at hown
  obtain ⟨-, -, hlo, l, hblk2, hlen, -, hput⟩ := SlO.placeS (hown : SlO T none_ H 0 e _ xs) ho
  rw [hsz, Nat.mul_one] at hlen hput
  refine VC.st1 ht hblk2 (by omega) hone ?_
  intro H' hb' ha' hs'
  have hown' := hput H' [u] y (by rw [splice_one (by omega)]; exact hb') (fun j hj => hj.elim) (hr H')
  have slb : slB (.slice (some ⟨c, 0, none⟩) n cap) c := ⟨0, n, cap, rfl⟩
  have hbc : b ≠ c := fun h => hb j _ hv (h ▸ slb)
  refine k H' (st.upd i hp (ha'.mono fun k hk hkc => hk.2 (.inr ⟨j, _, hv, by rw [hkc]; exact slb⟩)) (pF te b vs (updS ss j (slot T e (xs.set o y)))) ⟨hblk.agr ha' hbc, fun l w hw => ?_, hap, hb⟩ (fun k hk => .inl hk) (fun k hk => by rw [hs']; exact (st.in_ i hp hk).2) (by omega))
  by_cases hl : l = j
  · subst hl
    rw [hv] at hw; cases hw
    rw [updS_self]; exact hown'
  · rw [updS_ne hl]
    exact (ss l).fr ha' (fun k hk hkc => hap l j w _ k hl hw hv hk (by rw [hkc]; exact slb)) (hall l w hw)
/-- The address of an element. -/
theorem StB.fadr (st : StB B H0 H ps) (i : Nat) (hp : ps[i]? = some (pF te b vs ss)) (hv : vs[j]? = some v) (hs : ss j = slot T e xs) (hn : 0 < xs.length) : ∃ c cap, v = .slice (some ⟨c, 0, none⟩) xs.length cap := by
  have h := (st.at_ i hp).2.1 j v hv
  rw [hs] at h
  obtain ⟨cs, ⟨h0, h1⟩, h2⟩ := (h : SlO T none_ H 0 e v xs)
  rcases h1 with ⟨rfl, h1⟩ | ⟨c, cap, l, rfl, r⟩
  · omega
  · exact ⟨c, cap, rfl⟩
end
end Go.VC
/- A piece split in two; a map of slices that is only read from now on; keys that are texts. -/
set_option linter.unusedVariables false
set_option linter.unusedSimpArgs false
namespace Go.VC
section
variable {B : Nat → Prop} {H0 H : Heap} {ps : List Pc} {p : Pc}
theorem StB.apart2 (st : StB B H0 H ps) {i j : Nat} {q : Pc} (hp : ps[i]? = some p) (hq : ps[j]? = some q) (hij : i ≠ j) : Dis p q := by
  have hil := (List.getElem?_eq_some_iff.1 hp).1
  have hjl := (List.getElem?_eq_some_iff.1 hq).1
  have e1 := (List.getElem?_eq_some_iff.1 hp).2
  have e2 := (List.getElem?_eq_some_iff.1 hq).2
  intro k hk hk'
  rcases Nat.lt_or_gt_of_ne hij with h | h
  · exact List.pairwise_iff_getElem.1 st.dis i j hil hjl h k (by rw [e1]; exact hk) (by rw [e2]; exact hk')
  · exact List.pairwise_iff_getElem.1 st.dis j i hjl hil h k (by rw [e2]; exact hk') (by rw [e1]; exact hk)
theorem StB.split (st : StB B H0 H ps) (i : Nat) (hp : ps[i]? = some p) (q r : Pc) (hq : q.ok H) (hr : r.ok H) (fq : ∀ k, q.foot k → p.foot k) (fr : ∀ k, r.foot k → p.foot k) (hd : Dis q r) : StB B H0 H (ps.set i q ++ [r]) := by
  have st1 := st.say i hp q hq fq
  have hil := (List.getElem?_eq_some_iff.1 hp).1
  refine ⟨st.old, st.lt0, st.size, fun s hs => ?_, fun s hs k hk => ?_, List.pairwise_append.2 ⟨st1.dis, List.pairwise_singleton _ _, fun s hs t ht => ?_⟩⟩
  · rcases List.mem_append.1 hs with hs | hs
    · exact st1.oks s hs
    · rw [List.mem_singleton] at hs; subst hs; exact hr
  · rcases List.mem_append.1 hs with hs | hs
    · exact st1.rng s hs k hk
    · rw [List.mem_singleton] at hs; subst hs
      exact st.in_ i hp (fr k hk)
  · rw [List.mem_singleton] at ht; subst ht
    obtain ⟨j, hj⟩ := List.getElem?_of_mem hs
    by_cases hji : i = j
    · subst hji
      rw [List.getElem?_set_self hil] at hj
      cases hj; exact hd
    · rw [List.getElem?_set_ne hji] at hj
      exact fun k hk hk' => st.apart2 hj hp (Ne.symm hji) k hk (fr k hk')
end
section
variable {α β : Type} {Ok : α → Prop} {enc : α → Value} {T : Ty β} {e : TypeId} {b : Nat} {m : α → Option Value} {xs : α → List β} {B : Nat → Prop} {H0 H : Heap} {ps : List Pc}
/-- The slices of a map, without the map. -/
def pVs (T : Ty β) (e : TypeId) (m : α → Option Value) (xs : α → List β) : Pc where
  foot k := ∃ a, slB (slAt m a) k
  ok H := ∀ a, SlO T none_ H 0 e (slAt m a) (xs a)
  fr h hp := fun a => (hp a).agr h (fun k hk => ⟨a, hk⟩) (fun _ hk => hk.elim)
theorem StB.mqSplit (st : StB B H0 H ps) (i : Nat) (hp : ps[i]? = some (pMQ Ok enc T e b m xs)) : StB B H0 H (ps.set i (pMW Ok enc b m) ++ [pVs T e m xs]) := by
  obtain ⟨h1, h2, h3, h4⟩ := st.at_ i hp
  refine st.split i hp (pMW Ok enc b m) (pVs T e m xs) h1 h2 (fun k hk => .inl hk) (fun k hk => .inr hk) ?_
  rintro k hk ⟨a, ha⟩
  have e : k = b := hk
  subst e
  exact h4 a ha
theorem StB.vsView (st : StB B H0 H ps) (i : Nat) (hp : ps[i]? = some (pVs T e m xs)) (a : α) : ∃ ad cap, slAt m a = .slice ad (xs a).length cap ∧ SlD T (Old H) H ad cap (xs a) := by
  obtain ⟨ad, cap, h1, h2, -⟩ := (st.at_ i hp a).view (S' := Old H) (fun k hk => (st.in_ i hp ⟨a, hk⟩).2) (fun _ hk => hk.elim)
  exact ⟨ad, cap, h1, h2⟩
theorem StB.mqExt {ys : α → List β} (st : StB B H0 H ps) (i : Nat) (hp : ps[i]? = some (pMQ Ok enc T e b m xs)) (h : ∀ a, xs a = ys a) : StB B H0 H (ps.set i (pMQ Ok enc T e b m ys)) := by
  obtain rfl : xs = ys := funext h
  exact st.say i hp _ (st.at_ i hp) (fun k hk => hk)
end
/-- Every key. -/
abbrev anyK {α : Type} (_ : α) : Prop := True
theorem MapF.toW {α : Type} {enc : α → Value} {H : Heap} {b : Nat} {m : α → Option Value} (h : MapF enc H b m) : MapW anyK enc H b m := ⟨h, fun _ _ _ => trivial⟩
theorem KeyW.ofE {P : Program} {kt : TypeId} {d : TypeDesc} {α : Type} {enc : α → Value} (hd : P.underlying kt = some d) (hk : KeyE d enc) : KeyW P kt anyK enc where
  inj := hk.inj
  check w em a _ := Go.MapKept.run_checkKey hd (hk.isKey a) em 9999
  find w a _ es hes := by
    have hall : ∀ x ∈ es, Go.MapKept.IsKey d x.key := fun x hx => by
      obtain ⟨b, -, e⟩ := hes x hx
      rw [e]; exact hk.isKey b
    rcases Go.MapKept.findNow_spec (hk.isKey a) es 0 hall with ⟨h1, h2⟩ | ⟨j, e, h1, h2, h3⟩
    · exact .inl ⟨Go.MapKept.run_findKey hd h1, h2⟩
    · exact .inr ⟨j, e, by rw [Nat.zero_add] at h1; exact Go.MapKept.run_findKey hd h1, h2, h3⟩
  stays w a _ := Go.MapKept.run_keyThatStays (hk.isKey a)
theorem strV_inj (a b : ByteArray) (h : Value.string a = Value.string b) : a = b := by cases h; rfl
end Go.VC
/- Taking a map's slice out, and laying it again by an update. -/
set_option linter.unusedVariables false
set_option linter.unusedSimpArgs false
namespace Go.VC
section
variable {α β : Type} {Ok : α → Prop} {enc : α → Value} {T : Ty β} {e : TypeId} {b : Nat} {m : α → Option Value} {xs : α → List β} {B : Nat → Prop} {H0 H H' : Heap} {ps : List Pc} {P : Program} {t kt et : TypeId} {a : α}
/-- The slice at a is out, as v, holding x; the map itself is as it was. -/
def pMQo (Ok : α → Prop) (enc : α → Value) (T : Ty β) (e : TypeId) (b : Nat) (m : α → Option Value) (xs : α → List β) (a : α) (v : Value) (x : List β) : Pc where
  foot k := k = b ∨ slB v k ∨ ∃ c, c ≠ a ∧ slB (slAt m c) k
  ok H := MapW Ok enc H b m ∧ SlO T none_ H 0 e v x ∧ (∀ c, c ≠ a → SlO T none_ H 0 e (slAt m c) (xs c)) ∧ (∀ c c' k, c ≠ a → c' ≠ a → c ≠ c' → slB (slAt m c) k → ¬ slB (slAt m c') k) ∧ (∀ c k, c ≠ a → slB (slAt m c) k → ¬ slB v k) ∧ (∀ c, c ≠ a → ¬ slB (slAt m c) b) ∧ ¬ slB v b
  fr h hp := ⟨hp.1.agr h (.inl rfl), hp.2.1.agr h (fun k hk => .inr (.inl hk)) (fun _ hk => hk.elim), fun c hc => (hp.2.2.1 c hc).agr h (fun k hk => .inr (.inr ⟨c, hc, hk⟩)) (fun _ hk => hk.elim), hp.2.2.2⟩
theorem StB.mqOut (st : StB B H0 H ps) (i : Nat) (hp : ps[i]? = some (pMQ Ok enc T e b m xs)) (a : α) : StB B H0 H (ps.set i (pMQo Ok enc T e b m xs a (slAt m a) (xs a))) := by
  obtain ⟨hmap, hown, hap, hb⟩ := st.at_ i hp
  refine st.say i hp _ ⟨hmap, hown a, fun c _ => hown c, fun c c' k _ _ hcc => hap c c' k hcc, fun c k hc => hap c a k hc, fun c _ => hb c, hb a⟩ fun k hk => ?_
  rcases hk with hk | hk | ⟨c, -, hk⟩
  · exact .inl hk
  · exact .inr ⟨a, hk⟩
  · exact .inr ⟨c, hk⟩
theorem appQo {ty q o l cap2 by_ : Nat} {z v : Value} {x : List β} {ys : List β} {ds : List Value} {tt : TypeId} {K : Value → Heap → Prop} (st : StB B H0 H ps) (i : Nat) (ht : SlT P tt e T.size by_ z) (hp : ps[i]? = some (pMQo Ok enc T e b m xs a v x))
    (hd : Cells H q o ds) (hy : T.reps none_ H ds ys) (hl : l = ys.length) (h1 : ∀ u ∈ ds, u.oneCell' = true) (h63 : x.length + ys.length ≤ maxLen) (hby : (x.length + ys.length) * by_ ≤ 140737488355328)
    (k : ∀ v' H', StB B H0 H' (ps.set i (pMQo Ok enc T e b m xs a v' (x ++ ys))) → Agr (fun k => k < H.size ∧ ¬ slB v k) H H' → K v' H') :
    VEff P (Builtin.append_ #[tt, tt] ty [v, .slice (some ⟨q, o, none⟩) l cap2].toArray) H K := by
  obtain ⟨hmap, hv, hown, hap, hapv, hb, hvb⟩ := st.at_ i hp
  have hlt : ∀ c, c ≠ a → ∀ k, slB (slAt m c) k → k < H.size := fun c hc k hk => (st.in_ i hp (.inr (.inr ⟨c, hc, hk⟩))).2
  have hbl : b < H.size := (st.in_ i hp (.inl rfl)).2
  refine vappendO (T := T) (S := none_) (lo := 0) ht hv (Nat.zero_le _) (fun k hk => hk.elim) hd hy hl h1 h63 hby ?_
  intro v' H' hv' hagr hsz hfr
  refine k v' H' (st.upd i hp (hagr.mono fun k hk => ⟨hk.1, fun hb => hk.2 (.inr (.inl hb))⟩) (pMQo Ok enc T e b m xs a v' (x ++ ys)) ⟨hmap.agr hagr ⟨hbl, hvb⟩, hv', fun c hc => (hown c hc).agr hagr (fun k hk => ⟨hlt c hc k hk, hapv c k hc hk⟩) (fun _ hk => hk.elim), hap, fun c k hc hk hk' => ?_, hb, fun hk => ?_⟩ (fun k hk => ?_) (fun k hk => ?_) hsz) hagr
  · rcases hfr k hk' with h | h
    · exact hapv c k hc hk h
    · have := hlt c hc k hk; omega
  · rcases hfr b hk with h | h
    · exact hvb h
    · omega
  · rcases hk with hk | hk | hk
    · exact .inl (.inl hk)
    · rcases hfr k hk with h | h
      · exact .inl (.inr (.inl h))
      · exact .inr h
    · exact .inl (.inr (.inr hk))
  · rcases hk with hk | hk | ⟨c, hc, hk⟩
    · have : k = b := hk; omega
    · exact (hv'.lt hk).2
    · have := hlt c hc k hk; omega
theorem mputQo {v : Value} {x : List β} {z : Value} {K : Heap → Prop} (st : StB B H0 H ps) (i : Nat) (ht : MapTW P t kt et z) (hk : KeyW P kt Ok enc) (ha : Ok a) (hp : ps[i]? = some (pMQo Ok enc T e b m xs a v x))
    (k : ∀ m' H', StB B H0 H' (ps.set i (pMQ Ok enc T e b m' (upd xs a x))) → K H') : VEffU P (Instr.mapUpdate t (.map (some b)) (enc a) v) H K := by
  obtain ⟨hmap, hv, hown, hap, hapv, hb, hvb⟩ := st.at_ i hp
  refine mputW ht hk ha hmap ?_
  intro H' h1 h2 h3
  have e1 : slAt (put m a (some v)) a = v := slAt_put m a v
  have e2 : ∀ c, c ≠ a → slAt (put m a (some v)) c = slAt m c := fun c hc => slAt_ne hc
  refine k _ H' (st.upd i hp (h2.mono fun k hk hkb => hk.2 (.inl hkb)) (pMQ Ok enc T e b (put m a (some v)) (upd xs a x)) ⟨h1, fun c => ?_, fun c c' k hcc => ?_, fun c => ?_⟩ (fun k hk => ?_) (fun k hk => ?_) (by omega))
  · by_cases hc : c = a
    · subst hc; rw [e1, upd_self]; exact hv.agr h2 (fun k hk hkb => hvb (hkb ▸ hk)) (fun _ hk => hk.elim)
    · rw [e2 c hc, upd_ne hc]; exact (hown c hc).agr h2 (fun k hk hkb => hb c hc (hkb ▸ hk)) (fun _ hk => hk.elim)
  · by_cases hc : c = a
    · subst hc
      rw [e1, e2 c' (Ne.symm hcc)]
      exact fun h1 h2 => hapv c' _ (Ne.symm hcc) h2 h1
    · by_cases hc' : c' = a
      · subst hc'
        rw [e1, e2 c hc]
        exact hapv c _ hc
      · rw [e2 c hc, e2 c' hc']; exact hap c c' k hc hc' hcc
  · by_cases hc : c = a
    · subst hc; rw [e1]; exact hvb
    · rw [e2 c hc]; exact hb c hc
  · refine .inl ?_
    rcases hk with hk | ⟨c, hk⟩
    · exact .inl hk
    · by_cases hc : c = a
      · subst hc; rw [e1] at hk; exact .inr (.inl hk)
      · rw [e2 c hc] at hk; exact .inr (.inr ⟨c, hc, hk⟩)
  · rw [h3]
    rcases hk with hk | ⟨c, hk⟩
    · exact (st.in_ i hp (.inl hk)).2
    · by_cases hc : c = a
      · subst hc; rw [e1] at hk; exact (st.in_ i hp (.inr (.inl hk))).2
      · rw [e2 c hc] at hk; exact (st.in_ i hp (.inr (.inr ⟨c, hc, hk⟩))).2
end
end Go.VC
/- Nondeterministic automata in memory. -/
set_option linter.unusedVariables false
set_option linter.unusedSimpArgs false
set_option maxRecDepth 100000
namespace Go.Proofs.YthomdogheamfpaaDoor
open Go.VC
/-- An edge of the program's. -/
def edL (e : EdM) : List Value := [.int .i64 e.fr, .int .i64 e.to, .bool e.sil, .int .u64 (wd e.set 0), .int .u64 (wd e.set 1), .int .u64 (wd e.set 2), .int .u64 (wd e.set 3)]
theorem edL_set (e : EdM) : ∀ (j : Nat) (v : Value), (setL e.set)[j]? = some v → (edL e)[3 + j]? = some v := by
  intro j v h
  rw [show 3 + j = j + 3 by omega]
  exact h
def EdM.Ok (e : EdM) : Prop := inK .i64 e.fr ∧ inK .i64 e.to
def tEd : Ty EdM where
  size := 7
  rep _ _ cs e := cs = edL e ∧ e.Ok
  len h := by rw [h.1]; rfl
  frame h _ := h
  mono h _ := h
theorem ed_ones (e : EdM) : (edL e).all (·.oneCell') = true := rfl
theorem tEd_ones : tEd.Ones := by
  rintro S H cs e ⟨rfl, -⟩ u hu
  exact List.all_eq_true.1 (ed_ones e) u hu
theorem tEd_free : tEd.Free := fun S S' H H' cs e h => h
/-- An edge of the document's. -/
def edDL (e : EdM) : List Value := [.int .i64 e.fr, .int .i64 e.to, .bool e.sil] ++ bitsL e.set
theorem edDL_len (e : EdM) : (edDL e).length = 259 := by
  unfold edDL
  rw [List.length_append, show (bitsL e.set).length = 256 from bitsTo_len _ _]
  rfl
def tEdD : Ty EdM where
  size := 259
  rep _ _ cs e := cs = edDL e ∧ e.Ok
  len h := by rw [h.1]; exact edDL_len _
  frame h _ := h
  mono h _ := h
theorem edD_ones (e : EdM) : (edDL e).all (·.oneCell') = true := by
  unfold edDL
  rw [List.all_append, bitsL, bits_ones]
  rfl
theorem tEdD_ones : tEdD.Ones := by
  rintro S H cs e ⟨rfl, -⟩ u hu
  exact List.all_eq_true.1 (edD_ones e) u hu
theorem tEdD_free : tEdD.Free := fun S S' H H' cs e h => h
theorem edDL_bit (e : EdM) {b : Nat} (h : b < 256) : (edDL e)[3 + b]? = some (.bool (e.set.getLsbD b)) := by
  unfold edDL
  rw [List.getElem?_append_right (by simp)]
  simpa using bitsL_get e.set h
def NfM.Rng (a : NfM) : Prop := inK .i64 a.st ∧ inK .i64 a.start ∧ inK .i64 a.fin
def nfL (a : NfM) (v : Value) : List Value := [.int .i64 a.st, .int .i64 a.start, .int .i64 a.fin, v]
/-- An automaton of the program's, to be read. -/
def NfV (S : Nat → Prop) (H : Heap) (v : Value) (a : NfM) : Prop := a.Rng ∧ a.edges.length ≤ 1048576 ∧ ∃ ea ec, v = .agg (nfL a (.slice ea a.edges.length ec)).toArray ∧ SlD tEd S H ea ec a.edges
/-- The document's. -/
def NdV (S : Nat → Prop) (H : Heap) (v : Value) (a : NfM) : Prop := a.Rng ∧ a.edges.length ≤ 1048576 ∧ ∃ ea ec, v = .agg (nfL a (.slice ea a.edges.length ec)).toArray ∧ SlD tEdD S H ea ec a.edges
section
variable {S S' : Nat → Prop} {H H' : Heap} {v : Value} {a : NfM}
theorem NfV.frame (h : NfV S H v a) (k : Agr S H H') : NfV S H' v a := by
  obtain ⟨h1, h0, ea, ec, h2, h3⟩ := h
  exact ⟨h1, h0, ea, ec, h2, h3.frame k⟩
theorem NfV.mono (h : NfV S H v a) (k : ∀ i, S i → S' i) : NfV S' H v a := by
  obtain ⟨h1, h0, ea, ec, h2, h3⟩ := h
  exact ⟨h1, h0, ea, ec, h2, h3.mono k⟩
theorem NdV.frame (h : NdV S H v a) (k : Agr S H H') : NdV S H' v a := by
  obtain ⟨h1, h0, ea, ec, h2, h3⟩ := h
  exact ⟨h1, h0, ea, ec, h2, h3.frame k⟩
theorem NdV.mono (h : NdV S H v a) (k : ∀ i, S i → S' i) : NdV S' H v a := by
  obtain ⟨h1, h0, ea, ec, h2, h3⟩ := h
  exact ⟨h1, h0, ea, ec, h2, h3.mono k⟩
end
theorem edge_z : (Tryd.prog.info? 75).bind (·.zero) = some (.agg #[.int .i64 0, .int .i64 0, .bool false, .int .u64 0, .int .u64 0, .int .u64 0, .int .u64 0]) := rfl
theorem nfa_z : (Tryd.prog.info? 58).bind (·.zero) = some (.agg #[.int .i64 0, .int .i64 0, .int .i64 0, .slice none 0 0]) := rfl
theorem nfd_z : (Tryd.prog.info? 67).bind (·.zero) = some (.agg #[.int .i64 0, .int .i64 0, .int .i64 0, .slice none 0 0]) := rfl
def edDZ : Value := Value.agg (([Value.int .i64 0, Value.int .i64 0, Value.bool false] : List Value) ++ List.replicate 256 (Value.bool false)).toArray
def edZL : List Value := ([Value.int .i64 0, Value.int .i64 0, Value.bool false] : List Value) ++ List.replicate 256 (Value.bool false)
theorem edZL_len : edZL.length = 259 := by simp [edZL]
theorem edgeD_z : (Tryd.prog.info? 143).bind (·.zero) = some edDZ := by kernel_rfl
theorem edge_fill (x y : Int) (b : Bool) (w0 w1 w2 w3 : Value) {S : Nat → Prop} {H : Heap} {K : Value → Prop} (h0 : w0.oneCell' = true) (h1 : w1.oneCell' = true) (h2 : w2.oneCell' = true) (h3 : w3.oneCell' = true) (k : K (.agg [.int .i64 x, .int .i64 y, .bool b, w0, w1, w2, w3].toArray)) :
    VDet Tryd.prog (Instr.build 75 [(0, .int .i64 x), (1, .int .i64 y), (2, .bool b), (3, .agg [w0, w1, w2, w3].toArray)].toArray) S H K :=
  vbuildS Tryd.underlying75 rfl _ edge_z [.int .i64 x, .int .i64 y, .bool b, w0, w1, w2, w3] (by kernel_rfl) k
theorem edge_build (e : EdM) {S : Nat → Prop} {H : Heap} {K : Value → Prop} (k : K (.agg (edL e).toArray)) :
    VDet Tryd.prog (Instr.build 75 [(0, .int .i64 e.fr), (1, .int .i64 e.to), (2, .bool e.sil), (3, .agg (setL e.set).toArray)].toArray) S H K := by
  unfold setL edL at *
  exact edge_fill e.fr e.to e.sil _ _ _ _ rfl rfl rfl rfl k
theorem fill4 {place : Nat → Option (Nat × Nat)} {c0 c1 c2 v0 v1 v2 : Value} {zs bs : List Value} (hl : bs.length = zs.length) (p0 : place 0 = some (0, 1)) (p1 : place 1 = some (1, 1)) (p2 : place 2 = some (2, 1)) (p3 : place 3 = some (3, zs.length))
    (h0 : v0.cells = #[v0]) (h1 : v1.cells = #[v1]) (h2 : v2.cells = #[v2]) : Instr.fill place ([c0, c1, c2] ++ zs).toArray [(0, v0), (1, v1), (2, v2), (3, .agg bs.toArray)] = some ([v0, v1, v2] ++ bs).toArray := by
  have e0 : splice ([c0, c1, c2] ++ zs) 0 [v0] = [v0, c1, c2] ++ zs := rfl
  have e1 : splice ([v0, c1, c2] ++ zs) 1 [v1] = [v0, v1, c2] ++ zs := rfl
  have e2 : splice ([v0, v1, c2] ++ zs) 2 [v2] = [v0, v1, v2] ++ zs := rfl
  have e3 : splice ([v0, v1, v2] ++ zs) 3 bs = [v0, v1, v2] ++ bs := by
    unfold splice
    rw [show ([v0, v1, v2] ++ zs).take 3 = [v0, v1, v2] from rfl, List.drop_eq_nil_of_le (by simp; omega), List.append_nil]
  have ec : (Value.agg bs.toArray).cells = bs.toArray := rfl
  rw [fill_cons p0 (by rw [h0]; rfl) (by simp), h0, List.toList_toArray, e0, fill_cons p1 (by rw [h1]; rfl) (by simp), h1, List.toList_toArray, e1, fill_cons p2 (by rw [h2]; rfl) (by simp), h2, List.toList_toArray, e2, fill_cons p3 (by rw [ec]; simpa using hl) (by simp; omega), ec, List.toList_toArray, List.toList_toArray, e3]
  rfl
theorem edgeD_build (e : EdM) {S : Nat → Prop} {H : Heap} {K : Value → Prop} (k : K (.agg (edDL e).toArray)) :
    VDet Tryd.prog (Instr.build 143 [(0, .int .i64 e.fr), (1, .int .i64 e.to), (2, .bool e.sil), (3, .agg (bitsL e.set).toArray)].toArray) S H K :=
  vbuildS Tryd.underlying143 rfl edDZ edgeD_z (edDL e) (fill4 (zs := List.replicate 256 (Value.bool false)) (by rw [show (bitsL e.set).length = 256 from bitsTo_len _ _, List.length_replicate]) (by kernel_rfl) (by kernel_rfl) (by kernel_rfl) (by rw [List.length_replicate]; kernel_rfl) rfl rfl rfl) k
/-- Boxing an automaton, and reading it. -/
theorem nf_box {S : Nat → Prop} {H : Heap} {v : Value} {a : NfM} {K : Value → Heap → Prop} {t : TypeId} (h : NfV S H v a)
    (k : ∀ ea ec, v = .agg (nfL a (.slice ea a.edges.length ec)).toArray → SlD tEd S H ea ec a.edges → New H (fun b H' => K (.pointer (some ⟨b, 0, none⟩)) H') t (nfL a (.slice ea a.edges.length ec))) : VEff Tryd.prog (Instr.box t v) H K := by
  obtain ⟨hr, hl, ea, ec, rfl, h1⟩ := h
  exact vbox (nfL a (.slice ea a.edges.length ec)) rfl (k ea ec rfl h1)
theorem nd_box {S : Nat → Prop} {H : Heap} {v : Value} {a : NfM} {K : Value → Heap → Prop} {t : TypeId} (h : NdV S H v a)
    (k : ∀ ea ec, v = .agg (nfL a (.slice ea a.edges.length ec)).toArray → SlD tEdD S H ea ec a.edges → New H (fun b H' => K (.pointer (some ⟨b, 0, none⟩)) H') t (nfL a (.slice ea a.edges.length ec))) : VEff Tryd.prog (Instr.box t v) H K := by
  obtain ⟨hr, hl, ea, ec, rfl, h1⟩ := h
  exact vbox (nfL a (.slice ea a.edges.length ec)) rfl (k ea ec rfl h1)
theorem nf_load {S S0 : Nat → Prop} {H : Heap} {a : NfM} {pb : Nat} {ea : Option Addr} {ec : Nat} {K : Value → Prop} {t : TypeId} (hr : a.Rng) (hl : a.edges.length ≤ 1048576) (hb : Blk H pb t (nfL a (.slice ea a.edges.length ec))) (hag : AggT Tryd.prog t 4) (hS : S0 pb) (h1 : SlD tEd S H ea ec a.edges)
    (k : ∀ v, NfV S H v a → K v) : VDet Tryd.prog (Instr.loadAt t (.pointer (some ⟨pb, 0, none⟩))) S0 H K :=
  ldN (cs := nfL a (.slice ea a.edges.length ec)) hag (hb.cells fun j v hv => by rw [Nat.zero_add]; exact hv) hS (k _ ⟨hr, hl, ea, ec, rfl, h1⟩)
theorem nd_load {S S0 : Nat → Prop} {H : Heap} {a : NfM} {pb : Nat} {ea : Option Addr} {ec : Nat} {K : Value → Prop} {t : TypeId} (hr : a.Rng) (hl : a.edges.length ≤ 1048576) (hb : Blk H pb t (nfL a (.slice ea a.edges.length ec))) (hag : AggT Tryd.prog t 4) (hS : S0 pb) (h1 : SlD tEdD S H ea ec a.edges)
    (k : ∀ v, NdV S H v a → K v) : VDet Tryd.prog (Instr.loadAt t (.pointer (some ⟨pb, 0, none⟩))) S0 H K :=
  ldN (cs := nfL a (.slice ea a.edges.length ec)) hag (hb.cells fun j v hv => by rw [Nat.zero_add]; exact hv) hS (k _ ⟨hr, hl, ea, ec, rfl, h1⟩)
/-! ### has -/
theorem has_p {S : Nat → Prop} {H : Heap} {v : Value} {a : NfM} {q : Int} (h : NfV S H v a) : Pure Tryd.prog 83 #[v, .int .i64 q] H (.bool (a.has q)) := by
  refine FnOk.of_vc Tryd.func83 rfl (Tryd.call83 _) ?_
  (conv => whnf); refine nf_box h fun ea ec he h1 => ?_
  subst he
  intro p H1 hp hs1 hb1 ha1
  have st1 := (St.nil H).box hp hs1 hb1 ha1
  by_cases h0 : 0 ≤ q
  · have d0 : decide (0 ≤ q) = true := decide_eq_true h0
    (conv => whnf); rw [d0]
    (conv => whnf); refine fa fl58_0 ?_
    (conv => whnf); refine ld1 (v := .int .i64 a.st) ct3 (by rw [hb1.cell]; rfl) trivial ?_
    by_cases h2 : q < a.st
    · have d1 : decide (q < a.st) = true := decide_eq_true h2
      (conv => whnf); rw [d1]
      (conv => whnf); refine fa fl58_0 ?_
      (conv => whnf); refine ld1 (v := .int .i64 a.st) ct3 (by rw [hb1.cell]; rfl) trivial ?_
      (conv => whnf)
      exact ⟨by unfold NfM.has; rw [d0, d1]; rfl, st1.old⟩
    · have d1 : decide (q < a.st) = false := decide_eq_false h2
      (conv => whnf); rw [d1]
      (conv => whnf)
      exact ⟨by unfold NfM.has; rw [d0, d1]; rfl, st1.old⟩
  · have d0 : decide (0 ≤ q) = false := decide_eq_false h0
    (conv => whnf); rw [d0]
    (conv => whnf)
    exact ⟨by unfold NfM.has; rw [d0]; rfl, st1.old⟩
end Go.Proofs.YthomdogheamfpaaDoor
/- Closing: a law that returns true and leaves all that was there as it was. -/
set_option linter.unusedVariables false
namespace Go.VC
open Go.ChangeShapes Go.WideShapes Go.ChangeAt Go.RowKit

theorem kept_of_agr {W W' : World} {may : MemPlace → Prop} (he : Env W W') (h : Agr (Old W.heap) W.heap W'.heap) : W.keptBut W' may := by
  refine ⟨he.os, he.output, fun i hi => ?_⟩
  rw [h i hi]
  split <;> simp_all
theorem frozen_of_agr {W W' : World} (h : Agr (Old W.heap) W.heap W'.heap) (a : Addr) (ha : a.block < W.heap.size) : W'.frozen? a = W.frozen? a := by
  unfold World.frozen?
  rw [h a.block ha]
theorem sameAt_of_agr {W W' : World} (h : Agr (Old W.heap) W.heap W'.heap) : ∀ p : MemPlace, p.block < W.heap.size → W.sameAt W' p
  | .cell b o, hb => by
    show W'.cell? ⟨b, o, none⟩ = W.cell? ⟨b, o, none⟩
    rw [cell_w, cell_w]
    exact cell_eq (h b hb)
  | .map b, hb => h b hb
section
variable {H : Type} {enc : TypeId × Value → H} {P : Program}
theorem all_stay {W W' : World} {sp : Nat → Bool} (hl : laidOutB P = true) (ha : Agr (Old W.heap) W.heap W'.heap) : ∀ {ts : List TypeId} {vs : List Value} {ds : List (DataW H)} {ps : List MemPlace}, (∀ t ∈ ts, P.readableRec t = true ∧ t < P.types.size) →
    DataW.TrodAll enc P W 0 (fun _ => true) true ts vs ds ps → (∀ p ∈ ps, p.block < W.heap.size) → (∀ p ∈ ps, sp p.block = true) → DataW.TrodAll enc P W' 0 sp true ts vs ds ps
  | [], vs, ds, ps, _, h, _, _ => by
    obtain ⟨rfl, rfl, rfl⟩ := trodAll_nil h
    exact trodAll_mk0
  | t :: ts, vs, ds, ps, ht, h, hlt, hsp => by
    obtain ⟨v, vs', d, ds', p, q, rfl, rfl, rfl, h1, h2⟩ := trodAll_cons h
    have ht0 := ht t List.mem_cons_self
    exact trodAll_cons_mk (WideElems.Trod_stays hl ht0.1 ht0.2 h1 (fun x hx => sameAt_of_agr ha x (hlt x (List.mem_append_left _ hx))) fun x hx => hsp x (List.mem_append_left _ hx))
      (all_stay hl ha (fun x hx => ht x (List.mem_cons_of_mem _ hx)) h2 (fun x hx => hlt x (List.mem_append_right _ hx)) fun x hx => hsp x (List.mem_append_right _ hx))
theorem trod_b {w : World} {base : Nat} {sp : Nat → Bool} {hd : Bool} {t : TypeId} {b : Bool} (h : P.underlying t = some .bool) : DataW.Trod enc P w base sp hd t (.bool b) (.lit (.bool b)) [] := ⟨1, by simp [DataW.trod, Value.cells, h]⟩
/-- The law has returned true; what was there is as it was. -/
theorem post_true {f : Func} {s : ChangeSpec} {apart fresh handsOn again : Bool} {W W' : World} {args : Array Value} {ds gs : List (DataW H)} {before : List MemPlace} {bt : TypeId}
    (hW : DataW.Whole enc P f.params.toList s.vars apart W args.toList ds gs before) (hv : s.vars = []) (hfn : (s.fn H (ds ++ gs)).results = [.lit (.bool true)] ∧ (s.fn H (ds ++ gs)).args = ds ∧ (s.fn H (ds ++ gs)).vars = [])
    (hl : laidOutB P = true) (hp : f.params.toList.all (fun t => P.readableRec t && decide (t < P.types.size)) = true) (hr : f.resultTypes = #[bt]) (hu : P.underlying bt = some .bool)
    (he : Env W W') (ha : Agr (Old W.heap) W.heap W'.heap) : s.post enc P f apart fresh handsOn again W args (.bool true) W' := by
  have hlt := hW.lt
  have hW' := hW
  obtain ⟨pa, pv, hA, hV, hbe, hz, hn⟩ := hW
  rw [hv] at hV
  obtain ⟨rfl, rfl⟩ := trodVars_none hV
  rw [List.append_nil] at hbe
  subst hbe
  obtain ⟨hres, hargs, hvars⟩ := hfn
  have hk : W.keptBut W' (fun _ => False) := kept_of_agr he ha
  have hpp : ∀ t ∈ f.params.toList, P.readableRec t = true ∧ t < P.types.size := fun t ht => by
    have := List.all_eq_true.1 hp t ht
    simpa using this
  have hst : ∀ sp : Nat → Bool, (∀ p ∈ before, sp p.block = true) → DataW.TrodAll enc P W' 0 sp true f.params.toList args.toList (s.fn H (ds ++ [])).args before := fun sp hsp => by
    rw [hargs]; exact all_stay hl ha hpp hA hlt hsp
  have hrs : ∀ (b : Nat) (sp : Nat → Bool) (hd : Bool), DataW.TrodAll enc P W' b sp hd f.resultTypes.toList ((Value.bool true).resultList f.resultTypes.size) (s.fn H (ds ++ [])).results [] := fun b sp hd => by
    rw [hres, hr]; exact trodAll_mk1 (trod_b hu)
  have hvs : ∀ sp : Nat → Bool, DataW.TrodVars enc P W' sp s.vars (s.fn H (ds ++ [])).vars [] := fun sp => by
    rw [hvars, hv]; rfl
  have hok : ∀ (j : Nat) (t : TypeId) (r : Value), f.resultTypes[j]? = some t → ((Value.bool true).resultList f.resultTypes.size)[j]? = some r → Value.okWide P W' .any 0 t r := ok_one hr rfl (okWide_bool_mk hu true)
  refine ⟨ds, [], before, [], before, [], hW', hrs _ _ _, hst _ (fun p hp => decide_eq_true (hlt p hp)), hvs _, World.keptBut_mono (fun p hp => hp.elim) hk, fun _ => ?_⟩
  refine ⟨hok, _, _, ([] ++ before) ++ [], ⟨[] ++ before, [], trodAll_append (hst _ (fun _ _ => rfl)) (hrs _ _ _), hvs _, rfl, ?_, ?_⟩, ?_⟩
  · intro b off hp
    simp only [List.nil_append, List.append_nil] at hp
    rw [frozen_of_agr ha _ (hlt _ hp)]
    exact hz b off hp
  · intro hap
    have := hn hap
    simpa using this
  · intro p hp _
    simpa using hp
end

end Go.VC
/- A law's net, handed in. -/
set_option linter.unusedVariables false
set_option linter.unusedSimpArgs false
set_option maxRecDepth 100000
namespace Go.Proofs.YthomdogheamfpaaDoor
open Go.VC Go
theorem own_ : ownKnob Tryd.prog.godebug = none := by kernel_rfl
theorem laid_ : laidOutB Tryd.prog = true := by kernel_rfl
theorem small_of {H : Type} {ds : List (DataW H)} (h : Rows.uptoSmall H ds = true) : Rows.uptoBulkAll ds ≤ 1048576 := by simpa [Rows.uptoSmall] using h
section
variable {H : Type} {enc : TypeId × Value → H} {W : World}
theorem opens_way5 : Opens enc Tryd.prog W tEd (fun _ => 1) 72 := by
  intro fuel cs d ps h
  obtain ⟨xs, m, rfl, hd, hl, hx, hg⟩ := DataW.trod_struct Tryd.underlying72 h
  cases hd
  have h7 : Tryd.prog.cellsOf 72 = 7 := by kernel_rfl
  have k1 : Tryd.prog.cellsOf 3 = 1 := by kernel_rfl
  have k2 : Tryd.prog.cellsOf 4 = 1 := by kernel_rfl
  have k3 : Tryd.prog.cellsOf 70 = 4 := by kernel_rfl
  have k4 : Tryd.prog.cellsOf 69 = 1 := by kernel_rfl
  rw [h7] at hl
  have hx4 : xs.length = 4 := hx
  match cs, hl, xs, hx4 with
  | [c0, c1, c2, c3, c4, c5, c6], _, [x0, x1, x2, x3], _ =>
    have g0 : DataW.trod enc Tryd.prog W 0 (fun _ => true) true m 3 (List.take (Tryd.prog.cellsOf 3) [c0, c1, c2, c3, c4, c5, c6]) = some x0 := hg 0 _ rfl
    have g1 : DataW.trod enc Tryd.prog W 0 (fun _ => true) true m 3 (List.take (Tryd.prog.cellsOf 3) [c1, c2, c3, c4, c5, c6]) = some x1 := hg 1 _ rfl
    have g2 : DataW.trod enc Tryd.prog W 0 (fun _ => true) true m 4 (List.take (Tryd.prog.cellsOf 4) [c2, c3, c4, c5, c6]) = some x2 := hg 2 _ rfl
    have g3 : DataW.trod enc Tryd.prog W 0 (fun _ => true) true m 70 (List.take (Tryd.prog.cellsOf 70) [c3, c4, c5, c6]) = some x3 := hg 3 _ rfl
    rw [k1] at g0 g1
    rw [k2] at g2
    rw [k3] at g3
    obtain ⟨n0, ⟨e0, o0⟩, -⟩ := opens_int Tryd.underlying3 _ _ _ _ g0
    obtain ⟨n1, ⟨e1, o1⟩, -⟩ := opens_int Tryd.underlying3 _ _ _ _ g1
    obtain ⟨b2, e2, -⟩ := opens_bool Tryd.underlying4 _ _ _ _ g2
    obtain ⟨s3, e3, -⟩ := opens_set Tryd.underlying70 Tryd.underlying69 k4 k3 _ _ _ _ g3
    cases e0; cases e1; cases e2; cases e3
    exact ⟨⟨n0, n1, b2, s3⟩, ⟨rfl, o0, o1⟩, by simp [Rows.uptoBulk]⟩
theorem open_net5 {base : Nat} {v : Value} {d : DataW H} {ps : List MemPlace} (hval : Value.okWide Tryd.prog W .any base 55 v) (h : DataW.Trod enc Tryd.prog W 0 (fun _ => true) true 55 v d ps) (hb : Rows.uptoBulk d ≤ 1048576) :
    ∃ a, NfV (InW W) W.heap v a ∧ a.edges.length ≤ Rows.uptoBulk d := by
  obtain ⟨fuel, h⟩ := h
  have hu := Tryd.underlying55
  obtain ⟨xs, m, rfl, hd, hl, hx, hg⟩ := DataW.trod_struct hu h
  cases hd
  have h4 : Tryd.prog.cellsOf 55 = 4 := by kernel_rfl
  simp only [Value.okWide, hu] at hval
  obtain ⟨cs, rfl, hsz, -⟩ := hval
  rw [h4] at hsz
  obtain ⟨l⟩ := cs
  match l, hsz with
  | [c0, c1, c2, c3], _ =>
    have k1 : Tryd.prog.cellsOf 3 = 1 := by kernel_rfl
    have k2 : Tryd.prog.cellsOf 53 = 1 := by kernel_rfl
    have k3 : Tryd.prog.cellsOf 72 = tEd.size := by kernel_rfl
    have hx4 : xs.length = 4 := hx
    match xs, hx4 with
    | [x0, x1, x2, x3], _ =>
      have g0 : DataW.trod enc Tryd.prog W 0 (fun _ => true) true m 3 (List.take (Tryd.prog.cellsOf 3) [c0, c1, c2, c3]) = some x0 := hg 0 _ rfl
      have g1 : DataW.trod enc Tryd.prog W 0 (fun _ => true) true m 3 (List.take (Tryd.prog.cellsOf 3) [c1, c2, c3]) = some x1 := hg 1 _ rfl
      have g2 : DataW.trod enc Tryd.prog W 0 (fun _ => true) true m 3 (List.take (Tryd.prog.cellsOf 3) [c2, c3]) = some x2 := hg 2 _ rfl
      have g3 : DataW.trod enc Tryd.prog W 0 (fun _ => true) true m 53 (List.take (Tryd.prog.cellsOf 53) [c3]) = some x3 := hg 3 _ rfl
      rw [k1] at g0 g1 g2
      rw [k2] at g3
      obtain ⟨n0, ⟨e0, o0⟩, -⟩ := opens_int Tryd.underlying3 _ _ _ _ g0
      obtain ⟨n1, ⟨e1, o1⟩, -⟩ := opens_int Tryd.underlying3 _ _ _ _ g1
      obtain ⟨n2, ⟨e2, o2⟩, -⟩ := opens_int Tryd.underlying3 _ _ _ _ g2
      obtain ⟨es, ⟨ea, ec, e3, he⟩, z3⟩ := opens_slice Tryd.underlying53 k3 (by decide) opens_way5 _ _ _ _ g3
      cases e0; cases e1; cases e2; cases e3
      have b1 := szL_len (sz := fun _ : EdM => 1) (fun _ => Nat.le_refl _) es
      simp only [List.map_cons, List.map_nil, Rows.uptoBulk, Rows.uptoBulkAll] at hb ⊢
      exact ⟨⟨n0, n1, n2, es⟩, ⟨⟨o0, o1, o2⟩, by simp only; omega, ea, ec, rfl, he⟩, by simp only; omega⟩
end
end Go.Proofs.YthomdogheamfpaaDoor
/- A block whose first cell is anything, and whose other cells hold slices of the call's own. -/
set_option linter.unusedVariables false
set_option linter.unusedSimpArgs false
namespace Go.VC
section
variable {α : Type} {T : Ty α} {B : Nat → Prop} {H0 H H1 : Heap} {ps : List Pc} {e te : TypeId} {b : Nat} {w0 : Value} {vs : List Value} {ss : Nat → Slot} {xs : List α} {v : Value} {j : Nat}
def pG (te : TypeId) (b : Nat) (w0 : Value) (vs : List Value) (ss : Nat → Slot) : Pc where
  foot k := k = b ∨ ∃ (i : Nat) (v : Value), vs[i]? = some v ∧ slB v k
  ok H := Blk H b te (w0 :: vs) ∧ (∀ (i : Nat) (v : Value), vs[i]? = some v → (ss i).ok H v) ∧ (∀ (i j : Nat) (v w : Value) (k : Nat), i ≠ j → vs[i]? = some v → vs[j]? = some w → slB v k → ¬ slB w k) ∧ ∀ (i : Nat) (v : Value), vs[i]? = some v → ¬ slB v b
  fr h hp := ⟨hp.1.agr h (.inl rfl), fun i v hv => (ss i).fr h (fun k hk => .inr ⟨i, v, hv, hk⟩) (hp.2.1 i v hv), hp.2.2⟩
theorem StB.gNew {n : Nat} (st : StB B H0 H ps) (i : Nat) (hp : ps[i]? = some (pB te b (w0 :: List.replicate n (.slice none 0 0)))) (hs : ∀ j H, (ss j).ok H (.slice none 0 0)) : StB B H0 H (ps.set i (pG te b w0 (List.replicate n (.slice none 0 0)) ss)) := by
  have hz : ∀ (j : Nat) (v : Value), (List.replicate n (Value.slice none 0 0))[j]? = some v → v = .slice none 0 0 := fun j v hv => by
    exact List.eq_of_mem_replicate (List.mem_of_getElem? hv)
  refine st.upd i hp (Agr.refl _ _) (pG te b w0 (List.replicate n (.slice none 0 0)) ss) ⟨st.blk i hp, fun j v hv => by rw [hz j v hv]; exact hs j H, fun i j v w k _ hv hw hk => ?_, fun j v hv hk => ?_⟩ (fun k hk => ?_) (fun k hk => ?_) (Nat.le_refl _)
  · rw [hz i v hv] at hk; exact absurd hk nil_slB
  · rw [hz j v hv] at hk; exact nil_slB hk
  · rcases hk with hk | ⟨j, v, hv, hk⟩
    · exact .inl hk
    · rw [hz j v hv] at hk; exact absurd hk nil_slB
  · rcases hk with hk | ⟨j, v, hv, hk⟩
    · exact (st.in_ i hp hk).2
    · rw [hz j v hv] at hk; exact absurd hk nil_slB
theorem StB.gblk (st : StB B H0 H ps) (i : Nat) (hp : ps[i]? = some (pG te b w0 vs ss)) : Blk H b te (w0 :: vs) := (st.at_ i hp).1
theorem StB.gview (st : StB B H0 H ps) (i : Nat) (hp : ps[i]? = some (pG te b w0 vs ss)) (hv : vs[j]? = some v) (hs : ss j = slot T e xs) : ∃ a cap, v = .slice a xs.length cap ∧ SlD T (Old H) H a cap xs := by
  have h := (st.at_ i hp).2.1 j v hv
  rw [hs] at h
  obtain ⟨a, cap, h1, h2, -⟩ := SlO.view (S' := Old H) (h : SlO T none_ H 0 e v xs) (fun k hk => (st.in_ i hp (.inr ⟨j, v, hv, hk⟩)).2) (fun _ f => f.elim)
  exact ⟨a, cap, h1, h2⟩
def pGm (te : TypeId) (b : Nat) (w0 : Value) (vs : List Value) (ss : Nat → Slot) (j : Nat) (s : Slot) (v' : Value) : Pc where
  foot k := k = b ∨ slB v' k ∨ ∃ (i : Nat) (v : Value), i ≠ j ∧ vs[i]? = some v ∧ slB v k
  ok H := Blk H b te (w0 :: vs) ∧ j < vs.length ∧ s.ok H v' ∧ (∀ (i : Nat) (v : Value), i ≠ j → vs[i]? = some v → (ss i).ok H v) ∧ (∀ (i l : Nat) (v w : Value) (k : Nat), i ≠ j → l ≠ j → i ≠ l → vs[i]? = some v → vs[l]? = some w → slB v k → ¬ slB w k) ∧
    (∀ (i : Nat) (v : Value) (k : Nat), i ≠ j → vs[i]? = some v → slB v k → ¬ slB v' k) ∧ (∀ (i : Nat) (v : Value), i ≠ j → vs[i]? = some v → ¬ slB v b) ∧ ¬ slB v' b
  fr h hp := ⟨hp.1.agr h (.inl rfl), hp.2.1, s.fr h (fun k hk => .inr (.inl hk)) hp.2.2.1, fun i v hi hv => (ss i).fr h (fun k hk => .inr (.inr ⟨i, v, hi, hv, hk⟩)) (hp.2.2.2.1 i v hi hv), hp.2.2.2.2⟩
theorem appGB {P : Program} {tt ty q o m cap2 by_ : Nat} {z : Value} {ys : List α} {ds : List Value} {K : Value → Heap → Prop} (st : StB B H0 H ps) (i : Nat) (ht : SlT P tt e T.size by_ z) (hp : ps[i]? = some (pG te b w0 vs ss)) (hv : vs[j]? = some v) (hs : ss j = slot T e xs)
    (hd : Cells H q o ds) (hy : T.reps none_ H ds ys) (hm : m = ys.length) (h1 : ∀ u ∈ ds, u.oneCell' = true) (h63 : xs.length + ys.length ≤ maxLen) (hby : (xs.length + ys.length) * by_ ≤ 140737488355328)
    (k : ∀ v' H', StB B H0 H' (ps.set i (pGm te b w0 vs ss j (slot T e (xs ++ ys)) v')) → Agr (fun k => k < H.size ∧ ¬ slB v k) H H' → v'.oneCell' = true → K v' H') :
    VEff P (Builtin.append_ #[tt, tt] ty [v, .slice (some ⟨q, o, none⟩) m cap2].toArray) H K := by
  obtain ⟨hblk, hall, hap, hb⟩ := st.at_ i hp
  have hown := hall j v hv
  rw [hs] at hown
  have hjl := (List.getElem?_eq_some_iff.1 hv).1
  have hbl : b < H.size := (st.in_ i hp (.inl rfl)).2
  have hlt : ∀ (l : Nat) (w : Value), vs[l]? = some w → ∀ k, slB w k → k < H.size := fun l w hw k hk => (st.in_ i hp (.inr ⟨l, w, hw, hk⟩)).2
  refine vappendO (T := T) (S := none_) (lo := 0) ht (hown : SlO T none_ H 0 e v xs) (Nat.zero_le _) (fun k hk => hk.elim) hd hy hm h1 h63 hby ?_
  intro v' H' hv' hagr hsz hfr
  refine k v' H' (st.upd i hp (hagr.mono fun k hk => ⟨hk.1, fun hb => hk.2 (.inr ⟨j, v, hv, hb⟩)⟩) (pGm te b w0 vs ss j (slot T e (xs ++ ys)) v') ⟨hblk.agr hagr ⟨hbl, hb j v hv⟩, hjl, hv', fun l w hl hw => (ss l).fr hagr (fun k hk => ⟨hlt l w hw k hk, hap l j w v k hl hw hv hk⟩) (hall l w hw), fun l l' w w' k _ _ hll => hap l l' w w' k hll, fun l w k hl hw hk hk' => ?_, fun l w _ hw => hb l w hw, fun hk => ?_⟩ (fun k hk => ?_) (fun k hk => ?_) hsz) hagr hv'.one
  · rcases hfr k hk' with h | h
    · exact hap l j w v k hl hw hv hk h
    · have := hlt l w hw k hk; omega
  · rcases hfr b hk with h | h
    · exact hb j v hv h
    · omega
  · rcases hk with hk | hk | ⟨l, w, -, hw, hk⟩
    · exact .inl (.inl hk)
    · rcases hfr k hk with h | h
      · exact .inl (.inr ⟨j, v, hv, h⟩)
      · exact .inr h
    · exact .inl (.inr ⟨l, w, hw, hk⟩)
  · rcases hk with hk | hk | ⟨l, w, hl, hw, hk⟩
    · have : k = b := hk; omega
    · exact (hv'.lt hk).2
    · have := hlt l w hw k hk; omega
theorem stGB {P : Program} {o : Nat} {s : Slot} {t : TypeId} {K : Heap → Prop} (st : StB B H0 H ps) (i : Nat) (ht : CellT P t) (hp : ps[i]? = some (pGm te b w0 vs ss j s v)) (ho : o = j + 1) (h1 : v.oneCell' = true)
    (k : ∀ H', StB B H0 H' (ps.set i (pG te b w0 (vs.set j v) (updS ss j s))) → K H') : VEffU P (Instr.storeAt t (.pointer (some ⟨b, o, none⟩)) v) H K := by
  subst ho
  obtain ⟨hblk, hjl, hv', hall, hap, hapv, hb, hvb⟩ := st.at_ i hp
  refine VC.st1 ht hblk (by simp only [List.length_cons]; omega) h1 ?_
  intro H' hb' ha' hs'
  rw [List.set_cons_succ] at hb'
  have e1 : ∀ (l : Nat) (w : Value), (vs.set j v)[l]? = some w → (l = j ∧ w = v) ∨ (l ≠ j ∧ vs[l]? = some w) := fun l w hw => by
    by_cases hl : l = j
    · subst hl
      rw [List.getElem?_set_self hjl] at hw
      cases hw; exact .inl ⟨rfl, rfl⟩
    · rw [List.getElem?_set_ne (Ne.symm hl)] at hw; exact .inr ⟨hl, hw⟩
  refine k H' (st.upd i hp (ha'.mono fun k hk hkb => hk.2 (.inl hkb)) (pG te b w0 (vs.set j v) (updS ss j s)) ⟨hb', fun l w hw => ?_, fun l l' w w' kk hll hw hw' hk hk' => ?_, fun l w hw => ?_⟩ (fun k hk => ?_) (fun k hk => ?_) (by omega))
  · rcases e1 l w hw with ⟨rfl, rfl⟩ | ⟨hl, hw⟩
    · rw [updS_self]; exact s.fr ha' (fun k hk hkb => hvb (hkb ▸ hk)) hv'
    · rw [updS_ne hl]; exact (ss l).fr ha' (fun k hk hkb => hb l w hl hw (hkb ▸ hk)) (hall l w hl hw)
  · rcases e1 l w hw with ⟨rfl, rfl⟩ | ⟨hl, hw1⟩ <;> rcases e1 l' w' hw' with ⟨rfl, rfl⟩ | ⟨hl', hw1'⟩
    · exact hll rfl
    · exact hapv l' w' kk hl' hw1' hk' hk
    · exact hapv l w kk hl hw1 hk hk'
    · exact hap l l' w w' kk hl hl' hll hw1 hw1' hk hk'
  · rcases e1 l w hw with ⟨rfl, rfl⟩ | ⟨hl, hw⟩
    · exact hvb
    · exact hb l w hl hw
  · refine .inl ?_
    rcases hk with hk | ⟨l, w, hw, hk⟩
    · exact .inl hk
    · rcases e1 l w hw with ⟨rfl, rfl⟩ | ⟨hl, hw⟩
      · exact .inr (.inl hk)
      · exact .inr (.inr ⟨l, w, hl, hw, hk⟩)
  · rw [hs']
    rcases hk with hk | ⟨l, w, hw, hk⟩
    · exact (st.in_ i hp (.inl hk)).2
    · rcases e1 l w hw with ⟨rfl, rfl⟩ | ⟨hl, hw⟩
      · exact (st.in_ i hp (.inr (.inl hk))).2
      · exact (st.in_ i hp (.inr (.inr ⟨l, w, hl, hw, hk⟩))).2
/-- The first cell is written. -/
theorem stG0 {P : Program} {t : TypeId} {u : Value} {K : Heap → Prop} (st : StB B H0 H ps) (i : Nat) (ht : CellT P t) (hp : ps[i]? = some (pG te b w0 vs ss)) (h1 : u.oneCell' = true)
    (k : ∀ H', StB B H0 H' (ps.set i (pG te b u vs ss)) → K H') : VEffU P (Instr.storeAt t (.pointer (some ⟨b, 0, none⟩)) u) H K := by
  obtain ⟨hblk, hall, hap, hb⟩ := st.at_ i hp
  refine VC.st1 ht hblk (by simp only [List.length_cons]; omega) h1 ?_
  intro H' hb' ha' hs'
  rw [List.set_cons_zero] at hb'
  exact k H' (st.upd i hp (ha'.mono fun k hk hkb => hk.2 (.inl hkb)) (pG te b u vs ss) ⟨hb', fun l w hw => (ss l).fr ha' (fun k hk hkb => hb l w hw (hkb ▸ hk)) (hall l w hw), hap, hb⟩ (fun k hk => .inl hk) (fun k hk => by rw [hs']; exact (st.in_ i hp hk).2) (by omega))
end
end Go.VC
/- Regions whose order is open, with operations under conditions. -/
set_option linter.unusedVariables false
set_option linter.unusedSimpArgs false
namespace Go.VC
/-- An operation's condition: what is asked where it is wanted, and where it isn't. -/
def whenK (all : List Oper) (o : Oper) (fr : Fr) (yes no : Fr → Prop) : Prop :=
  match o.guard with
  | none => yes fr
  | some (j, want) => match (all[j]?).bind (·.dst) with
    | none => False
    | some t => rdK fr t fun v => match v with
      | .bool b => VIte b
        (wrK fr t (.bool true) fun fr1 => match want with
          | true => yes fr1
          | false => no fr1)
        (wrK fr t (.bool false) fun fr1 => match want with
          | false => yes fr1
          | true => no fr1)
      | .tuple _ => no fr
      | _ => False
theorem whenK_sound {all : List Oper} {o : Oper} {fr : Fr} {a : Act} {yes no : Fr → Prop} (hat : At fr a) (h : whenK all o fr yes no) :
    (Region.wanted o (yielded all.toArray a.tmps) = true ∧ yes fr) ∨ (Region.wanted o (yielded all.toArray a.tmps) = false ∧ no fr) := by
  unfold whenK at h
  split at h
  · rename_i hg
    exact .inl ⟨by simp [Region.wanted, hg], h⟩
  · rename_i j want hg
    split at h
    · exact h.elim
    · rename_i t ht
      rw [rdK_eq] at h
      split at h
      · rename_i b hb
        have hy := yielded_at hat ht hb
        have hs : fr.set t (.bool b) = fr := rd_set_self hb (by simp [undef])
        cases b <;> cases want <;> simp only [VIte, wrK_eq, hs] at h
        · exact .inl ⟨by simp [Region.wanted, hg, hy], h⟩
        · exact .inr ⟨by simp [Region.wanted, hg, hy], h⟩
        · exact .inr ⟨by simp [Region.wanted, hg, hy], h⟩
        · exact .inl ⟨by simp [Region.wanted, hg, hy], h⟩
      · rename_i vs hb
        exact .inr ⟨by simp [Region.wanted, hg, yielded_no hat ht hb], h⟩
      · exact h.elim
def skipG (o : Oper) (H : Heap) (K : Fr → Heap → Prop) (fr : Fr) : Prop := putK o.dst fr undef fun fr' => apK K fr' H
def quietG (P : Program) (S : Nat → Prop) (o : Oper) (H : Heap) (K : Fr → Heap → Prop) (fr : Fr) : Prop :=
  match isDet o && convDet P o with
  | true => detK P S o fr H fun v => putK o.dst fr v fun fr' => apK K fr' H
  | false => False
def doG (P : Program) (S : Nat → Prop) (z : Bool) (H0 : Heap) (o : Oper) (H : Heap) (K : Fr → Heap → Prop) (fr : Fr) : Prop :=
  match z with
  | true => opK P false (fun _ => True) o fr H fun v H' => putK o.dst fr v fun fr' => apK K fr' H'
  | false => opK P false (fun _ => True) o fr H fun v H' => Agr S H0 H' ∧ putK o.dst fr v fun fr' => apK K fr' H'
def stepG (P : Program) (S : Nat → Prop) (Z : List Nat) (H0 : Heap) (all : List Oper) (i : Nat) (fr : Fr) (H : Heap) (next : Fr → Heap → Prop) : Prop :=
  match all[i]? with
  | none => False
  | some o => whenK all o fr (doG P S (Z.contains i) H0 o H next) (skipG o H next)
def heldG (P : Program) (S : Nat → Prop) (Z : List Nat) (H0 : Heap) (all : List Oper) (s : Sch) : Fr → Heap → (Fr → Heap → Prop) → Prop :=
  Sch.rec (motive := fun _ => Fr → Heap → (Fr → Heap → Prop) → Prop) (fun fr H K => K fr H)
    (fun i _ ih fr H K => match all[i]? with
      | none => False
      | some o => whenK all o fr (quietG P S o H fun fr' H' => ih fr' H' K) (skipG o H fun fr' H' => ih fr' H' K))
    (fun i _ ih fr H K => stepG P S Z H0 all i fr H fun fr' H' => ih fr' H' K)
    (fun i _ j _ ih ih' fr H K => (stepG P S Z H0 all i fr H fun fr' H' => ih fr' H' K) ∧ stepG P S Z H0 all j fr H fun fr' H' => ih' fr' H' K) s
theorem heldG_q (P : Program) (S : Nat → Prop) (Z : List Nat) (H0 : Heap) (all : List Oper) (i : Nat) (s : Sch) (fr : Fr) (H : Heap) (K : Fr → Heap → Prop) : heldG P S Z H0 all (.q i s) fr H K =
    (match all[i]? with
      | none => False
      | some o => whenK all o fr (quietG P S o H fun fr' H' => heldG P S Z H0 all s fr' H' K) (skipG o H fun fr' H' => heldG P S Z H0 all s fr' H' K)) := rfl
theorem stepG_sound {P : Program} {S : Nat → Prop} {Z : List Nat} {w0 : World} {all : List Oper} {Q : Exit → Act → World → Prop} {i : Nat} {fr : Fr} {a : Act} {w : World} {next : Fr → Heap → Prop} {N : Act → World → Prop}
    (hat : At fr a) (hc : Env w0 w) (hcl : Z.contains i = false → Cls w0 S w) (h : stepG P S Z w0.heap all i fr w.heap next)
    (hn : ∀ fr' a' w', At fr' a' → Env w0 w' → (Z.contains i = false → Cls w0 S w') → next fr' w'.heap → N a' w') : wpOp P all.toArray Q i N a w := by
  unfold stepG at h
  split at h
  · exact h.elim
  · rename_i o ho
    have ho' : all.toArray[i]? = some o := by simpa using ho
    rcases whenK_sound hat h with ⟨hwant, h⟩ | ⟨hwant, h⟩
    · unfold wpOp
      rw [ho']
      dsimp only
      rw [if_pos hwant]
      unfold doG at h
      split at h
      · rename_i hz
        refine .inl (Oper.wp_mono ?_ (opK_sound hat h _))
        rintro a' w' ⟨v, rfl, henv, hk⟩
        rw [putK_eq] at hk
        exact hn _ _ _ (hat.put o.dst v) (hc.trans henv) (fun hne => by rw [hz] at hne; cases hne) hk
      · refine .inl (Oper.wp_mono ?_ (opK_sound hat h _))
        rintro a' w' ⟨v, rfl, henv, hagr, hk⟩
        rw [putK_eq] at hk
        exact hn _ _ _ (hat.put o.dst v) (hc.trans henv) (fun _ => ⟨hc.trans henv, hagr⟩) hk
    · unfold wpOp
      rw [ho']
      dsimp only
      rw [if_neg (by rw [hwant]; exact Bool.false_ne_true)]
      unfold skipG at h
      rw [putK_eq] at h
      exact hn _ _ _ (hat.put o.dst undef) hc hcl h
theorem heldG_sound {P : Program} {S : Nat → Prop} {Z : List Nat} {w0 : World} {all : List Oper} {Q : Exit → Act → World → Prop} (hs : Region.noSelect all.toArray = true)
    (hp : ∀ c a w, ¬ Q (.panic c) a w) : ∀ (l : Sch) (listed : Array Bool) (fr : Fr) (a : Act) (w : World) (K : Fr → Heap → Prop), At fr a → Env w0 w → (zAll Z l = false → Cls w0 S w) → Shut all.toArray listed →
    (∀ fr' a' w', At fr' a' → Env w0 w' → K fr' w'.heap → Q .normal a' w') → heldBZ all.toArray Z l listed = true → l.even = true →
    heldG P S Z w0.heap all l fr w.heap K → wpAnyZ P all.toArray Q (Cls w0 S) Z l.len listed a w
  | .e, listed, fr, a, w, K, hat, he, _, _, hq, hB, _, h => ⟨by simpa [heldBZ] using hB, hq fr a w hat he h⟩
  | .q i s, listed, fr, a, w, K, hat, he, hc, hsh, hq, hB, hev, h => by
    have hc := hc rfl
    simp only [heldBZ, Bool.and_eq_true, Bool.not_eq_true', List.all_eq_true] at hB
    obtain ⟨⟨⟨⟨b1, b2⟩, b3⟩, b4⟩, hB2⟩ := hB
    rw [heldG_q] at h
    split at h
    · exact h.elim
    · rename_i o ho
      have ho' : all.toArray[i]? = some o := by simpa using ho
      have hri : i ∈ Region.ready .any all.toArray listed := by simpa using b1
      rcases whenK_sound hat h with ⟨hwant, h⟩ | ⟨hwant, h⟩
      · unfold quietG at h
        split at h
        · obtain ⟨v, hv, hk⟩ := detK_sound h
          rw [putK_eq] at hk
          refine wpAnyZ_first (v := v) (f := all.toArray.size) ho' (Region.noSelect_spec hs) (fun c a' w' hh => (hp _ _ _ hh).elim) b3 (fun j hj => b4 j (by simpa using hj)) s.len listed a w hsh (Region.free_spec ho' b2) hri
            (.inl ⟨hwant, fun w' hw' => ?_⟩) hc ?_
          · rw [hat.evalF]
            exact hv w' fun k hk => (hw'.2 k hk).trans (hc.2 k hk).symm
          · exact heldG_sound hs hp s _ _ _ w K (hat.put o.dst v) he (fun _ => hc) (hsh.put hri) hq hB2 hev hk
        · exact h.elim
      · unfold skipG at h
        rw [putK_eq] at h
        exact wpAnyZ_first (v := undef) (f := all.toArray.size) ho' (Region.noSelect_spec hs) (fun c a' w' hh => (hp _ _ _ hh).elim) b3 (fun j hj => b4 j (by simpa using hj)) s.len listed a w hsh (Region.free_spec ho' b2) hri
          (.inr ⟨hwant, rfl⟩) hc (heldG_sound hs hp s _ _ _ w K (hat.put o.dst undef) he (fun _ => hc) (hsh.put hri) hq hB2 hev h)
  | .f i s, listed, fr, a, w, K, hat, he, hc, hsh, hq, hB, hev, h => by
    simp only [heldBZ, Bool.and_eq_true, Bool.or_eq_true, Bool.not_eq_true', beq_iff_eq] at hB
    obtain ⟨⟨b1, b2⟩, hB2⟩ := hB
    refine ⟨(fun h0 => by rw [b1] at h0; cases h0), fun j hj => ?_⟩
    have hj0 := hj
    rw [b1] at hj
    obtain rfl : j = i := by simpa using hj
    refine stepG_sound hat he (fun hz => hc (by simp only [zAll, hz, Bool.false_and])) h fun fr' a' w' h1 h2 h3 h4 => ⟨h3, heldG_sound hs hp s _ _ _ w' K h1 h2 (fun hz => ?_) (hsh.put hj0) hq hB2 hev h4⟩
    rcases b2 with b2 | b2
    · exact h3 b2
    · rw [b2] at hz; cases hz
  | .b i s j s', listed, fr, a, w, K, hat, he, hc, hsh, hq, hB, hev, h => by
    simp only [heldBZ, Bool.and_eq_true, Bool.or_eq_true, Bool.not_eq_true', beq_iff_eq] at hB
    obtain ⟨⟨⟨b1, b2⟩, hB2⟩, hB3⟩ := hB
    simp only [Sch.even, Bool.and_eq_true, beq_iff_eq] at hev
    obtain ⟨⟨e1, e2⟩, e3⟩ := hev
    refine ⟨(fun h0 => by rw [b1] at h0; cases h0), fun k hk => ?_⟩
    have hk0 := hk
    rw [b1] at hk
    rcases List.mem_cons.1 hk with rfl | hk
    · refine stepG_sound hat he (fun hz => hc (by simp only [zAll, hz, Bool.false_and])) h.1 fun fr' a' w' h1 h2 h3 h4 => ⟨h3, heldG_sound hs hp s _ _ _ w' K h1 h2 (fun hz => ?_) (hsh.put hk0) hq hB2 e1 h4⟩
      rcases b2 with b2 | b2
      · exact h3 b2.1
      · rw [b2.1] at hz; cases hz
    · obtain rfl : k = j := by simpa using hk
      rw [e3]
      refine stepG_sound hat he (fun hz => hc (by simp only [zAll, hz, Bool.and_false, Bool.false_and])) h.2 fun fr' a' w' h1 h2 h3 h4 => ⟨h3, heldG_sound hs hp s' _ _ _ w' K h1 h2 (fun hz => ?_) (hsh.put hk0) hq hB3 e2 h4⟩
      rcases b2 with b2 | b2
      · exact h3 b2.2
      · rw [b2.2] at hz; cases hz
theorem VDraw.heldG {P : Program} {l : List Oper} {fr : Fr} {H : Heap} {K : Fr → Heap → Prop} (S : Nat → Prop) (Z : List Nat) (sched : Sch) (hm : P.follows .mixedOrders = true)
    (hB : (Region.noSelect l.toArray && (sched.len == l.length) && sched.even && heldBZ l.toArray Z sched (Array.replicate l.length false)) = true)
    (h : VC.heldG P S Z H l sched fr H K) : VDraw P l fr H K := by
  refine ⟨?_⟩
  intro id Q a w hat hw hp hq
  subst hw
  simp only [Bool.and_eq_true, beq_iff_eq] at hB
  refine wp_region_any hm (wpAny_of_Z (S := Cls w S) (Z := Z) _ _ _ _ ?_)
  have hsh : Shut l.toArray (Array.replicate l.length false) := fun j o _ hj => by
    rw [Array.getD_eq_getD_getElem?, Array.getElem?_replicate] at hj
    split at hj <;> simp at hj
  have := heldG_sound (P := P) (S := S) (Z := Z) (w0 := w) (Q := Q) hB.1.1.1 hp sched (Array.replicate l.length false) fr a { w with drawn := w.drawn + 1 } K hat ⟨rfl, rfl, rfl⟩ (fun _ => ⟨⟨rfl, rfl, rfl⟩, Agr.refl _ _⟩) hsh hq hB.2 hB.1.2 h
  rw [hB.1.1.2] at this
  simpa using this
end Go.VC
/- The library's slices.Sort at []int, by the kit's shelf (laid by its tool); as an operation on own slices. -/
set_option linter.unusedVariables false
set_option linter.unusedSimpArgs false
set_option maxRecDepth 100000
namespace Go.VC
open Go.Sort
/-- A function that sorts ints. -/
structure SortsI (P : Program) (f : FuncId) : Prop where
  call : ∀ (args : Array Value) (w : World), (callFunc f args).run P w = .ok (.enter f args) w
  some_ : ∀ (blk off cap : Nat) (zs : List Int) (w : World), Holds (Value.int .i64) w blk off zs.toArray → blk < w.heap.size → zs.length < 4611686018427387904 →
    Calls P f #[.slice (some ⟨blk, off, none⟩) zs.length cap] w fun e w' => e = .returned (.tuple #[]) ∧ ∃ n os, w' = grow (putRow (Value.int .i64) (Sort.ahead w n) blk off (zs.mergeSort fun x y => decide (x ≤ y)).toArray) os
  none_ : ∀ (p : Option Addr) (cap : Nat) (w : World), Calls P f #[.slice p 0 cap] w fun e w' => e = .returned (.tuple #[]) ∧ w' = w
theorem reps_ints {S : Nat → Prop} {H : Heap} : ∀ {xs : List Int} {cs : List Value}, (tInt .i64).reps S H cs xs → cs = xs.map (Value.int .i64) ∧ ∀ x ∈ xs, inK .i64 x
  | [], _, h => by cases h; exact ⟨rfl, fun x hx => by cases hx⟩
  | x :: xs, _, h => by
    obtain ⟨c, r, rfl, ⟨rfl, h1⟩, h2⟩ := h
    obtain ⟨rfl, h3⟩ := reps_ints h2
    refine ⟨rfl, fun y hy => ?_⟩
    rcases List.mem_cons.1 hy with rfl | hy
    · exact h1
    · exact h3 y hy
theorem ints_reps {S : Nat → Prop} {H : Heap} : ∀ {xs : List Int}, (∀ x ∈ xs, inK .i64 x) → (tInt .i64).reps S H (xs.map (Value.int .i64)) xs
  | [], _ => rfl
  | x :: xs, h => ⟨[.int .i64 x], xs.map (Value.int .i64), rfl, ⟨rfl, h x (by simp)⟩, ints_reps fun y hy => h y (by simp [hy])⟩
theorem sortI {P : Program} {f : FuncId} {B : Nat → Prop} {H0 H : Heap} {ps : List Pc} {e : TypeId} {a : Option Addr} {n cap : Nat} {xs : List Int} {K : Value → Heap → Prop} (hf : SortsI P f) (st : StB B H0 H ps) (i : Nat) (hp : ps[i]? = some (pS (tInt .i64) e a n cap xs)) (hlen : xs.length < 4611686018427387904)
    (k : ∀ H', StB B H0 H' (ps.set i (pS (tInt .i64) e a n cap (xs.mergeSort fun x y => decide (x ≤ y)))) → K (.tuple #[]) H') : VCall P f #[.slice a n cap] H K := by
  obtain ⟨hown, -⟩ := st.at_ i hp
  obtain ⟨cs, ⟨hcl, hcase⟩, hreps⟩ := hown
  obtain ⟨rfl, hrng⟩ := reps_ints hreps
  refine ⟨fun w hw => ⟨hf.call _ w, ?_⟩⟩
  subst hw
  rcases hcase with ⟨he, hn0⟩ | ⟨b, c, l, he, -, hb, hnc, hcm, hll, htk⟩
  · injection he with e1 e2 e3
    subst e1; subst e2; subst e3
    obtain rfl := List.eq_nil_of_length_eq_zero hn0
    refine (hf.none_ none 0 w).mono ?_
    rintro _ _ ⟨rfl, rfl⟩
    exact ⟨_, rfl, Env.refl _, k _ (by rw [show ([] : List Int).mergeSort (fun x y => decide (x ≤ y)) = [] by simp]; exact st.say i hp _ (st.at_ i hp) (fun k hk => hk))⟩
  · injection he with e1 e2 e3
    subst e1; subst e2; subst e3
    rw [show xs.length * (tInt .i64).size = xs.length from Nat.mul_one _] at htk
    rw [show cap * (tInt .i64).size = cap from Nat.mul_one _] at hll
    have hbl := (Array.getElem?_eq_some_iff.1 hb).1
    have hsl : (xs.mergeSort fun x y => decide (x ≤ y)).length = xs.length := List.length_mergeSort _
    have hH : Holds (Value.int .i64) w b 0 xs.toArray := holds_of_blockI (e := e) (cur := l.toArray) hb (by simpa using htk)
    refine (hf.some_ b 0 cap xs w hH hbl hlen).mono ?_
    rintro _ w' ⟨rfl, n, os, rfl⟩
    have hbw := heap_sortedI (n := n) (os := os) (xs.mergeSort fun x y => decide (x ≤ y)).toArray hb
    obtain ⟨-, -, -, hsz, hoth⟩ := grownBy_sortedI (w := w) (g := b) (n := n) (os := os) (xs.mergeSort fun x y => decide (x ≤ y)).toArray
    refine ⟨_, rfl, ⟨rfl, rfl, rfl⟩, k _ (st.upd i hp (fun j hj => hoth j hj.1 fun e => ?_) _ ⟨⟨_, ⟨?_, .inr ⟨b, cap, (putCells (Value.int .i64) 0 (xs.mergeSort fun x y => decide (x ≤ y)).toArray l.toArray).toList, ?_, Nat.zero_le _, ?_, by omega, hcm, ?_, ?_⟩⟩, ints_reps fun x hx => hrng x (List.mem_mergeSort.1 hx)⟩, fun k hk => hk.elim⟩ (fun k hk => .inl hk) (fun k hk => ?_) hsz)⟩
    · cases e
      exact hj.2 (.inl ⟨0, _, _, rfl⟩)
    · rw [List.length_map]; exact (Nat.mul_one _).symm
    · rw [hsl]
    · show _ = _
      rw [hbw]
    · rw [Array.length_toList]
      unfold putCells
      rw [Array.size_mapIdx]
      simp only [List.size_toArray, hll]
      exact (Nat.mul_one _).symm
    · rw [show (xs.mergeSort fun x y => decide (x ≤ y)).length * (tInt .i64).size = (xs.mergeSort fun x y => decide (x ≤ y)).length from Nat.mul_one _]
      exact take_putCellsI l.toArray _ (by rw [hsl]; simpa [hll] using hnc)
    · have h1 := (st.in_ i hp hk).2
      exact Nat.lt_of_lt_of_le h1 hsz
end Go.VC
namespace Go.Proofs.YthomdogheamfpaaDoor
open Go.VC
def sort_ren : Go.Shelf.Ren := ⟨fun | 189 => 106 | 125 => 125 | 257 => 124 | 128 => 142 | 129 => 143 | 294 => 134 | 295 => 135 | 296 => 136 | 297 => 137 | 298 => 138 | 299 => 139 | 216 => 114 | 300 => 140 | 301 => 141 | 328 => 149 | 329 => 150 | 330 => 151 | 331 => 152 | 332 => 153 | 215 => 127 | 343 => 156 | n => n, fun | 28 => 33 | 3 => 3 | 46 => 188 | 0 => 0 | 51 => 222 | 53 => 69 | 4 => 4 | 183 => 216 | 182 => 215 | 131 => 89 | 5 => 5 | 9 => 9 | 218 => 227 | 222 => 231 | 228 => 233 | 229 => 234 | n => n, fun | n => n⟩
theorem lays189 : Go.Proofs.Lays.n189 Tryd.prog sort_ren := {
  mixed := by kernel_rfl
  f125 := Tryd.func125.trans (congrArg some (by kernel_rfl))
  f128 := Tryd.func142.trans (congrArg some (by kernel_rfl))
  f129 := Tryd.func143.trans (congrArg some (by kernel_rfl))
  f189 := Tryd.func106.trans (congrArg some (by kernel_rfl))
  f215 := Tryd.func127.trans (congrArg some (by kernel_rfl))
  f216 := Tryd.func114.trans (congrArg some (by kernel_rfl))
  f257 := Tryd.func124.trans (congrArg some (by kernel_rfl))
  f294 := Tryd.func134.trans (congrArg some (by kernel_rfl))
  f295 := Tryd.func135.trans (congrArg some (by kernel_rfl))
  f296 := Tryd.func136.trans (congrArg some (by kernel_rfl))
  f297 := Tryd.func137.trans (congrArg some (by kernel_rfl))
  f298 := Tryd.func138.trans (congrArg some (by kernel_rfl))
  f299 := Tryd.func139.trans (congrArg some (by kernel_rfl))
  f300 := Tryd.func140.trans (congrArg some (by kernel_rfl))
  f301 := Tryd.func141.trans (congrArg some (by kernel_rfl))
  f328 := Tryd.func149.trans (congrArg some (by kernel_rfl))
  f329 := Tryd.func150.trans (congrArg some (by kernel_rfl))
  f330 := Tryd.func151.trans (congrArg some (by kernel_rfl))
  f331 := Tryd.func152.trans (congrArg some (by kernel_rfl))
  f332 := Tryd.func153.trans (congrArg some (by kernel_rfl))
  f343 := Tryd.func156.trans (congrArg some (by kernel_rfl))
  t0 := Tryd.underlying0
  a0 := Tryd.isAgg0
  z0 := Tryd.sizeOf0
  v0 := Tryd.zeroValue0
  t3 := Tryd.underlying3
  a3 := Tryd.isAgg3
  z3 := Tryd.sizeOf3
  v3 := Tryd.zeroValue3
  t4 := Tryd.underlying4
  a4 := Tryd.isAgg4
  z4 := Tryd.sizeOf4
  v4 := Tryd.zeroValue4
  t5 := Tryd.underlying5
  a5 := Tryd.isAgg5
  z5 := Tryd.sizeOf5
  v5 := Tryd.zeroValue5
  t9 := Tryd.underlying9
  a9 := Tryd.isAgg9
  z9 := Tryd.sizeOf9
  v9 := Tryd.zeroValue9
  t28 := Tryd.underlying33
  a28 := Tryd.isAgg33
  z28 := Tryd.sizeOf33
  v28 := Tryd.zeroValue33
  t46 := Tryd.underlying188
  a46 := Tryd.isAgg188
  z46 := Tryd.sizeOf188
  v46 := Tryd.zeroValue188
  t51 := Tryd.underlying222
  a51 := Tryd.isAgg222
  z51 := Tryd.sizeOf222
  v51 := Tryd.zeroValue222
  t53 := Tryd.underlying69
  a53 := Tryd.isAgg69
  z53 := Tryd.sizeOf69
  v53 := Tryd.zeroValue69
  t131 := Tryd.underlying89
  a131 := Tryd.isAgg89
  z131 := Tryd.sizeOf89
  v131 := Tryd.zeroValue89
  t182 := Tryd.underlying215
  a182 := Tryd.isAgg215
  z182 := Tryd.sizeOf215
  v182 := Tryd.zeroValue215
  t183 := Tryd.underlying216
  a183 := Tryd.isAgg216
  z183 := Tryd.sizeOf216
  v183 := Tryd.zeroValue216
  t218 := Tryd.underlying227
  a218 := Tryd.isAgg227
  z218 := Tryd.sizeOf227
  v218 := Tryd.zeroValue227
  t222 := Tryd.underlying231
  a222 := Tryd.isAgg231
  z222 := Tryd.sizeOf231
  v222 := Tryd.zeroValue231
  t228 := Tryd.underlying233
  a228 := Tryd.isAgg233
  z228 := Tryd.sizeOf233
  v228 := Tryd.zeroValue233
  t229 := Tryd.underlying234
  a229 := Tryd.isAgg234
  z229 := Tryd.sizeOf234
  v229 := Tryd.zeroValue234 }
theorem sorts_ : SortsI Tryd.prog 106 where
  call := Tryd.call106
  some_ := fun blk off cap zs w hH hblk hsz => Any.slices_Sort_int lays189 blk off cap zs w hH hblk hsz
  none_ := fun p cap w => Any.slices_Sort_int_none lays189 p cap w
end Go.Proofs.YthomdogheamfpaaDoor
/- A range over a function: its rounds, and the code around it (the calculus once more, within a fence that holds everything). -/
set_option linter.unusedVariables false
set_option linter.unusedSimpArgs false
namespace Go.VC
/-- The fence that holds everything; ro: the round that the frame is of. -/
def FW (ro : Option Nat) : Fence := { Fence.wide with round := ro }
theorem roomW (ro : Option Nat) (n : Nat) : (FW ro).room n := fun _ h => by cases h
theorem callsW {ro : Option Nat} {n : Nat} {P : Program} {f : FuncId} {args : Array Value} {w : World} {R : Ending → World → Prop} (h : Calls P f args w R) : CallsIn (FW ro) n P f args w R :=
  ⟨trivial, fun cs _ => (callsIn_wide (n := n).2 h).2 cs (room_wide _)⟩
theorem rowsW {ro : Option Nat} {n : Nat} {P : Program} {row : String} {args : Array Value} {w : World} {R : Value → World → Prop} (h : Rows P row args w R) : RowsIn (FW ro) n P row args w R :=
  fun c cs _ => let ⟨v, w', r, s⟩ := h c cs; ⟨v, w', r, stepsIn_wide.2 s⟩
theorem roundW {ro ro' : Option Nat} {n n' : Nat} {P : Program} {l : Nat} {f : FuncId} {tmps : Array Value} {assign body : Code} {w : World} {R : Ending → World → Prop} (h : RoundIn (FW ro) n P l f tmps assign body w R) : RoundIn (FW ro') n' P l f tmps assign body w R :=
  ⟨trivial, fun c cs _ => h.2 c cs (roomW ro _)⟩
/-- The marks that loops over functions have left. -/
def marks (ds : List Nat) : List Deferred := ds.map fun D => { target := .collected D, args := #[] }
structure AtD (ds : List Nat) (fr : Fr) (a : Act) : Prop where
  tmps : a.tmps.toList = fr
  defers : a.defers = marks ds
theorem AtD.bare {ds : List Nat} {fr : Fr} {a : Act} (h : AtD ds fr a) : At fr { tmps := a.tmps, defers := [] } := ⟨h.tmps, rfl⟩
theorem AtD.evalF {ds : List Nat} {fr : Fr} {a : Act} (h : AtD ds fr a) : a.eval = evF fr := by
  rw [← h.bare.evalF]
  funext x
  cases x <;> rfl
theorem AtD.put {ds : List Nat} {fr : Fr} {a : Act} (h : AtD ds fr a) (dst : Option Tmp) (v : Value) : AtD ds (match dst with | none => fr | some d => fr.set d v) (a.put dst v) := by
  obtain ⟨rfl, h2⟩ := h
  cases dst with
  | none => exact ⟨rfl, h2⟩
  | some d => exact ⟨by simp [Act.put], h2⟩
theorem put_same {a : Act} {dst : Option Tmp} {v v' : Value} (h : ({ tmps := a.tmps, defers := [] } : Act).put dst v = ({ tmps := a.tmps, defers := [] } : Act).put dst v') : a.put dst v = a.put dst v' := by
  cases dst with
  | none => rfl
  | some d =>
    have := congrArg Act.tmps h
    simp only [Act.put] at this ⊢
    rw [this]
theorem op_in {ro : Option Nat} {n : Nat} {P : Program} {o : Oper} {a : Act} {w : World} {K : Value → Heap → Prop} (h : OpOk P o { tmps := a.tmps, defers := [] } w K) (hd : ∀ c, o.op ≠ .defer c) (Q : Exit → Act → World → Prop) :
    o.wpIn (FW ro) n P a w (fun a' w' => ∃ v, a' = a.put o.dst v ∧ Env w w' ∧ K v w'.heap) Q := by
  refine ⟨fun _ _ => trivial, ?_⟩
  rw [Oper.semAt_eq _ _ _ hd]
  have h1 := h (fun e _ w => Q e a w)
  unfold Oper.wp at h1
  have ev : ({ tmps := a.tmps, defers := [] } : Act).eval = a.eval := by funext x; cases x <;> rfl
  rw [ev] at h1
  revert h1
  generalize (execOp a.eval o).run P w = r
  intro h1
  cases r with
  | ok nx w' =>
    cases nx with
    | value v =>
      obtain ⟨v', e, h2, h3⟩ := h1
      exact ⟨v', put_same e, h2, h3⟩
    | skip =>
      obtain ⟨v', e, h2, h3⟩ := h1
      exact ⟨v', put_same e, h2, h3⟩
    | defer d =>
      obtain ⟨v', e, h2, h3⟩ := h1
      have := congrArg Act.defers e
      cases hdst : o.dst <;> rw [hdst] at this <;> simp [Act.put] at this
    | enter f args =>
      refine ⟨(fun h => by cases h), callsW (Calls.mono h1 ?_)⟩
      intro e w'' h2
      cases e with
      | returned v =>
        obtain ⟨v', e, h3, h4⟩ := h2
        exact ⟨v', put_same e, h3, h4⟩
      | panicked c => exact h2
      | outgrown => obtain ⟨_, w, h3⟩ := h2; exact ⟨a, w, h3⟩
    | row row args =>
      refine ⟨(fun h => by cases h), rowsW (Rows.mono h1 ?_)⟩
      intro v w'' h2
      obtain ⟨v', e, h3, h4⟩ := h2
      exact ⟨v', put_same e, h3, h4⟩
    | _ => exact h1.elim
  | halt s w' =>
    cases s <;> first | exact h1 | exact h1.elim
theorem oper_mono {F : Fence} {n : Nat} {P : Program} {o : Oper} {a : Act} {w : World} {N N' : Act → World → Prop} {Q : Exit → Act → World → Prop} (hn : ∀ a w, N a w → N' a w) (h : o.wpIn F n P a w N Q) : o.wpIn F n P a w N' Q := by
  refine ⟨h.1, ?_⟩
  have h1 := h.2
  revert h1
  generalize (o.semAt F.round a.eval).run P w = r
  intro h1
  cases r with
  | ok nx w' =>
    cases nx with
    | value v => exact hn _ _ h1
    | skip => exact hn _ _ h1
    | defer d => exact hn _ _ h1
    | enter f args =>
      refine ⟨h1.1, h1.2.1, fun cs hr => ?_⟩
      obtain ⟨e, w'', fr, h2, h3⟩ := h1.2.2 cs hr
      refine ⟨e, w'', fr, ?_, h3⟩
      cases e with
      | returned v => exact hn _ _ h2
      | panicked c => exact h2
      | outgrown => exact h2
    | row row args => exact ⟨h1.1, h1.2.mono fun v w'' h2 => hn _ _ h2⟩
    | round l f tmps assign body =>
      refine ⟨h1.1, h1.2.mono fun e w'' h2 => ?_⟩
      cases e with
      | returned v => exact hn _ _ h2
      | panicked c => exact h2
      | outgrown => exact h2
    | _ => exact h1.elim
  | halt s w' =>
    cases s <;> first | exact h1 | exact h1.elim
/-! ### yield -/
/-- A call of yield. -/
structure VRound (P : Program) (l : Nat) (args : Array Value) (H : Heap) (K : Value → Heap → Prop) : Prop where
  in_ ::
  out_ : ∀ w : World, w.heap = H → ∃ f tmps assign body, (Instr.yield l args).run P w = .ok (.round l f tmps assign body) w ∧ RoundIn (FW none) 0 P l f tmps assign body w fun e w' => ∃ v, e = .returned v ∧ Env w w' ∧ K v w'.heap
/-- One operation; a call of yield is taken in, a deferred call is not. -/
def yK (P : Program) (o : Oper) (fr : Fr) (H : Heap) (K : Value → Heap → Prop) : Prop :=
  match o.op with
  | .call { callee := .value f, args, .. } => evK fr f fun g => match g with
    | .func (.yield l) first cap => evsK fr args.toList fun vs => VRound P l (first.toList ++ vs).toArray H K
    | _ => opK P false (fun _ => True) o fr H K
  | .defer _ => False
  | _ => opK P false (fun _ => True) o fr H K
theorem VRound.out {P : Program} {l : Nat} {args : Array Value} {H : Heap} {K : Value → Heap → Prop} (h : VRound P l args H K) :
    ∀ w : World, w.heap = H → ∃ f tmps assign body, (Instr.yield l args).run P w = .ok (.round l f tmps assign body) w ∧ RoundIn (FW none) 0 P l f tmps assign body w fun e w' => ∃ v, e = .returned v ∧ Env w w' ∧ K v w'.heap := by exact h.out_
theorem yK_sound {ro : Option Nat} {n : Nat} {P : Program} {o : Oper} {ds : List Nat} {fr : Fr} {a : Act} {w : World} {K : Value → Heap → Prop} (hat : AtD ds fr a) (h : yK P o fr w.heap K) (Q : Exit → Act → World → Prop) :
    o.wpIn (FW ro) n P a w (fun a' w' => ∃ v, a' = a.put o.dst v ∧ Env w w' ∧ K v w'.heap) Q := by
  unfold yK at h
  split at h
  · rename_i f args argTypes ho
    rw [evK_eq] at h
    split at h
    · rename_i l first cap hg
      rw [evsK_eq, ← Array.toList_map] at h
      refine ⟨fun _ _ => trivial, ?_⟩
      rw [Oper.semAt_eq _ _ _ (fun c e => by rw [ho] at e; cases e)]
      obtain ⟨fn, tmps, assign, body, hy, hrnd⟩ := h.out w rfl
      have e : (first.toList ++ (Array.map (evF fr) args).toList).toArray = first ++ Array.map (evF fr) args := Array.ext' (by simp)
      have h3 : (execOp a.eval o).run P w = .ok (.round l fn tmps assign body) w := by
        rw [hat.evalF, ← hy, e]
        simp only [execOp, ho, resolve, hg, Deferred.ofValue]
        simp [invoke, callFunc]
      rw [h3]
      refine ⟨(fun h => by cases h), (roundW hrnd).mono ?_⟩
      rintro e w' ⟨v, rfl, henv, hk⟩
      exact ⟨v, rfl, henv, hk⟩
    · exact op_in (opK_sound hat.bare h) (fun c e => by rw [ho] at e; cases e) Q
  · exact h.elim
  · rename_i h1 h2
    exact op_in (opK_sound hat.bare h) (fun c e => h2 c e) Q
/-- An operation under a condition. -/
def guardYK (P : Program) (o : Oper) (want : Bool) (t : Nat) (fr : Fr) (H : Heap) (K : Fr → Heap → Prop) : Prop :=
  rdK fr t fun v => match v with
    | .bool b => VIte b
      (wrK fr t (.bool true) fun fr1 => match want with
        | true => yK P o fr1 H fun v H' => putK o.dst fr1 v fun fr' => apK K fr' H'
        | false => putK o.dst fr1 undef fun fr' => apK K fr' H)
      (wrK fr t (.bool false) fun fr1 => match want with
        | false => yK P o fr1 H fun v H' => putK o.dst fr1 v fun fr' => apK K fr' H'
        | true => putK o.dst fr1 undef fun fr' => apK K fr' H)
    | .tuple _ => putK o.dst fr undef fun fr' => apK K fr' H
    | _ => False
/-- Operations in the text's order. -/
def opsYK (P : Program) (all : List Oper) (l : List Oper) : Fr → Heap → (Fr → Heap → Prop) → Prop :=
  List.rec (motive := fun _ => Fr → Heap → (Fr → Heap → Prop) → Prop) (fun fr H K => K fr H) (fun o _ ih fr H K =>
    match o.guard with
    | none => yK P o fr H fun v H' => putK o.dst fr v fun fr' => ih fr' H' K
    | some (j, want) => match (all[j]?).bind (·.dst) with
      | none => False
      | some t => guardYK P o want t fr H fun fr' H' => ih fr' H' K) l
theorem opsYK_cons (P : Program) (all rest : List Oper) (o : Oper) (fr : Fr) (H : Heap) (K : Fr → Heap → Prop) : opsYK P all (o :: rest) fr H K =
    (match o.guard with
    | none => yK P o fr H fun v H' => putK o.dst fr v fun fr' => opsYK P all rest fr' H' K
    | some (j, want) => match (all[j]?).bind (·.dst) with
      | none => False
      | some t => guardYK P o want t fr H fun fr' H' => opsYK P all rest fr' H' K) := rfl
theorem opsYK_sound {ro : Option Nat} {n : Nat} {P : Program} {ds : List Nat} {all : List Oper} {Q : Exit → Act → World → Prop} : ∀ (l : List Oper) (fr : Fr) (a : Act) (w : World) (K : Fr → Heap → Prop), AtD ds fr a →
    (∀ fr' a' w', AtD ds fr' a' → Env w w' → K fr' w'.heap → Q .normal a' w') → opsYK P all l fr w.heap K → wpListIn (FW ro) n P all.toArray Q l a w
  | [], fr, a, w, K, hat, hq, h => hq fr a w hat (Env.refl w) h
  | o :: l, fr, a, w, K, hat, hq, h => by
    have go : ∀ (want : Bool), (want = true → yK P o fr w.heap fun v H' => putK o.dst fr v fun fr' => opsYK P all l fr' H' K) →
        (want = false → putK o.dst fr undef fun fr' => opsYK P all l fr' w.heap K) →
        Region.wanted o (yielded all.toArray a.tmps) = want → wpListIn (FW ro) n P all.toArray Q (o :: l) a w := by
      intro want h1 h2 hw
      unfold wpListIn
      rw [hw]
      cases want with
      | true =>
        rw [if_pos rfl]
        refine oper_mono ?_ (yK_sound hat (h1 rfl) Q)
        rintro a' w' ⟨v, rfl, henv, hk⟩
        rw [putK_eq] at hk
        exact opsYK_sound l _ _ _ K (hat.put o.dst v) (fun fr' a' w'' h1 h2 h3 => hq fr' a' w'' h1 (henv.trans h2) h3) hk
      | false =>
        rw [if_neg Bool.false_ne_true]
        have h3 := h2 rfl
        rw [putK_eq] at h3
        exact ⟨fun _ _ => trivial, opsYK_sound l _ _ _ K (hat.put o.dst undef) hq h3⟩
    rw [opsYK_cons] at h
    split at h
    · rename_i hg
      exact go true (fun _ => h) (fun h => by cases h) (by simp [Region.wanted, hg])
    · rename_i j want hg
      split at h
      · exact h.elim
      · rename_i t ht
        unfold guardYK at h
        simp only [apK] at h
        rw [rdK_eq] at h
        split at h
        · rename_i b hb
          have hy := yielded_at hat.bare ht hb
          have hs : fr.set t (.bool b) = fr := rd_set_self hb (by simp [undef])
          cases b <;> cases want <;> simp only [VIte, wrK_eq, hs] at h
          · exact go true (fun _ => h) (fun h => by cases h) (by simp [Region.wanted, hg, hy])
          · exact go false (fun h => by cases h) (fun _ => h) (by simp [Region.wanted, hg, hy])
          · exact go false (fun h => by cases h) (fun _ => h) (by simp [Region.wanted, hg, hy])
          · exact go true (fun _ => h) (fun h => by cases h) (by simp [Region.wanted, hg, hy])
        · rename_i vs hb
          exact go false (fun h => by cases h) (fun _ => h) (by simp [Region.wanted, hg, yielded_no hat.bare ht hb])
        · exact h.elim

/-! ### code -/
abbrev KD := Fr → List Nat → Heap → Prop
def LiftD (w0 : World) (Q : Exit → Fr → List Nat → Heap → Prop) : Exit → Act → World → Prop
  | .panic _, _, _ => False
  | .outgrown, _, _ => False
  | e, a, w => ∃ fr ds, AtD ds fr a ∧ Env w0 w ∧ Q e fr ds w.heap
def exitKD (X : List (Nat × KD)) (id : Nat) (fr : Fr) (ds : List Nat) (H : Heap) : Prop :=
  match X with
  | [] => False
  | (j, k) :: X => match Nat.beq j id with
    | true => k fr ds H
    | false => exitKD X id fr ds H
def QxD (kn : KD) (X : List (Nat × KD)) (kr : KD) (e : Exit) (fr : Fr) (ds : List Nat) (H : Heap) : Prop :=
  match e with
  | .normal => kn fr ds H
  | .exit id => exitKD X id fr ds H
  | .ret => kr fr ds H
  | _ => False
structure VLoopD (P : Program) (ro : Option Nat) (c : Code) (fr : Fr) (ds : List Nat) (H : Heap) (X : List (Nat × KD)) (kr : KD) : Prop where
  in_ ::
  out_ : ∀ (n : Nat) (a : Act) (w : World), AtD ds fr a → w.heap = H → (Code.loop c).wpIn (FW ro) n P (LiftD w (QxD (fun _ _ _ => False) X kr)) a w
/-- A range over a function. -/
structure VRF (P : Program) (g : Operand) (ps : Array Tmp) (assign body : Code) (fr : Fr) (ds : List Nat) (H : Heap) (kn : KD) (X : List (Nat × KD)) (kr : KD) : Prop where
  in_ ::
  out_ : ∀ (n : Nat) (a : Act) (w : World), AtD ds fr a → w.heap = H → (Code.rangeFunc g ps assign body).wpIn (FW none) n P (LiftD w (QxD kn X kr)) a w
def vcI (P : Program) (ro : Option Nat) (c : Code) : Fr → List Nat → Heap → KD → List (Nat × KD) → KD → Prop :=
  Code.rec (motive := fun _ => Fr → List Nat → Heap → KD → List (Nat × KD) → KD → Prop)
    (fun fr ds H kn _ _ => kn fr ds H)
    (fun _ ops draw fr ds H kn _ _ => match draw with
      | false => opsYK P ops.toList ops.toList fr H fun fr' H' => kn fr' ds H'
      | true => False)
    (fun _ _ iha ihb fr ds H kn X kr => iha fr ds H (fun fr' ds' H' => ihb fr' ds' H' kn X kr) X kr)
    (fun c _ _ ihx ihy fr ds H kn X kr => match c with
      | .tmp t => rdK fr t fun v => match v with
        | .bool b => VIte b (wrK fr t (.bool true) fun fr1 => ihx fr1 ds H kn X kr) (wrK fr t (.bool false) fun fr1 => ihy fr1 ds H kn X kr)
        | _ => False
      | _ => False)
    (fun id _ ih fr ds H kn X kr => ih fr ds H kn ((id, kn) :: X) kr)
    (fun c _ fr ds H _ X kr => VLoopD P ro c fr ds H X kr)
    (fun g ps a b _ _ fr ds H kn X kr => match ro with
      | none => VRF P g ps a b fr ds H kn X kr
      | some _ => False)
    (fun id fr ds H _ X _ => exitKD X id fr ds H)
    (fun _ _ _ _ _ _ _ _ => False)
    (fun _ _ _ _ _ _ _ => False)
    (fun _ _ _ _ _ _ _ => False)
    (fun fr ds H _ _ kr => kr fr ds H)
    (fun _ _ _ _ _ _ _ => False) c
section
variable (P : Program) (ro : Option Nat) (a b : Code) (fr : Fr) (ds : List Nat) (H : Heap) (kn : KD) (X : List (Nat × KD)) (kr : KD)
theorem vcI_region (id : Nat) (ops : Array Oper) (draw : Bool) : vcI P ro (.region id ops draw) fr ds H kn X kr = (match draw with
      | false => opsYK P ops.toList ops.toList fr H fun fr' H' => kn fr' ds H'
      | true => False) := rfl
theorem vcI_seq : vcI P ro (.seq a b) fr ds H kn X kr = vcI P ro a fr ds H (fun fr' ds' H' => vcI P ro b fr' ds' H' kn X kr) X kr := rfl
theorem vcI_cond (c : Operand) : vcI P ro (.cond c a b) fr ds H kn X kr = (match c with
      | .tmp t => rdK fr t fun v => match v with
        | .bool x => VIte x (wrK fr t (.bool true) fun fr1 => vcI P ro a fr1 ds H kn X kr) (wrK fr t (.bool false) fun fr1 => vcI P ro b fr1 ds H kn X kr)
        | _ => False
      | _ => False) := rfl
theorem vcI_block (id : Nat) : vcI P ro (.block id a) fr ds H kn X kr = vcI P ro a fr ds H kn ((id, kn) :: X) kr := rfl
theorem vcI_range (g : Operand) (ps : Array Tmp) : vcI P ro (.rangeFunc g ps a b) fr ds H kn X kr = (match ro with
      | none => VRF P g ps a b fr ds H kn X kr
      | some _ => False) := rfl
end
theorem VLoopD.out {P : Program} {ro : Option Nat} {c : Code} {fr : Fr} {ds : List Nat} {H : Heap} {X : List (Nat × KD)} {kr : KD} (h : VLoopD P ro c fr ds H X kr) :
    ∀ (n : Nat) (a : Act) (w : World), AtD ds fr a → w.heap = H → (Code.loop c).wpIn (FW ro) n P (LiftD w (QxD (fun _ _ _ => False) X kr)) a w := by exact h.out_
theorem VRF.out {P : Program} {g : Operand} {ps : Array Tmp} {assign body : Code} {fr : Fr} {ds : List Nat} {H : Heap} {kn : KD} {X : List (Nat × KD)} {kr : KD} (h : VRF P g ps assign body fr ds H kn X kr) :
    ∀ (n : Nat) (a : Act) (w : World), AtD ds fr a → w.heap = H → (Code.rangeFunc g ps assign body).wpIn (FW none) n P (LiftD w (QxD kn X kr)) a w := by exact h.out_
theorem LiftD.env {w0 w1 : World} {Q : Exit → Fr → List Nat → Heap → Prop} (henv : Env w0 w1) : ∀ {e : Exit} {a : Act} {w : World}, LiftD w1 Q e a w → LiftD w0 Q e a w
  | .normal, _, _, ⟨fr, ds, h1, h2, h3⟩ | .exit _, _, _, ⟨fr, ds, h1, h2, h3⟩ | .goto _, _, _, ⟨fr, ds, h1, h2, h3⟩ | .ret, _, _, ⟨fr, ds, h1, h2, h3⟩ => ⟨fr, ds, h1, henv.trans h2, h3⟩
theorem LiftD.mono {w0 : World} {Q Q' : Exit → Fr → List Nat → Heap → Prop} (hq : ∀ e fr ds H, Q e fr ds H → Q' e fr ds H) : ∀ {e : Exit} {a : Act} {w : World}, LiftD w0 Q e a w → LiftD w0 Q' e a w
  | .normal, _, _, ⟨fr, ds, h1, h2, h3⟩ | .exit _, _, _, ⟨fr, ds, h1, h2, h3⟩ | .goto _, _, _, ⟨fr, ds, h1, h2, h3⟩ | .ret, _, _, ⟨fr, ds, h1, h2, h3⟩ => ⟨fr, ds, h1, h2, hq _ _ _ _ h3⟩
theorem seq_liftD {P : Program} {ro : Option Nat} {n : Nat} {x y : Code} {kn k1 : KD} {X : List (Nat × KD)} {kr : KD} {a : Act} {w : World}
    (hx : x.wpIn (FW ro) n P (LiftD w (QxD k1 X kr)) a w)
    (hy : ∀ fr ds a' w', AtD ds fr a' → Env w w' → k1 fr ds w'.heap → y.wpIn (FW ro) n P (LiftD w' (QxD kn X kr)) a' w') : (Code.seq x y).wpIn (FW ro) n P (LiftD w (QxD kn X kr)) a w := by
  refine wpIn_seq (Code.wpIn_mono ?_ hx)
  intro e a' w' h
  cases e with
  | normal =>
    obtain ⟨fr, ds, h1, h2, h3⟩ := h
    exact Code.wpIn_mono (fun e a w h => LiftD.env h2 h) (hy fr ds a' w' h1 h2 h3)
  | exit id => exact h
  | goto l => exact h
  | ret => exact h
  | panic c => exact h
  | outgrown => exact h
theorem vcI_sound {P : Program} {ro : Option Nat} {n : Nat} : ∀ (c : Code) (fr : Fr) (ds : List Nat) (kn : KD) (X : List (Nat × KD)) (kr : KD) (a : Act) (w : World), AtD ds fr a →
    vcI P ro c fr ds w.heap kn X kr → c.wpIn (FW ro) n P (LiftD w (QxD kn X kr)) a w
  | .skip, fr, ds, kn, X, kr, a, w, hat, h => wpIn_skip ⟨fr, ds, hat, Env.refl w, h⟩
  | .region id ops draw, fr, ds, kn, X, kr, a, w, hat, h => by
    rw [vcI_region] at h
    cases draw with
    | false =>
      have := wpIn_region_lit (id := id) (opsYK_sound (ro := ro) (n := n) (all := ops.toList) (Q := LiftD w (QxD kn X kr)) ops.toList fr a w _ hat (fun fr' a' w' h1 h2 h3 => ⟨fr', ds, h1, h2, h3⟩) h)
      simpa using this
    | true => exact h.elim
  | .seq x y, fr, ds, kn, X, kr, a, w, hat, h => by
    rw [vcI_seq] at h
    exact seq_liftD (vcI_sound x fr ds _ X kr a w hat h) fun fr' ds' a' w' h1 _ h3 => vcI_sound y fr' ds' kn X kr a' w' h1 h3
  | .cond c x y, fr, ds, kn, X, kr, a, w, hat, h => by
    rw [vcI_cond] at h
    split at h
    · rename_i t
      rw [rdK_eq] at h
      split at h
      · rename_i b hb
        have hs : fr.set t (.bool b) = fr := rd_set_self hb (by simp [undef])
        have he : a.eval (.tmp t) = .bool b := by rw [hat.evalF]; exact hb
        cases b <;> simp only [VIte, wrK_eq, hs] at h
        · exact wpIn_cond_false he (vcI_sound y fr ds kn X kr a w hat h)
        · exact wpIn_cond_true he (vcI_sound x fr ds kn X kr a w hat h)
      · exact h.elim
    · exact h.elim
  | .block id c, fr, ds, kn, X, kr, a, w, hat, h => by
    rw [vcI_block] at h
    refine wpIn_block (Code.wpIn_mono ?_ (vcI_sound c fr ds kn _ kr a w hat h))
    intro e a' w' h
    cases e with
    | exit id' =>
      obtain ⟨fr', ds', h1, h2, h3⟩ := h
      simp only [QxD, exitKD] at h3
      simp only [Exit.inBlock]
      split at h3
      · rename_i hid
        have := Nat.eq_of_beq_eq_true hid
        rw [if_pos this.symm]
        exact ⟨fr', ds', h1, h2, h3⟩
      · rename_i hid
        have : id ≠ id' := Nat.ne_of_beq_eq_false hid
        rw [if_neg (Ne.symm this)]
        exact ⟨fr', ds', h1, h2, h3⟩
    | normal => exact h
    | goto l => exact h
    | ret => exact h
    | panic c => exact h
    | outgrown => exact h
  | .loop c, fr, ds, kn, X, kr, a, w, hat, h => Code.wpIn_mono (fun e a w => LiftD.mono fun e fr ds H hq => by
      cases e <;> first | exact hq | exact hq.elim) (h.out n a w hat rfl)
  | .exit id, fr, ds, kn, X, kr, a, w, hat, h => wpIn_exit ⟨fr, ds, hat, Env.refl w, h⟩
  | .ret, fr, ds, kn, X, kr, a, w, hat, h => wpIn_ret ⟨fr, ds, hat, Env.refl w, h⟩
  | .rangeFunc g ps x y, fr, ds, kn, X, kr, a, w, hat, h => by
    rw [vcI_range] at h
    cases ro with
    | none => exact h.out n a w hat rfl
    | some l => exact h.elim
  | .scope _, _, _, _, _, _, _, _, _, h => h.elim
  | .label _, _, _, _, _, _, _, _, _, h => h.elim
  | .goto _, _, _, _, _, _, _, _, _, h => h.elim
  | .refuse _, _, _, _, _, _, _, _, _, h => h.elim
/-! ### loops -/
theorem wpIn_loop_rel {P : Program} {ro : Option Nat} {n : Nat} {c : Code} {Q : Exit → Act → World → Prop} (J : Nat → Act → World → Prop)
    (round : ∀ m a w, J m a w → c.wpIn (FW ro) n P (Exit.then (fun a' w' => ∃ m', m' < m ∧ J m' a' w') Q) a w) : ∀ m a w, J m a w → (Code.loop c).wpIn (FW ro) n P Q a w := by
  intro m0 a0 w0 h0 b k cs hro hb hr
  have key : ∀ m a w, J m a w → ∃ e a' w', Q e a' w' ∧ ArrivesIn (Machine.fenced P (FW ro)) P (lone (b.atR a (.code c :: .inLoop c :: k)) cs w) b k cs e a' w' := by
    intro m
    induction m using Nat.strongRecOn with
    | _ m ih =>
      intro a w hI
      obtain ⟨e, a₁, w₁, hq, harr⟩ := round m a w hI b (.inLoop c :: k) cs hro hb hr
      cases e with
      | normal =>
        obtain ⟨m', hlt, hI₁⟩ := hq
        obtain ⟨e₂, a₂, w₂, hq₂, harr₂⟩ := ih m' hlt a₁ w₁ hI₁
        exact ⟨e₂, a₂, w₂, hq₂, .of_steps (StepsIn.trans harr (.one (fenced_calm hb hr rfl) stepR_inLoop)) harr₂⟩
      | exit id => exact ⟨_, a₁, w₁, hq, .pass (x := .inLoop c) rfl (fun _ _ => .inl (by simp)) harr⟩
      | goto l => exact ⟨_, a₁, w₁, hq, .pass (x := .inLoop c) rfl (fun _ _ => .inl (by simp)) harr⟩
      | ret => exact ⟨_, a₁, w₁, hq, .pass (x := .inLoop c) rfl (fun _ _ => .inl (by simp)) harr⟩
      | panic ch => exact ⟨_, a₁, w₁, hq, .pass (x := .inLoop c) rfl (fun _ _ => .inl (by simp)) harr⟩
      | outgrown => exact ⟨_, a₁, w₁, hq, .pass (x := .inLoop c) rfl (fun _ _ => .inl (by simp)) harr⟩
  obtain ⟨e, a', w', hq, harr⟩ := key m0 a0 w0 h0
  exact ⟨e, a', w', hq, .of_steps (.one (fenced_calm hb hr rfl) stepR_loop) harr⟩
theorem VLoopD.mk {P : Program} {ro : Option Nat} {c : Code} {fr : Fr} {ds : List Nat} {H : Heap} {X : List (Nat × KD)} {kr : KD} {α : Type} (ts : List Nat) (enc : α → List Value) (I : α → List Nat → Heap → Prop) (m : α → Heap → Nat)
    (h0 : rdsK fr ts fun vs => ∃ x, vs = enc x ∧ I x ds H)
    (hr : ∀ (x : α) (ds1 : List Nat) (H1 : Heap) (junk : Nat → Value), I x ds1 H1 → havocK junk fr (wset c []) fun fr0 => wrsK fr0 ts (enc x) fun fr1 =>
      vcI P ro c fr1 ds1 H1 (fun fr' ds' H' => keptK (wset c []) fr fr' (rdsK fr' ts fun vs => ∃ y, vs = enc y ∧ I y ds' H' ∧ m y H' < m x H1)) X kr) : VLoopD P ro c fr ds H X kr := by
  generalize wset c [] = ws at hr
  refine ⟨?_⟩
  intro n a w hat hw
  subst hw
  have h0' := h0
  rw [rdsK_eq] at h0'
  obtain ⟨x0, hx0, hi0⟩ := h0'
  let J (k : Nat) (a' : Act) (w' : World) : Prop := ∃ fr' ds' x, AtD ds' fr' a' ∧ Env w w' ∧ havoc (fun _ => undef) fr' ws = havoc (fun _ => undef) fr ws ∧ ts.map (rd fr') = enc x ∧ I x ds' w'.heap ∧ m x w'.heap = k
  refine wpIn_loop_rel J ?_ _ a w ⟨fr, ds, x0, hat, Env.refl w, rfl, hx0, hi0, rfl⟩
  rintro k a1 w1 ⟨fr1, ds1, x1, hat1, henv1, hk1, hx1, hi1, rfl⟩
  have h := hr x1 ds1 w1.heap (rd fr1) hi1
  rw [havocK_eq, wrsK_eq, havoc_of_blank hk1, ← hx1, wrs_self ts fr1] at h
  refine Code.wpIn_mono ?_ (vcI_sound c fr1 ds1 _ X kr a1 w1 hat1 h)
  intro e a2 w2 h2
  cases e with
  | normal =>
    obtain ⟨fr2, ds2, hat2, henv2, h2⟩ := h2
    simp only [QxD, keptK, havocK_eq, rdsK_eq] at h2
    obtain ⟨hk2, y, hy, hiy, hm⟩ := h2
    exact ⟨m y w2.heap, hm, fr2, ds2, y, hat2, henv1.trans henv2, hk2, hy, hiy, rfl⟩
  | exit id => exact LiftD.env henv1 h2
  | goto l => exact LiftD.env henv1 h2
  | ret => exact LiftD.env henv1 h2
  | panic c => exact h2
  | outgrown => exact h2
/-! ### functions -/
/-- A function's end: the marks are taken, then the results are read. -/
structure VRet (P : Program) (rs : List ResultVar) (R : Value → Heap → Prop) (fr : Fr) (ds : List Nat) (H : Heap) : Prop where
  in_ ::
  nd : ds.Nodup
  open_ : ∀ D ∈ ds, H[D]? = some (.deferred (some []))
  res : ∀ H', Agr (fun k => k ∉ ds) H H' → H'.size = H.size → resK P rs fr H' R
theorem VRet.nil {P : Program} {rs : List ResultVar} {R : Value → Heap → Prop} {fr : Fr} {H : Heap} (h : resK P rs fr H R) : VRet P rs R fr [] H :=
  ⟨List.Pairwise.nil, (fun _ h => by cases h), fun H' ha _ => by rw [agr_all (ha.mono fun k _ => by simp)]; exact h⟩
theorem envPut (w : World) (r : Nat) (o : Obj) : Env w (w.putObj r o) := ⟨rfl, rfl, rfl⟩
theorem hwide : FW none = Fence.wide := rfl
theorem leaves_marks {P : Program} {fn : Func} {tmps : Array Value} {R : Ending → World → Prop} : ∀ (ds : List Nat) (w : World), ds.Nodup → (∀ D ∈ ds, w.heap[D]? = some (.deferred (some []))) →
    (∀ w', Env w w' → Agr (fun k => k ∉ ds) w.heap w'.heap → w'.heap.size = w.heap.size → ∃ v, (results fn tmps).run P w' = .ok v w' ∧ R (.returned v) w') → LeavesInM (FW none) 0 P fn tmps R (marks ds) .returning w
  | [], w, _, _, h => by
    obtain ⟨v, h1, h2⟩ := h w (Env.refl w) (Agr.refl _ _) rfl
    exact ⟨v, h1, h2⟩
  | D :: ds, w, hn, ho, h => by
    obtain ⟨hn1, hn2⟩ := List.nodup_cons.1 hn
    have hD := ho D (by simp)
    have hlt := (Array.getElem?_eq_some_iff.1 hD).1
    have ha : Agr (fun k => k ≠ D) w.heap (w.putObj D (.deferred none)).heap := fun k hk => World.putObj_heap_other hk
    refine ⟨by simp, .inl ⟨D, w.putObj D (.deferred none), rfl, run_takeDeferred hD, leaves_marks ds _ hn2 (fun E hE => ?_) fun w' h1 h2 h3 => ?_⟩⟩
    · rw [World.putObj_heap_other (by rintro rfl; exact hn1 hE)]; exact ho E (by simp [hE])
    · refine h w' ((envPut w D _).trans h1) ((ha.mono fun k hk => ?_).trans (h2.mono fun k hk => ?_)) (by rw [h3]; simp)
      · intro e; exact hk (by simp [e])
      · intro e; exact hk (by simp [e])
theorem FnOk.of_vcI {P : Program} {f : FuncId} {fn : Func} {c : Code} {args : Array Value} {H : Heap} {R : Value → Heap → Prop} (hf : P.funcs[f]? = some fn) (hb : fn.body = some c)
    (hcall : ∀ w : World, (callFunc f args).run P w = .ok (.enter f args) w)
    (h : normK (args.toList ++ List.replicate (fn.ntmps - args.size) undef) fun fr => vcI P none c fr [] H (VRet P fn.results.toList R) [] (VRet P fn.results.toList R)) :
    FnOk P f args H R := by
  intro w hw
  subst hw
  refine ⟨hcall w, ?_⟩
  refine (callsIn_wide (n := 0)).1 ?_
  rw [← hwide]
  refine callsIn_of_wp_marks (F := FW none) (n := 0) hf hb trivial ?_
  rw [normK_eq] at h
  have hat : AtD [] (args.toList ++ List.replicate (fn.ntmps - args.size) undef) { tmps := args ++ Array.replicate (fn.ntmps - args.size) undef, defers := [] } := ⟨by simp, rfl⟩
  refine Code.wpIn_mono ?_ (vcI_sound c _ _ _ _ _ _ w hat h)
  intro e a' w' h2
  have fin : ∀ fr ds, AtD ds fr a' → Env w w' → VRet P fn.results.toList R fr ds w'.heap → LeavesInM (FW none) 0 P fn a'.tmps (fun e w'' => ∃ v, e = .returned v ∧ Env w w'' ∧ R v w''.heap) a'.defers .returning w' := by
    intro fr ds h1 h2 h3
    rw [h1.defers]
    refine leaves_marks ds w' h3.nd h3.open_ fun w'' h4 h5 h6 => ?_
    obtain ⟨v, hv, hR⟩ := resK_sound h1.bare (h3.res w''.heap h5 h6)
    exact ⟨v, hv, v, rfl, h2.trans h4, hR⟩
  cases e with
  | normal => obtain ⟨fr, ds, h1, h2, h3⟩ := h2; exact fin fr ds h1 h2 h3
  | ret => obtain ⟨fr, ds, h1, h2, h3⟩ := h2; exact fin fr ds h1 h2 h3
  | exit id => obtain ⟨fr, ds, h1, h2, h3⟩ := h2; exact h3.elim
  | goto l => obtain ⟨fr, ds, h1, h2, h3⟩ := h2; exact h3.elim
  | panic c => exact h2.elim
  | outgrown => exact h2.elim
/-! ### the statement, and its rounds -/
theorem VRF.mk {P : Program} {g : Operand} {ps : Array Tmp} {assign body : Code} {fr : Fr} {ds : List Nat} {H : Heap} {kn : KD} {X : List (Nat × KD)} {kr : KD} (gf : Nat) (lb : Array Value) (hg : evF fr g = .func (.func gf) #[] lb)
    (h : ∀ (rec : LoopState → Option Code → Loop), (∃ fn, rec = fun st pe => { state := st, pending := pe, fn := fn, tmps := fr.toArray, params := ps, assign := assign, body := body, defers := H.size }) →
      FnOk P gf (#[.func (.yield (H.size + 1)) #[] #[]] ++ lb) ((H.push (.deferred (some []))).push (.loop (rec .ready none))) fun _ H2 => ∃ st pe, st ≠ .busy ∧ H2[H.size + 1]? = some (.loop (rec st pe)) ∧
        ((pe = none ∧ kn fr (H.size :: ds) (H2.setIfInBounds (H.size + 1) (.loop (rec .exhausted pe)))) ∨
          (pe = some .ret ∧ kr fr (H.size :: ds) (H2.setIfInBounds (H.size + 1) (.loop (rec .exhausted pe)))))) : VRF P g ps assign body fr ds H kn X kr := by
  refine ⟨?_⟩
  intro n a w hat hw
  subst hw
  refine wpIn_rangeFunc ?_
  intro fn _
  obtain ⟨rec, hrec⟩ : ∃ rec : LoopState → Option Code → Loop, rec = fun st pe => { state := st, pending := pe, fn, tmps := fr.toArray, params := ps, assign, body, defers := w.heap.size } := ⟨_, rfl⟩
  have hk := h rec ⟨fn, hrec⟩
  have hta : a.tmps = fr.toArray := by rw [← hat.tmps]
  obtain ⟨W1, hW1⟩ : ∃ W1, (w.alloc (.deferred (some []))).alloc (.loop (rec .ready none)) = W1 := ⟨_, rfl⟩
  have hW1h : W1.heap = (w.heap.push (.deferred (some []))).push (.loop (rec .ready none)) := by rw [← hW1]; rfl
  have hW1e : Env w W1 := by rw [← hW1]; exact ⟨rfl, rfl, rfl⟩
  obtain ⟨hc1, hc2⟩ := hk W1 hW1h
  refine ⟨w.heap.size + 1, [{ target := .collected w.heap.size, args := #[] }], W1, { target := .fn (.func gf) lb, args := #[.func (.yield (w.heap.size + 1)) #[] #[]] }, W1, gf,
    #[.func (.yield (w.heap.size + 1)) #[] #[]] ++ lb, W1, ?_, ?_, ?_, ?_, ?_, ?_⟩
  · rw [← hW1, hrec, hta]; exact run_enterLoop_outer _ _ _ _ _
  · have hga : a.eval g = .func (.func gf) #[] lb := by rw [hat.evalF]; exact hg
    simp only [resolve, hga]
    simp [go_sem]
  · exact fun _ _ => trivial
  · have e1 : (invoke (.fn (.func gf) lb) #[.func (.yield (w.heap.size + 1)) #[] #[]]).run P W1 = (callFunc gf (#[.func (.yield (w.heap.size + 1)) #[] #[]] ++ lb)).run P W1 := by simp [invoke]
    exact e1.trans hc1
  · intro h; cases h
  · refine callsW (Calls.mono hc2 ?_)
    rintro e W2 ⟨v, rfl, henv2, st, pe, hst, hl, hpe⟩
    refine ⟨pe, W2.putObj (w.heap.size + 1) (.loop { rec st pe with state := .exhausted }), ?_, ?_⟩
    · have := run_endLoop (P := P) hl (by rw [hrec]; exact hst)
      rw [hrec] at this ⊢
      exact this
    · have hat2 : AtD (w.heap.size :: ds) fr { a with defers := [{ target := .collected w.heap.size, args := #[] }] ++ a.defers } := ⟨hat.tmps, by rw [hat.defers]; rfl⟩
      have he2 : Env w (W2.putObj (w.heap.size + 1) (.loop { rec st pe with state := .exhausted })) := (hW1e.trans henv2).trans (envPut W2 _ _)
      have hrx : ({ rec st pe with state := .exhausted } : Loop) = rec .exhausted pe := by rw [hrec]
      have hhp : (W2.putObj (w.heap.size + 1) (.loop { rec st pe with state := .exhausted })).heap = W2.heap.setIfInBounds (w.heap.size + 1) (.loop (rec .exhausted pe)) := by rw [hrx]; rfl
      rcases hpe with ⟨rfl, hpe⟩ | ⟨rfl, hpe⟩
      · exact ⟨fr, _, hat2, he2, by rw [hhp]; exact hpe⟩
      · exact wpIn_ret ⟨fr, _, hat2, he2, by rw [hhp]; exact hpe⟩
theorem fold_wrs : ∀ (l : List (Tmp × Value)) (t : Array Value), ((l.foldl (fun t (x : Tmp × Value) => t.setIfInBounds x.1 x.2) t)).toList = wrs t.toList (l.map (·.1)) (l.map (·.2))
  | [], t => by cases t; rfl
  | (p, v) :: l, t => by
    rw [List.foldl_cons, fold_wrs l]
    simp [wrs]
/-- One round. -/
theorem VRound.mk {P : Program} {l : Nat} {args : Array Value} {H : Heap} {K : Value → Heap → Prop} (r : Loop) (hr : H[l]? = some (.loop r)) (hst : r.state = .ready) (hs : args.size = r.params.size)
    (h : normK (wrs r.tmps.toList r.params.toList args.toList) fun fr => vcI P (some l) r.assign fr [] H (fun fr1 ds1 H1 => ds1 = [] ∧ H1[l]? = some (.loop r) ∧
      vcI P (some l) r.body fr1 [] (H1.setIfInBounds l (.loop { r with state := .busy })) (fun _ _ H2 => H2[l]? = some (.loop { r with state := .busy }) ∧ K (.bool true) (H2.setIfInBounds l (.loop { r with state := .ready, pending := none }))) []
        (fun _ _ H2 => H2[l]? = some (.loop { r with state := .busy }) ∧ K (.bool false) (H2.setIfInBounds l (.loop { r with state := .done, pending := some .ret })))) [] (fun _ _ _ => False)) : VRound P l args H K := by
  refine ⟨?_⟩
  intro w hw
  subst hw
  rw [normK_eq] at h
  refine ⟨_, _, _, _, run_yield hr hs, ?_⟩
  have hfold : ((r.params.zip args).foldl (fun tmps (t, a) => tmps.setIfInBounds t a) r.tmps).toList = wrs r.tmps.toList r.params.toList args.toList := by
    rw [← Array.foldl_toList]
    have := fold_wrs (r.params.zip args).toList r.tmps
    rw [Array.toList_zip] at this ⊢
    rw [show (fun (tmps : Array Value) (x : Tmp × Value) => tmps.setIfInBounds x.1 x.2) = (fun tmps (x : Tmp × Value) => match x with | (t, a) => tmps.setIfInBounds t a) from rfl] at this
    rw [List.map_fst_zip (by simp [hs]), List.map_snd_zip (by simp [hs])] at this
    exact this
  have hro : FW (some l) = (FW none).inRound l := rfl
  refine roundW (ro := none) (n := 0) (roundIn_of_wpIn (F := FW none) trivial ?_)
  rw [← hro]
  have hat : AtD [] (wrs r.tmps.toList r.params.toList args.toList) { tmps := (r.params.zip args).foldl (fun tmps (t, a) => tmps.setIfInBounds t a) r.tmps, defers := [] } := ⟨hfold, rfl⟩
  refine Code.wpIn_mono ?_ (vcI_sound r.assign _ [] _ [] _ _ w hat h)
  intro e a1 w1 h1
  cases e with
  | normal =>
    obtain ⟨fr1, ds1, hat1, henv1, rfl, hl1, h1⟩ := h1
    refine ⟨_, run_beginRound hl1 hst, ?_⟩
    have hb := vcI_sound (n := 0) r.body fr1 [] _ [] _ a1 (w1.putObj l (.loop { r with state := .busy })) hat1 h1
    refine Code.wpIn_mono ?_ hb
    intro e a2 w2 h2
    cases e with
    | normal =>
      obtain ⟨fr2, ds2, hat2, henv2, hl2, hk2⟩ := h2
      exact ⟨_, _, run_endRound none hl2, _, rfl, (henv1.trans (envPut w1 l _)).trans (henv2.trans (envPut w2 l _)), hk2⟩
    | ret =>
      obtain ⟨fr2, ds2, hat2, henv2, hl2, hk2⟩ := h2
      exact ⟨_, _, run_endRound (some .ret) hl2, _, rfl, (henv1.trans (envPut w1 l _)).trans (henv2.trans (envPut w2 l _)), hk2⟩
    | exit id => obtain ⟨_, _, _, _, h3⟩ := h2; exact h3.elim
    | goto l => obtain ⟨_, _, _, _, h3⟩ := h2; exact h3.elim
    | panic c => exact h2.elim
    | outgrown => exact h2.elim
  | exit id => obtain ⟨_, _, _, _, h3⟩ := h1; exact h3.elim
  | goto l => obtain ⟨_, _, _, _, h3⟩ := h1; exact h3.elim
  | ret => obtain ⟨_, _, _, _, h3⟩ := h1; exact h3.elim
  | panic c => exact h1.elim
  | outgrown => exact h1.elim
end Go.VC
/- Appending to an own slice that is used on as it was; pieces in another order, bundled, put aside. -/
set_option linter.unusedVariables false
set_option linter.unusedSimpArgs false
namespace Go.VC
theorem vappend2 {P : Program} {t tx ty e : TypeId} {sz by_ : Nat} {z : Value} {H : Heap} {K : Value → Heap → Prop} (ht : SlT P t e sz by_ z) {lo n m : Nat} {v x : Value} {cs news : List Value}
    (hs : Sl H lo e sz v n cs) (hlo : lo ≤ H.size) (hx : ∀ w : World, w.heap = H → Src P sz tx x m news w) (h63 : n + m ≤ maxLen) (hby : (n + m) * by_ ≤ 140737488355328)
    (h : ∀ v' H', Sl H' lo e sz v' (n + m) (cs ++ news) → Agr (fun k => k < H.size ∧ ¬ slB v k) H H' → H.size ≤ H'.size → (∀ k, slB v' k → slB v k ∨ H.size ≤ k) →
      ((∃ b cap, v = .slice (some ⟨b, 0, none⟩) n cap ∧ v' = .slice (some ⟨b, 0, none⟩) (n + m) cap) ∨ (Agr (fun k => k < H.size) H H' ∧ ∀ k, slB v' k → H.size ≤ k)) → K v' H') :
    VEff P (Builtin.append_ #[t, tx] ty [v, x].toArray) H K := by
  refine VEff.mk fun w hw => ?_
  subst hw
  obtain ⟨inf, hi, hsi, hbi, hz⟩ := ht.info
  have hsrc := hx w rfl
  have hsrc' : Src P inf.size tx x m news w := by rw [hsi]; exact hsrc
  have hnl : news.length = m * sz := hsrc.newsLen
  have h63' : n + m ≤ 9223372036854775807 := by simp only [maxLen] at h63; omega
  obtain ⟨hcl, hs2⟩ := hs
  have hlen : (cs ++ news).length = (n + m) * sz := by rw [List.length_append, hcl, hnl, Nat.add_mul]
  have grow : ∀ (base : Option Addr) (cap : Nat), v = .slice base n cap → cap < n + m → (Builtin.firstCells inf.size n (.slice base n cap)).run P w.drew = .ok cs.toArray w.drew →
      ∃ v' w', (Builtin.append_ #[t, tx] ty [v, x].toArray).run P w = .ok v' w' ∧ Env w w' ∧ K v' w'.heap := by
    intro base cap hv hcap hold
    subst hv
    have hr := run_append_grow_src (P := P) w t tx ty e inf z ht.under hi hz base n cap cs hold x m news hsrc' hcap (by omega) (growslice_fits (by omega) (by rw [hbi]; exact hby))
    refine ⟨_, _, hr, ⟨rfl, rfl, rfl⟩, ?_⟩
    have hge := grownCap_ge w (n + m) cap e
    have hle := grownCap_le_maxLen w (n + m) cap e h63
    have hblk : Blk (w.drew.alloc (.cells ((cs ++ news).toArray ++ Builtin.zeroCells z.cells (grownCap w (n + m) cap e - (n + m))) e)).heap w.heap.size e
        ((cs ++ news) ++ (Builtin.zeroCells z.cells (grownCap w (n + m) cap e - (n + m))).toList) := by
      unfold Blk
      have : (w.drew.alloc (.cells ((cs ++ news).toArray ++ Builtin.zeroCells z.cells (grownCap w (n + m) cap e - (n + m))) e)).heap = w.heap.push (.cells ((cs ++ news).toArray ++ Builtin.zeroCells z.cells (grownCap w (n + m) cap e - (n + m))) e) := rfl
      rw [this]
      simp
    refine h _ _ ⟨hlen, .inr ⟨w.heap.size, _, _, rfl, hlo, hblk, hge, hle, ?_, ?_⟩⟩ ?_ ?_ ?_ (.inr ⟨fun k hk => heap_push_old w.heap _ k hk, fun k hk => ?_⟩)
    · rw [List.length_append, hlen, Array.length_toList, size_zeroCells, ht.zsz, ← Nat.add_mul]
      congr 1; omega
    · rw [← hlen, List.take_left']; rfl
    · intro k hk
      exact heap_push_old w.heap _ k hk.1
    · show w.heap.size ≤ (w.heap.push _).size
      simp
    · rintro k ⟨o, n', c, hk⟩
      cases hk
      exact .inr (Nat.le_refl _)
    · obtain ⟨o, n', c, hk⟩ := hk
      cases hk
      exact Nat.le_refl _
  rcases hs2 with ⟨rfl, rfl⟩ | ⟨b, cap, l, rfl, hlob, hb, hnc, hcm, hll, htake⟩
  · have hcs : cs = [] := List.eq_nil_of_length_eq_zero (by simpa using hcl)
    subst hcs
    by_cases hm : m = 0
    · subst hm
      have hn : news = [] := List.eq_nil_of_length_eq_zero (by simpa using hnl)
      subst hn
      refine ⟨.slice none 0 0, w, ?_, Env.refl w, h _ _ (Sl.nil _ _ _ _) (Agr.refl _ _) (Nat.le_refl _) (fun k hk => .inl hk) (.inr ⟨Agr.refl _ _, fun k ⟨_, _, _, h⟩ => by cases h⟩)⟩
      rcases hsrc'.kind with ⟨e', hk⟩ | hk <;> simp [Builtin.append_, run_underlying ht.under, run_underlying hk, sizeOf, typeInfo, hi, hsrc'.len, hsrc'.cells]
    · exact grow none 0 rfl (by omega) (by simp [Builtin.firstCells])
  · by_cases hroom : n + m ≤ cap
    · have hfit : n * sz + news.length ≤ l.length := by rw [hnl, hll, ← Nat.add_mul]; exact Nat.mul_le_mul_right _ hroom
      have hr := run_append_room_src (P := P) w t tx ty e inf ht.under hi b 0 n cap x m news hsrc' hroom
        (fun j hj => by rw [cell_w, hb.cell]; simp [hsi]; omega) (fun j hj => frozen_blk hb)
      obtain ⟨h1, h2, h3, h4⟩ := setCells_blk news (0 + n * inf.size) l w hb (by rw [hsi]; omega)
      refine ⟨_, _, hr, h4, h _ _ ⟨hlen, .inr ⟨b, cap, _, rfl, hlob, h1, hroom, hcm, ?_, ?_⟩⟩ (h2.mono fun k hk => ?_) (by omega) ?_ (.inl ⟨b, cap, rfl, rfl⟩)⟩
      · rw [splice_length (by rw [hsi]; omega)]; exact hll
      · rw [hsi, Nat.zero_add]
        unfold splice
        rw [htake, ← hlen, List.take_left']; rfl
      · intro hkb; subst hkb; exact hk.2 ⟨0, n, cap, rfl⟩
      · rintro k ⟨o, n', c, hk⟩
        cases hk
        exact .inl ⟨0, n, cap, rfl⟩
    · refine grow (some ⟨b, 0, none⟩) cap rfl (by omega) ?_
      have hc : Cells w.heap b 0 cs := hb.cells fun j v hv => by
        rw [← htake, List.getElem?_take] at hv
        split at hv
        · simpa using hv
        · cases hv
      have := run_firstCells_some (P := P) w.drew inf.size n ⟨b, 0, none⟩ n cap cs (by rw [hsi]; exact hcl) (fun j v hv => by
        rw [Addr.add_mid]
        have := range_w (w := w.drew) (H := w.heap) hc rfl j v hv
        exact this)
      exact this
section
variable {B : Nat → Prop} {H0 H : Heap} {ps qs : List Pc} {p : Pc}
theorem StB.perm (st : StB B H0 H ps) (h : ps.Perm qs) : StB B H0 H qs :=
  ⟨st.old, st.lt0, st.size, fun p hp => st.oks p (h.mem_iff.2 hp), fun p hp => st.rng p (h.mem_iff.2 hp), (h.pairwise_iff fun {x y} hxy k hk hk' => hxy k hk' hk).1 st.dis⟩
theorem StB.sub (st : StB B H0 H ps) (h : qs.Sublist ps) : StB B H0 H qs :=
  ⟨st.old, st.lt0, st.size, fun p hp => st.oks p (h.subset hp), fun p hp => st.rng p (h.subset hp), st.dis.sublist h⟩
/-- Pieces as one. -/
def pAll (qs : List Pc) : Pc where
  foot k := ∃ q ∈ qs, q.foot k
  ok H := (∀ q ∈ qs, q.ok H) ∧ qs.Pairwise Dis
  fr h hp := ⟨fun q hq => q.fr (h.mono fun k hk => ⟨q, hq, hk⟩) (hp.1 q hq), hp.2⟩
/-- The bundle looked at by itself. -/
theorem StB.open_ (st : StB B H0 H ps) (i : Nat) (hp : ps[i]? = some (pAll qs)) : StB (fun k => k < H.size ∧ ¬ (pAll qs).foot k) H H qs := by
  obtain ⟨h1, h2⟩ := st.at_ i hp
  exact ⟨Agr.refl _ _, fun k hk => hk.1, Nat.le_refl _, h1, fun q hq k hk => ⟨fun h => h.2 ⟨q, hq, hk⟩, (st.in_ i hp ⟨q, hq, hk⟩).2⟩, h2⟩
theorem StB.close {H' : Heap} {qs' : List Pc} (st : StB B H0 H ps) (i : Nat) (hp : ps[i]? = some (pAll qs)) (st' : StB (fun k => k < H.size ∧ ¬ (pAll qs).foot k) H H' qs') : StB B H0 H' (ps.set i (pAll qs')) := by
  refine st.upd i hp st'.old _ ⟨st'.oks, st'.dis⟩ (fun k hk => ?_) (fun k hk => ?_) st'.size
  · obtain ⟨q, hq, hk⟩ := hk
    have := (st'.rng q hq k hk).1
    by_cases h1 : k < H.size
    · by_cases h2 : (pAll qs).foot k
      · exact .inl h2
      · exact absurd ⟨h1, h2⟩ this
    · exact .inr (by omega)
  · obtain ⟨q, hq, hk⟩ := hk
    exact (st'.rng q hq k hk).2
/-- The first pieces bundled. -/
theorem StB.bundle {rs : List Pc} (st : StB B H0 H (qs ++ rs)) : StB B H0 H (pAll qs :: rs) := by
  obtain ⟨d1, d2, d3⟩ := List.pairwise_append.1 st.dis
  refine ⟨st.old, st.lt0, st.size, fun p hp => ?_, fun p hp k hk => ?_, List.pairwise_cons.2 ⟨fun r hr k hk hk' => ?_, d2⟩⟩
  · rcases List.mem_cons.1 hp with rfl | hp
    · exact ⟨fun q hq => st.oks q (List.mem_append.2 (.inl hq)), d1⟩
    · exact st.oks p (List.mem_append.2 (.inr hp))
  · rcases List.mem_cons.1 hp with rfl | hp
    · obtain ⟨q, hq, hk⟩ := hk
      exact st.rng q (List.mem_append.2 (.inl hq)) k hk
    · exact st.rng p (List.mem_append.2 (.inr hp)) k hk
  · obtain ⟨q, hq, hk⟩ := hk
    exact d3 q hq r hr k hk hk'
theorem StB.unbundle {rs : List Pc} (st : StB B H0 H (pAll qs :: rs)) : StB B H0 H (qs ++ rs) := by
  obtain ⟨d1, d2⟩ := List.pairwise_cons.1 st.dis
  have h0 := st.oks _ (List.mem_cons_self ..)
  refine ⟨st.old, st.lt0, st.size, fun p hp => ?_, fun p hp k hk => ?_, List.pairwise_append.2 ⟨h0.2, d2, fun q hq r hr k hk hk' => d1 r hr k ⟨q, hq, hk⟩ hk'⟩⟩
  · rcases List.mem_append.1 hp with hp | hp
    · exact h0.1 p hp
    · exact st.oks p (List.mem_cons.2 (.inr hp))
  · rcases List.mem_append.1 hp with hp | hp
    · exact st.rng _ (List.mem_cons_self ..) k ⟨p, hp, hk⟩
    · exact st.rng p (List.mem_cons.2 (.inr hp)) k hk
end
section
variable {α : Type} {T : Ty α} {e : TypeId} {a : Option Addr} {n cap : Nat} {xs : List α} {B : Nat → Prop} {H0 H : Heap} {p1 p2 : Pc} {rest : List Pc}
/-- One element more, in place or in a new block; the slice as it was is to be used on. -/
theorem push1 {P : Program} {t ty q by_ : Nat} {z v : Value} {x : α} {K : Value → Heap → Prop} (st : StB B H0 H (p1 :: p2 :: pS T e a n cap xs :: rest)) (ht : SlT P t e T.size by_ z)
    (hd : Blk H q e [v]) (hy : T.rep none_ H [v] x) (hv : v.oneCell' = true) (h63 : xs.length + 1 ≤ 4194304) (hby : by_ ≤ 1024)
    (k1 : ∀ H', StB B H0 H' (p1 :: p2 :: pS T e a (n + 1) cap (xs ++ [x]) :: rest) → K (.slice a (n + 1) cap) H')
    (k2 : ∀ a' cap' H', StB B H0 H' (p1 :: p2 :: pS T e a' (n + 1) cap' (xs ++ [x]) :: pS T e a n cap xs :: rest) → K (.slice a' (n + 1) cap') H') :
    VEff P (Builtin.append_ #[t, t] ty [.slice a n cap, .slice (some ⟨q, 0, none⟩) 1 1].toArray) H K := by
  have hp : (p1 :: p2 :: pS T e a n cap xs :: rest)[2]? = some (pS T e a n cap xs) := rfl
  obtain ⟨cs, hsl, hr⟩ := (st.at_ 2 hp).1
  have hn := st.len 2 hp
  subst hn
  refine vappend2 (m := 1) (news := [v]) (lo := 0) ht hsl (Nat.zero_le _) (fun w hw => ?_) (by unfold maxLen; omega) (by have := Nat.mul_le_mul h63 hby; omega) ?_
  · refine Src.ofSlice w ht.under ⟨q, 0, none⟩ 1 1 [v] (by have := T.len hy; simpa using this) (fun j u hu => ?_) (fun u hu => by rw [List.mem_singleton] at hu; subst hu; exact hv)
    rw [Addr.add_mid]
    subst hw
    rw [cell_w, hd.cell, Nat.zero_add]
    exact hu
  · intro v' H' hsl' hagr hsz hbb hcase
    have hrr : T.reps none_ H' (cs ++ [v]) (xs ++ [x]) := Ty.reps_append (Ty.reps_frame (hagr.mono fun k hk => hk.elim) hr) (Ty.reps_frame (hagr.mono fun k hk => hk.elim) (Ty.reps_one hy))
    rcases hcase with ⟨b, c, e1, rfl⟩ | ⟨hall, hnew⟩
    · injection e1 with e2 _ e3
      subst e2; subst e3
      refine k1 H' (st.upd 2 hp (hagr.mono fun k hk => ⟨hk.1, fun hb => hk.2 (.inl hb)⟩) _ ⟨⟨_, by rw [List.length_append]; exact hsl', hrr⟩, fun k hk => hk.elim⟩ (fun k hk => ?_) (fun k hk => ?_) hsz)
      · rcases hk with ⟨o, n', c', hk⟩ | hk
        · cases hk; exact .inl (.inl ⟨0, _, _, rfl⟩)
        · exact hk.elim
      · rcases hk with ⟨o, n', c', hk⟩ | hk
        · cases hk
          have := (st.in_ 2 hp (.inl ⟨0, _, _, rfl⟩)).2
          omega
        · exact hk.elim
    · have hown : SlO T none_ H' 0 e v' (xs ++ [x]) := ⟨_, by rw [List.length_append]; exact hsl', hrr⟩
      have hup : SlO T none_ H' H.size e v' (xs ++ [x]) := hown.up hnew
      obtain ⟨a', cap', rfl, st'⟩ := st.got hall hup
      rw [List.length_append] at st' ⊢
      exact k2 a' cap' H' (st'.perm (((List.perm_append_singleton (pS T e a' (xs.length + 1) cap' (xs ++ [x])) (pS T e a xs.length cap xs :: rest)).cons p2).cons p1))
/-- And back. -/
theorem StB.pop1 {m : Nat} {x : α} (st : StB B H0 H (p1 :: p2 :: pS T e a m cap (xs ++ [x]) :: rest)) : StB B H0 H (p1 :: p2 :: pS T e a xs.length cap xs :: rest) := by
  have hp : (p1 :: p2 :: pS T e a m cap (xs ++ [x]) :: rest)[2]? = some (pS T e a m cap (xs ++ [x])) := rfl
  refine st.say 2 hp (pS T e a xs.length cap xs) ⟨(st.at_ 2 hp).1.pop, fun k hk => hk.elim⟩ (fun k hk => ?_)
  rcases hk with ⟨o, n', c', hk⟩ | hk
  · cases hk; exact .inl ⟨o, _, _, rfl⟩
  · exact hk.elim
end
end Go.VC
/- slices.Sorted of maps.Keys of a map of ints: the walk. -/
set_option linter.unusedVariables false
set_option linter.unusedSimpArgs false
set_option maxRecDepth 100000
namespace Go.VC
theorem VRound.mk2 {P : Program} {l : Nat} {args : Array Value} {H : Heap} {K : Value → Heap → Prop} (fn : FuncId) (tmps : Array Value) (ps : Array Tmp) (assign body : Code) (D : Nat) (rec : LoopState → Option Code → Loop)
    (hrec : rec = fun st pe => { state := st, pending := pe, fn := fn, tmps := tmps, params := ps, assign := assign, body := body, defers := D }) (hr : H[l]? = some (.loop (rec .ready none))) (hs : args.size = ps.size)
    (h : normK (wrs tmps.toList ps.toList args.toList) fun fr => vcI P (some l) assign fr [] H (fun fr1 ds1 H1 => ds1 = [] ∧ H1[l]? = some (.loop (rec .ready none)) ∧
      vcI P (some l) body fr1 [] (H1.setIfInBounds l (.loop (rec .busy none))) (fun _ _ H2 => H2[l]? = some (.loop (rec .busy none)) ∧ K (.bool true) (H2.setIfInBounds l (.loop (rec .ready none)))) []
        (fun _ _ H2 => H2[l]? = some (.loop (rec .busy none)) ∧ K (.bool false) (H2.setIfInBounds l (.loop (rec .done (some .ret)))))) [] (fun _ _ _ => False)) : VRound P l args H K := by
  subst hrec
  exact VRound.mk _ hr rfl hs h
theorem VRound_mono {P : Program} {l : Nat} {args : Array Value} {H : Heap} {K K' : Value → Heap → Prop} (h : VRound P l args H K) (k : ∀ v H', K v H' → K' v H') : VRound P l args H K' :=
  ⟨fun w hw => by
    obtain ⟨f, t, a, b, h1, h2⟩ := h.out w hw
    exact ⟨f, t, a, b, h1, h2.mono fun e w' ⟨v, h3, h4, h5⟩ => ⟨v, h3, h4, k _ _ h5⟩⟩⟩
/-- The record of a loop over a function. -/
def pLp (L : Nat) (r : Loop) : Pc := ⟨fun k => k = L, fun H => H[L]? = some (.loop r), fun h hp => (h L rfl).trans hp⟩
/-- Marks: blocks for deferred calls, none of which holds any. -/
def pDs (ds : List Nat) : Pc := ⟨fun k => k ∈ ds, fun H => ∀ D ∈ ds, H[D]? = some (.deferred (some [])), fun h hp D hD => (h D hD).trans (hp D hD)⟩
section
variable {B : Nat → Prop} {H0 H : Heap} {ps rest : List Pc}
theorem StB.lpSet {L : Nat} {r : Loop} (st : StB B H0 H ps) (i : Nat) (hp : ps[i]? = some (pLp L r)) (r' : Loop) : StB B H0 (H.setIfInBounds L (.loop r')) (ps.set i (pLp L r')) := by
  have hl : H[L]? = some (.loop r) := st.at_ i hp
  have hlt := (Array.getElem?_eq_some_iff.1 hl).1
  refine st.upd i hp (fun k hk => ?_) _ ?_ (fun k hk => .inl hk) (fun k hk => ?_) (by simp)
  · have : k ≠ L := fun e => hk.2 e
    rw [Array.getElem?_setIfInBounds_ne (Ne.symm this)]
  · show (H.setIfInBounds L _)[L]? = _
    rw [Array.getElem?_setIfInBounds_self_of_lt hlt]
  · have : k = L := hk
    subst this
    simpa using hlt
theorem StB.push (st : StB B H0 H ps) (o : Obj) (p : Pc) (hf : ∀ k, p.foot k → k = H.size) (hok : p.ok (H.push o)) : StB B H0 (H.push o) (ps ++ [p]) :=
  st.add (heap_push_old H o) p hok fun k hk => by have := hf k hk; subst this; simp
theorem StB.pushMark (st : StB B H0 H ps) : StB B H0 (H.push (.deferred (some []))) (ps ++ [pDs [H.size]]) :=
  st.push _ _ (fun k hk => by simpa [pDs] using hk) (fun D hD => by rw [List.mem_singleton] at hD; subst hD; simp)
theorem StB.pushLoop (st : StB B H0 H ps) (r : Loop) : StB B H0 (H.push (.loop r)) (ps ++ [pLp H.size r]) :=
  st.push _ _ (fun k hk => hk) (by show (H.push _)[H.size]? = _; simp)
theorem StB.dsOff {ds : List Nat} {H' : Heap} (st : StB B H0 H (pDs ds :: rest)) (ha : Agr (fun k => k ∉ ds) H H') (hs : H'.size = H.size) : StB B H0 H' rest := by
  have := st.upd 0 (p := pDs ds) rfl (ha.mono fun k hk => hk.2) ⟨fun _ => False, fun _ => True, fun _ _ => trivial⟩ trivial (fun k hk => hk.elim) (fun k hk => hk.elim) (by omega)
  exact this.sub (List.sublist_cons_self _ _)
/-- Some of the first n pieces, in another order, and the others. -/
theorem StB.pickN (st : StB B H0 H ps) (n : Nat) (is : List Nat) (hn : is.Nodup) : StB B H0 H ((is.filterMap fun i => (ps.take n)[i]?) ++ ps.drop n) := by
  have e := List.take_append_drop n ps
  rw [← e] at st
  generalize ps.take n = qs at *
  generalize ps.drop n = rs at *
  obtain ⟨d1, d2, d3⟩ := List.pairwise_append.1 st.dis
  have st1 : StB B H0 H qs := st.sub (List.sublist_append_left _ _)
  have st2 := st1.pick is hn
  have hm : ∀ q, q ∈ is.filterMap (fun i => qs[i]?) → q ∈ qs := fun q hq => by
    obtain ⟨i, -, hi⟩ := List.mem_filterMap.1 hq
    exact List.mem_of_getElem? hi
  refine ⟨st.old, st.lt0, st.size, fun q hq => ?_, fun q hq k hk => ?_, List.pairwise_append.2 ⟨st2.dis, d2, fun q hq r hr => d3 q (hm q hq) r hr⟩⟩
  · rcases List.mem_append.1 hq with hq | hq
    · exact st2.oks q hq
    · exact st.oks q (List.mem_append.2 (.inr hq))
  · rcases List.mem_append.1 hq with hq | hq
    · exact st2.rng q hq k hk
    · exact st.rng q (List.mem_append.2 (.inr hq)) k hk
end
end Go.VC
namespace Go.Proofs.YthomdogheamfpaaDoor
open Go.VC
abbrev kI : Int → Value := Value.int .i64
theorem keyIW : KeyW Tryd.prog 3 (anyK (α := Int)) kI := KeyW.ofE Tryd.underlying3 (keyI .i64)
theorem mapII : MapTW Tryd.prog 88 3 3 (.int .i64 0) := ⟨rfl, rfl⟩
abbrev Dom (mm : Int → Option Value) : Int → Prop := fun q => (mm q).isSome = true
abbrev tIk : Ty Int := tInt .i64
/-- What a call of yield does: the int is put to the others. -/
def YOkI (l : Nat) (ok : Int → Prop) (Q : List Int → Pc → Prop) : Prop :=
  ∀ {B : Nat → Prop} {H0 H : Heap} {ps : List Pc} (st : StB B H0 H ps) (i : Nat) (p : Pc) (pre : List Int) (x : Int), ps[i]? = some p → Q pre p → pre.length < 65536 → ok x →
    VRound Tryd.prog l #[.int .i64 x] H fun v H' => v = .bool true ∧ ∃ p', Q (pre ++ [x]) p' ∧ StB B H0 H' (ps.set i p')
theorem nodupI_len : ∀ (n : Nat) (l : List Int), l.Nodup → (∀ x ∈ l, 0 ≤ x ∧ x < (n : Int)) → l.length ≤ n
  | 0, l, _, h => by
    cases l with
    | nil => exact Nat.le_refl _
    | cons x l => have := h x List.mem_cons_self; omega
  | n + 1, l, hd, h => by
    have h1 := nodupI_len n (l.filter fun x => decide (x < (n : Int))) (hd.filter _) (fun x hx => by
      obtain ⟨h1, h2⟩ := List.mem_filter.1 hx
      exact ⟨(h x h1).1, by simpa using h2⟩)
    have h2 : l.length ≤ (l.filter fun x => decide (x < (n : Int))).length + 1 := by
      clear h1
      induction l with
      | nil => simp
      | cons x l ih =>
        rw [List.nodup_cons] at hd
        by_cases hx : x < (n : Int)
        · rw [List.filter_cons_of_pos (by simpa using hx)]
          have := ih hd.2 (fun y hy => h y (List.mem_cons_of_mem _ hy))
          simp only [List.length_cons]; omega
        · rw [List.filter_cons_of_neg (by simpa using hx)]
          have hxn : x = (n : Int) := by have := h x List.mem_cons_self; omega
          have : l.filter (fun x => decide (x < (n : Int))) = l := List.filter_eq_self.2 fun y hy => by
            have h3 := h y (List.mem_cons_of_mem _ hy)
            have : y ≠ x := fun e => hd.1 (e ▸ hy)
            rw [decide_eq_true_eq]; omega
          rw [this]; simp
    omega
set_option maxHeartbeats 4000000 in
theorem keys1_c {B : Nat → Prop} {H0 H : Heap} {l nb bx : Nat} {Q : List Int → Pc → Prop} {mm : Int → Option Value} {rest : List Pc} {p : Pc} (hr : ∀ q, Dom mm q → 0 ≤ q ∧ q < 65536) (hy : YOkI l (fun x => 0 ≤ x ∧ x < 65536) Q)
    (st : StB B H0 H (p :: pMW anyK kI nb mm :: pB 88 bx [.map (some nb)] :: rest)) (hQ : Q [] p) :
    FnOk Tryd.prog 113 #[.func (.yield l) #[] #[], .pointer (some ⟨bx, 0, none⟩)] H fun _ H' => ∃ ks p', Q ks p' ∧ ks.Nodup ∧ (∀ q, q ∈ ks ↔ Dom mm q) ∧ StB B H0 H' (p' :: pMW anyK kI nb mm :: pB 88 bx [.map (some nb)] :: rest) := by
  refine FnOk.of_vcI Tryd.func113 rfl (Tryd.call113 _) ?_
  (conv => whnf); refine ld1 (v := .map (some nb)) ct88 (by rw [(st.blk 2 rfl).cell]; rfl) trivial ?_
  (conv => whnf); refine mrangeP st 1 mapII rfl fun r n H1 st1 => ?_
  (conv => whnf)
  refine VLoopD.mk [] (fun _ : List Int × Nat => []) (fun x ds H2 => ds = [] ∧ x.1.Nodup ∧ (∀ q ∈ x.1, Dom mm q) ∧ ∃ D last p', (∀ q, D q ↔ q ∈ x.1) ∧ Q x.1 p' ∧ StB B H0 H2 (p' :: pIW anyK kI nb r mm D last x.2 :: pB 88 bx [.map (some nb)] :: rest)) (fun x _ => x.2) ?_ ?_
  · (conv => whnf)
    exact ⟨([], n), rfl, rfl, List.Pairwise.nil, (fun q h => by cases h), _, none, p, fun q => ⟨fun h => h.elim, fun h => by cases h⟩, hQ, st1⟩
  · rintro ⟨ks, n2⟩ ds H2 junk ⟨rfl, hnd, hin, D, last, p', hD, hQ2, st2⟩
    simp only at hnd hin hD hQ2 st2
    have hlen := nodupI_len 65536 ks hnd fun x hx => hr x (hin x hx)
    (conv => whnf); refine mnextP st2 1 keyIW.inj rfl (fun hall => ?_) fun q v H3 n3 hq hnD hlt st3 => ?_
    · (conv => whnf); refine VRet.nil ?_
      (conv => whnf)
      exact ⟨ks, p', hQ2, hnd, fun q => ⟨hin q, fun h => (hD q).1 (hall q h)⟩, st2.iterEnd 1 rfl⟩
    · have hdq : Dom mm q := by unfold Dom; rw [hq]; rfl
      have hqk : q ∉ ks := fun h => hnD ((hD q).2 h)
      have hlt2 : ks.length < 65536 := by
        have := nodupI_len 65536 (ks ++ [q]) (List.nodup_append.2 ⟨hnd, by simp, fun x hx y hy e => by rw [List.mem_singleton] at hy; subst hy; subst e; exact hqk hx⟩) fun x hx => by
          rcases List.mem_append.1 hx with h | h
          · exact hr x (hin x h)
          · rw [List.mem_singleton] at h; subst h; exact hr x hdq
        simp at this
        omega
      (conv => whnf); refine mhere (st3.iterW 1 rfl) keyIW.inj hq ?_
      (conv => whnf); refine VRound_mono (hy st3 0 p' ks q rfl hQ2 hlt2 (hr q hdq)) fun v' H4 h4 => ?_
      obtain ⟨rfl, p2, hQ4, st4⟩ := h4
      (conv => whnf)
      refine ⟨rfl, (ks ++ [q], n3), rfl, ⟨rfl, List.nodup_append.2 ⟨hnd, by simp, fun x hx y hy e => by rw [List.mem_singleton] at hy; subst hy; subst e; exact hqk hx⟩, fun x hx => ?_, _, _, p2, fun x => ?_, hQ4, st4⟩, hlt⟩
      · rcases List.mem_append.1 hx with h | h
        · exact hin x h
        · rw [List.mem_singleton] at h; subst h; exact hdq
      · simp only [List.mem_append, List.mem_singleton, hD]
/-- What the loop's body holds. -/
def SQ (L : Nat) (rec : LoopState → Option Code → Loop) (b : Nat) (pre : List Int) (p : Pc) : Prop :=
  ∃ a cap, p = pAll [pLp L (rec .ready none), pB 33 b [.slice a pre.length cap], pS tIk 3 a pre.length cap pre]
theorem kint {x : Int} (h : 0 ≤ x ∧ x < 65536) : inK .i64 x := ⟨by simp [IntKind.min, IntKind.signed, IntKind.bits]; omega, by simp [IntKind.max, IntKind.signed, IntKind.bits]; omega⟩
set_option maxHeartbeats 4000000 in
theorem appendSeq_c {B : Nat → Prop} {H0 H : Heap} {nb bx : Nat} {mm : Int → Option Value} {rest : List Pc} (hr : ∀ q, Dom mm q → 0 ≤ q ∧ q < 65536)
    (st : StB B H0 H (pMW anyK kI nb mm :: pB 88 bx [.map (some nb)] :: rest)) :
    FnOk Tryd.prog 126 #[.slice none 0 0, .func (.func 113) #[] #[.pointer (some ⟨bx, 0, none⟩)]] H fun r H' => ∃ ks a cap, r = .slice a ks.length cap ∧ ks.Nodup ∧ (∀ q, q ∈ ks ↔ Dom mm q) ∧ StB B H0 H' (pS tIk 3 a ks.length cap ks :: pMW anyK kI nb mm :: pB 88 bx [.map (some nb)] :: rest) := by
  refine FnOk.of_vcI Tryd.func126 rfl (Tryd.call126 _) ?_
  (conv => whnf); refine vbox [.slice none 0 0] rfl ?_
  intro b2 H1 hb2 hs1 hk1 ha1
  have st1 : StB B H0 H1 (pB 33 b2 [.slice none 0 0] :: pMW anyK kI nb mm :: pB 88 bx [.map (some nb)] :: rest) := (st.box hb2 hs1 hk1 ha1).perm (List.perm_append_singleton _ _)
  have st2 : StB B H0 H1 (pS tIk 3 none 0 0 [] :: pB 33 b2 [.slice none 0 0] :: pMW anyK kI nb mm :: pB 88 bx [.map (some nb)] :: rest) := (st1.nils tIk 3).perm (List.perm_append_singleton _ _)
  (conv => whnf); refine VRF.mk 113 #[.pointer (some ⟨bx, 0, none⟩)] rfl ?_
  rintro rec ⟨fn, hrec⟩
  have st3 := st2.pushMark.perm (List.perm_append_singleton _ _)
  have st4 := (st3.pushLoop (rec .ready none)).perm (List.perm_append_singleton _ _)
  rw [Array.size_push] at st4
  have st5 : StB B H0 _ ([pLp (H1.size + 1) (rec .ready none), pB 33 b2 [.slice none 0 0], pS tIk 3 none 0 0 []] ++ (pMW anyK kI nb mm :: pB 88 bx [.map (some nb)] :: pDs [H1.size] :: rest)) := st4.pickN 6 [0, 3, 2, 4, 5, 1] (by decide)
  have st6 := st5.bundle
  have hy : YOkI (H1.size + 1) (fun x => 0 ≤ x ∧ x < 65536) (SQ (H1.size + 1) rec b2) := by
    intro B' H0' H'' ps st i p pre x hp hQ hle hx
    obtain ⟨a', cap', rfl⟩ := hQ
    have so := st.open_ i hp
    refine VRound.mk2 _ _ _ _ _ _ rec hrec (so.at_ 0 rfl) rfl ?_
    (conv => whnf)
    refine ⟨rfl, so.at_ 0 rfl, ?_⟩
    have so1 := so.lpSet 0 rfl (rec .busy none)
    (conv => whnf); refine ld1 (v := .slice a' pre.length cap') ct33 (by rw [(so1.blk 1 rfl).cell]; rfl) trivial ?_
    (conv => whnf); refine vbuild1 sl33 [.int .i64 x] rfl rfl (by decide) (by decide) ?_
    intro q21 H21 hq21 hs21 hb21 ha21
    (conv => whnf); refine app1 (x := x) (so1.skip hq21 ha21) 2 sl33 rfl hb21 ⟨rfl, kint hx⟩ rfl (by omega) (by decide) fun a'' c'' H22 so2 _ => ?_
    (conv => whnf); refine st1B so2 1 ct33 rfl (by simp) rfl fun H23 so3 => ?_
    (conv => whnf)
    have so4 := so3.lpSet 0 rfl (rec .ready none)
    have el : pre.length + 1 = (pre ++ [x]).length := by simp
    refine ⟨so3.at_ 0 rfl, rfl, _, ⟨a'', c'', rfl⟩, ?_⟩
    rw [el] at so4
    exact st.close i hp so4
  refine (keys1_c (Q := SQ (H1.size + 1) rec b2) hr hy st6 ⟨none, 0, rfl⟩).mono fun _ H8 hE => ?_
  obtain ⟨ks, p1, ⟨a1, c1, rfl⟩, hnd, hin, st7⟩ := hE
  have st8 := st7.unbundle
  refine ⟨.ready, none, by decide, st8.at_ 0 rfl, .inl ⟨rfl, ?_⟩⟩
  have st9 := st8.lpSet 0 rfl (rec .exhausted none)
  have st10 : StB B H0 _ (pDs [H1.size] :: pS tIk 3 a1 ks.length c1 ks :: pMW anyK kI nb mm :: pB 88 bx [.map (some nb)] :: pB 33 b2 [.slice a1 ks.length c1] :: rest) := st9.pickN 6 [5, 2, 3, 4, 1] (by decide)
  (conv => whnf); refine ld1 (v := .slice a1 ks.length c1) ct33 (by rw [(st10.blk 4 rfl).cell]; rfl) trivial ?_
  (conv => whnf)
  refine VRet.in_ (by simp) (st10.at_ 0 rfl) fun H'' ha hs => ?_
  have st11 := st10.dsOff ha hs
  (conv => whnf)
  exact ⟨ks, a1, c1, rfl, hnd, hin, st11.pickN 4 [0, 1, 2] (by decide)⟩
theorem sorted_srt {ks : List Int} (h : ks.Nodup) : (ks.mergeSort fun x y => decide (x ≤ y)).Pairwise (· < ·) := by
  have h1 : (ks.mergeSort fun x y => decide (x ≤ y)).Pairwise (· ≤ ·) := (List.pairwise_mergeSort (fun a b c h1 h2 => by simp only [decide_eq_true_eq] at *; omega) (fun a b => by simp only [Bool.or_eq_true, decide_eq_true_eq]; omega) _).imp fun h => of_decide_eq_true h
  have h2 : (ks.mergeSort fun x y => decide (x ≤ y)).Nodup := (List.mergeSort_perm _ _).nodup_iff.2 h
  exact (h1.and h2).imp fun ⟨h3, h4⟩ => by omega
set_option maxHeartbeats 4000000 in
/-- The keys in order, as a list of the call's own. -/
theorem sortedKeys_c {B : Nat → Prop} {H0 H : Heap} {nb bx : Nat} {mm : Int → Option Value} {rest : List Pc} (hr : ∀ q, Dom mm q → 0 ≤ q ∧ q < 65536)
    (st : StB B H0 H (pMW anyK kI nb mm :: pB 88 bx [.map (some nb)] :: rest)) :
    FnOk Tryd.prog 85 #[.func (.func 113) #[] #[.pointer (some ⟨bx, 0, none⟩)]] H fun r H' => ∃ ks a cap, r = .slice a ks.length cap ∧ ks.Pairwise (· < ·) ∧ (∀ q, q ∈ ks ↔ Dom mm q) ∧ StB B H0 H' (pS tIk 3 a ks.length cap ks :: pMW anyK kI nb mm :: pB 88 bx [.map (some nb)] :: rest) := by
  refine FnOk.of_vc Tryd.func85 rfl (Tryd.call85 _) ?_
  (conv => whnf); refine VCall.mk (R := fun r H' => ∃ ks a cap, r = .slice a ks.length cap ∧ ks.Nodup ∧ (∀ q, q ∈ ks ↔ Dom mm q) ∧ StB B H0 H' (pS tIk 3 a ks.length cap ks :: pMW anyK kI nb mm :: pB 88 bx [.map (some nb)] :: rest)) ?_ ?_
  · refine FnOk.of_vc Tryd.func112 rfl (Tryd.call112 _) ?_
    (conv => whnf); refine VCall.mk (appendSeq_c hr st) ?_
    rintro _ H1 ⟨ks, a, cap, rfl, h1, h2, h3⟩
    (conv => whnf)
    exact ⟨ks, a, cap, rfl, h1, h2, h3⟩
  · rintro _ H1 ⟨ks, a, cap, rfl, hnd, hin, st1⟩
    have hlen := nodupI_len 65536 ks hnd fun x hx => hr x ((hin x).1 hx)
    (conv => whnf); refine sortI sorts_ st1 0 rfl (by omega) fun H2 st2 => ?_
    (conv => whnf)
    have el : (ks.mergeSort fun x y => decide (x ≤ y)).length = ks.length := List.length_mergeSort _
    refine ⟨ks.mergeSort fun x y => decide (x ≤ y), a, cap, by rw [el], sorted_srt hnd, fun q => by rw [List.mem_mergeSort]; exact hin q, ?_⟩
    rw [el]
    exact st2
end Go.Proofs.YthomdogheamfpaaDoor
/- Tables and automata, in plain Lean. -/
set_option linter.unusedVariables false
set_option linter.unusedSimpArgs false
namespace Go.Proofs.YthomdogheamfpaaDoor

/-- The union of the cells, if no two meet. -/
def disjGo (all : BitVec 256) : List (BitVec 256) → Option (BitVec 256)
  | [] => some all
  | c :: cs => if all &&& c = 0#256 then disjGo (all ||| c) cs else none
theorem disjGo_append (all : BitVec 256) (cs ds : List (BitVec 256)) : disjGo all (cs ++ ds) = (disjGo all cs).bind fun x => disjGo x ds := by
  induction cs generalizing all with
  | nil => rfl
  | cons c cs ih =>
    simp only [List.cons_append, disjGo]
    split
    · exact ih _
    · rfl
theorem disjGo_snoc {all : BitVec 256} {cs : List (BitVec 256)} {x c : BitVec 256} (h : disjGo all cs = some x) : disjGo all (cs ++ [c]) = if x &&& c = 0#256 then some (x ||| c) else none := by
  rw [disjGo_append, h]; rfl
def rowOk (n m : Nat) (row : List Int) : Bool := row.length == m && row.all fun q => decide (0 ≤ q) && decide (q < (n : Int))
def soundB (cells : List (BitVec 256)) (next : List (List Int)) (fl : Nat) : Bool :=
  match disjGo 0#256 cells with
  | none => false
  | some all => all == BitVec.allOnes 256 && decide (1 ≤ next.length) && decide (next.length ≤ 65536) && next.length == fl && next.all (rowOk next.length cells.length)

theorem take_succ_snoc {α : Type} {l : List α} {k : Nat} {x : α} (h : l[k]? = some x) : l.take (k + 1) = l.take k ++ [x] := by
  rw [List.take_add_one, h]; rfl
theorem get_some {α : Type} {l : List α} {k : Nat} (h : k < l.length) : ∃ x, l[k]? = some x := ⟨l[k], List.getElem?_eq_getElem h⟩

/-! ### merging -/
def alikeB (next : List (List Int)) (c d : Nat) : Bool := c == d || next.all fun row => row[c]? == row[d]?
def cellOf (cells : List (BitVec 256)) (b : Nat) : Nat := cells.findIdx fun c => c.getLsbD b
structure MS where
  cols : List Nat
  sets : List (BitVec 256)
  cell : List Nat
def mFind (next : List (List Int)) (cols : List Nat) (f : Nat) : Option Nat := cols.findIdx? fun c => alikeB next c f
/-- The columns, the sets and the place, once there is a column for f. -/
def mNew (next : List (List Int)) (cols : List Nat) (sets : List (BitVec 256)) (f : Nat) : List Nat × List (BitVec 256) × Nat :=
  match mFind next cols f with
  | some i => (cols, sets, i)
  | none => (cols ++ [f], sets ++ [0#256], cols.length)
def mStep (next : List (List Int)) (cells : List (BitVec 256)) (st : MS) (b : Nat) (s : BitVec 256) : MS :=
  let r := mNew next st.cols st.sets (cellOf cells b)
  ⟨r.1, r.2.1.set r.2.2 (r.2.1.getD r.2.2 0#256 ||| s), st.cell ++ [r.2.2]⟩
def mRun (next : List (List Int)) (cells : List (BitVec 256)) (sp : Nat → BitVec 256) : Nat → MS
  | 0 => ⟨[], [], []⟩
  | b + 1 => mStep next cells (mRun next cells sp b) b (sp b)

theorem disjGo_bits {all : BitVec 256} {cs : List (BitVec 256)} {x : BitVec 256} (h : disjGo all cs = some x) (b : Nat) : x.getLsbD b = (all.getLsbD b || cs.any fun c => c.getLsbD b) := by
  induction cs generalizing all with
  | nil => simp only [disjGo, Option.some.injEq] at h; subst h; simp
  | cons c cs ih =>
    simp only [disjGo] at h
    split at h
    · rw [ih h, BitVec.getLsbD_or, List.any_cons, Bool.or_assoc]
    · cases h
theorem soundB_cells {cells : List (BitVec 256)} {next : List (List Int)} {fl : Nat} (h : soundB cells next fl = true) {b : Nat} (hb : b < 256) : cellOf cells b < cells.length ∧ ∀ c, cells[cellOf cells b]? = some c → c.getLsbD b = true := by
  unfold soundB at h
  split at h
  · cases h
  · rename_i all hall
    simp only [Bool.and_eq_true, beq_iff_eq] at h
    have h1 := disjGo_bits hall b
    rw [h.1.1.1.1, BitVec.getLsbD_allOnes] at h1
    simp only [hb, decide_true, BitVec.getLsbD_zero, Bool.false_or] at h1
    have h2 : cellOf cells b < cells.length := List.findIdx_lt_length.2 (by simpa using (List.any_eq_true.1 h1.symm))
    refine ⟨h2, fun c hc => ?_⟩
    have := List.findIdx_getElem (w := h2)
    rw [List.getElem?_eq_getElem h2] at hc
    cases hc
    exact this
theorem cellOf_before {cells : List (BitVec 256)} {b k : Nat} {c : BitVec 256} (hk : k < cellOf cells b) (hc : cells[k]? = some c) : c.getLsbD b = false := by
  have := List.not_of_lt_findIdx hk
  have hlt := (List.getElem?_eq_some_iff.1 hc).1
  rw [List.getElem?_eq_getElem hlt] at hc
  cases hc
  simpa using this
theorem soundB_rows {cells : List (BitVec 256)} {next : List (List Int)} {fl : Nat} (h : soundB cells next fl = true) : 1 ≤ next.length ∧ next.length ≤ 65536 ∧ next.length = fl ∧ ∀ row ∈ next, row.length = cells.length ∧ ∀ q ∈ row, 0 ≤ q ∧ q < (next.length : Int) := by
  unfold soundB at h
  split at h
  · cases h
  · simp only [Bool.and_eq_true, beq_iff_eq, decide_eq_true_eq, List.all_eq_true, rowOk] at h
    exact ⟨h.1.1.1.2, h.1.1.2, h.1.2, fun row hr => ⟨(h.2 row hr).1, fun q hq => (h.2 row hr).2 q hq⟩⟩

structure MOk (m b : Nat) (st : MS) : Prop where
  len : st.cols.length = st.sets.length
  le : st.cols.length ≤ b
  cell : st.cell.length = b
  cols : ∀ c ∈ st.cols, c < m
  places : ∀ p ∈ st.cell, p < st.cols.length
theorem mNew_ok {next : List (List Int)} {cols : List Nat} {sets : List (BitVec 256)} {f m b : Nat} (h1 : cols.length = sets.length) (h2 : cols.length ≤ b) (h3 : ∀ c ∈ cols, c < m) (hf : f < m) :
    (mNew next cols sets f).1.length = (mNew next cols sets f).2.1.length ∧ (mNew next cols sets f).1.length ≤ b + 1 ∧ (∀ c ∈ (mNew next cols sets f).1, c < m) ∧ (mNew next cols sets f).2.2 < (mNew next cols sets f).1.length ∧ cols.length ≤ (mNew next cols sets f).1.length := by
  unfold mNew
  split
  · rename_i i hi
    have hlt : i < cols.length := by
      have := List.findIdx?_eq_some_iff_findIdx_eq.1 hi
      exact this.1
    exact ⟨h1, Nat.le_succ_of_le h2, h3, hlt, Nat.le_refl _⟩
  · refine ⟨by simp [h1], by simpa using h2, ?_, by simp, by simp⟩
    intro c hc
    rcases List.mem_append.1 hc with h | h
    · exact h3 c h
    · rw [List.mem_singleton] at h; omega
theorem mRun_ok {next : List (List Int)} {cells : List (BitVec 256)} {sp : Nat → BitVec 256} (hc : ∀ b, b < 256 → cellOf cells b < cells.length) : ∀ b, b ≤ 256 → MOk cells.length b (mRun next cells sp b)
  | 0, _ => ⟨rfl, Nat.le_refl _, rfl, (fun c h => by cases h), (fun p h => by cases h)⟩
  | b + 1, hb => by
    have ih := mRun_ok (next := next) (sp := sp) hc b (by omega)
    have h := mNew_ok (next := next) ih.len ih.le ih.cols (hc b (by omega))
    unfold mRun mStep
    refine ⟨?_, h.2.1, ?_, h.2.2.1, ?_⟩
    · simp only [List.length_set]; exact h.1
    · simp [ih.cell]
    · intro p hp
      simp only [List.mem_append, List.mem_singleton] at hp
      rcases hp with hp | rfl
      · exact Nat.lt_of_lt_of_le (ih.places p hp) h.2.2.2.2
      · exact h.2.2.2.1

end Go.Proofs.YthomdogheamfpaaDoor
/- nfa.ways, nfa.settle: the walks. -/
set_option linter.unusedVariables false
set_option linter.unusedSimpArgs false
set_option maxRecDepth 100000
namespace Go.VC
/-- What a call has left as a piece. -/
theorem StB.addSt {B : Nat → Prop} {H0 H H' : Heap} {ps : List Pc} {p : Pc} (st : StB B H0 H ps) (st' : St H H' [p]) : StB B H0 H' (ps ++ [p]) :=
  st.add st'.old p (st'.at_ 0 rfl) fun k hk => ⟨st'.ge 0 rfl hk, (st'.in_ 0 rfl hk).2⟩
end Go.VC
namespace Go.Proofs.YthomdogheamfpaaDoor
open Go.VC
theorem mapEd : MapTW Tryd.prog 155 3 56 (.slice none 0 0) := ⟨rfl, rfl⟩
/-- The edges that leave q. -/
def outP (a : NfM) (q : Int) (e : EdM) : Bool := a.has e.fr && a.has e.to && decide (e.fr = q)
def outTo (a : NfM) (k : Nat) (q : Int) : List EdM := (a.edges.take k).filter (outP a q)
def outE (a : NfM) (q : Int) : List EdM := a.edges.filter (outP a q)
theorem outTo_all (a : NfM) : outTo a a.edges.length = outE a := by funext q; unfold outTo outE; rw [List.take_length]
theorem outTo_len (a : NfM) (k : Nat) (q : Int) : (outTo a k q).length ≤ k := Nat.le_trans (List.length_filter_le _ _) (List.length_take_le _ _)
theorem outTo_yes {a : NfM} {k : Nat} {e : EdM} (he : a.edges[k]? = some e) (h1 : a.has e.fr = true) (h2 : a.has e.to = true) : upd (outTo a k) e.fr (outTo a k e.fr ++ [e]) = outTo a (k + 1) := by
  funext q
  unfold outTo
  rw [take_succ_snoc he, List.filter_append]
  by_cases hq : q = e.fr
  · subst hq
    rw [upd_self]
    simp [outP, h1, h2]
  · rw [upd_ne hq]
    simp [outP, h1, h2, Ne.symm hq]
theorem outTo_no {a : NfM} {k : Nat} {e : EdM} (he : a.edges[k]? = some e) (h : (a.has e.fr && a.has e.to) = false) : outTo a k = outTo a (k + 1) := by
  funext q
  unfold outTo
  rw [take_succ_snoc he, List.filter_append]
  simp [outP, h]
theorem outE_mem {a : NfM} {q : Int} {e : EdM} : e ∈ outE a q ↔ e ∈ a.edges ∧ a.has e.fr = true ∧ a.has e.to = true ∧ e.fr = q := by
  unfold outE outP
  simp [List.mem_filter, and_assoc]
set_option maxHeartbeats 4000000 in
theorem ways_c {S : Nat → Prop} {H : Heap} {v : Value} {a : NfM} (hS : ∀ k, S k → k < H.size) (h : NfV S H v a) :
    FnOk Tryd.prog 82 #[v] H fun r H' => ∃ mb m, r = .map (some mb) ∧ St H H' [pMQ anyK kI tEd 75 mb m (outE a)] := by
  have hr := h.1
  have hl := h.2.1
  refine FnOk.of_vc Tryd.func82 rfl (Tryd.call82 _) ?_
  (conv => whnf); refine nf_box h fun ea ec he h1 => ?_
  subst he
  intro p H1 hp hs1 hb1 ha1
  have st1 := (St.nil H).box hp hs1 hb1 ha1
  (conv => whnf); refine mmakeW (Ok := anyK) (enc := kI) fun mb H2 hb2 hs2 hm2 ha2 => ?_
  have st2 := (st1.mapNewW hb2 hs2 hm2 ha2).mqNew (T := tEd) (e := 75) 1 rfl
  (conv => whnf); refine fa fl58_3 ?_
  (conv => whnf); refine ld1 (v := .slice ea a.edges.length ec) ct56 (by rw [(st2.blk 0 rfl).cell]; rfl) trivial ?_
  (conv => whnf)
  refine VLoop.mk [10] (fun k : Nat => [.int .i64 (k : Int)]) (fun k H5 => k ≤ a.edges.length ∧ ∃ m, St H H5 [pB 58 p (nfL a (.slice ea a.edges.length ec)), pMQ anyK kI tEd 75 mb m (outTo a k)]) (fun k _ => a.edges.length - k) ?_ ?_
  · (conv => whnf)
    exact ⟨0, rfl, Nat.zero_le _, _, st2⟩
  · rintro k H5 junk ⟨hk, m, st⟩
    (conv => whnf); refine VIte.mk (fun hz => ?_) (fun hz => ?_) <;> simp only [decide_eq_true_eq, decide_eq_false_iff_not] at hz
    · obtain ⟨e, he⟩ := get_some (l := a.edges) (k := k) (by omega)
      have hlen := outTo_len a k e.fr
      (conv => whnf); refine VSeq.run ?_
      (conv => whnf); refine ixr (i := k) sl56 (h1.frame (st.old.mono hS)) he rfl ?_
      rintro b6 o6 c6 hS6 hc6 ⟨rfl, hok⟩
      (conv => whnf); refine ldN (cs := edL e) ag75 hc6 trivial ?_
      (conv => whnf); refine valloc _ [.int .i64 0, .int .i64 0, .bool false, .int .u64 0, .int .u64 0, .int .u64 0, .int .u64 0] edge_z rfl ?_
      intro x H6 hx hs6 hb6 ha6
      have st6 := st.box hx hs6 hb6 ha6
      (conv => whnf); refine stNB (cs := edL e) st6 2 rfl rfl (Nat.le_refl _) rfl fun H7 st7 => ?_
      rw [splice_all (show (edL e).length = 7 from rfl)] at st7
      have hbx := st7.blk 2 rfl
      have h17 := h1.frame (st7.old.mono hS)
      (conv => whnf); refine nf_load hr hl (st7.blk 0 rfl) ag58 trivial h17 fun v8 hv8 => ?_
      (conv => whnf); refine fa fl75_0 ?_
      (conv => whnf); refine ld1 (v := .int .i64 e.fr) ct3 (by rw [hbx.cell]; rfl) trivial ?_
      (conv => whnf); refine pures (has_p hv8) fun H8 ha8 => ?_
      have st8 := st7.call ha8
      have skip : ∀ {H' : Heap}, (a.has e.fr && a.has e.to) = false → St H H' [pB 58 p (nfL a (.slice ea a.edges.length ec)), pMQ anyK kI tEd 75 mb m (outTo a k), pB 75 x (edL e)] →
          ∃ y : Nat, [Value.int .i64 ((k : Int) + 1)] = [.int .i64 (y : Int)] ∧ (y ≤ a.edges.length ∧ ∃ m, St H H' [pB 58 p (nfL a (.slice ea a.edges.length ec)), pMQ anyK kI tEd 75 mb m (outTo a y)]) ∧ a.edges.length - y < a.edges.length - k := fun hno st' =>
        ⟨k + 1, by simp, ⟨by omega, m, by rw [← outTo_no he hno]; exact st'.pick [0, 1] (by decide)⟩, by omega⟩
      cases hfr : a.has e.fr with
      | false =>
        (conv => whnf); rw [w64 (x := (k : Int) + 1) (by omega) (by omega)]
        exact ⟨rfl, skip (by rw [hfr]; rfl) st8⟩
      | true =>
        have hb8 := st8.blk 2 rfl
        have h18 := h1.frame (st8.old.mono hS)
        (conv => whnf); refine nf_load hr hl (st8.blk 0 rfl) ag58 trivial h18 fun v9 hv9 => ?_
        (conv => whnf); refine fa fl75_1 ?_
        (conv => whnf); refine ld1 (v := .int .i64 e.to) ct3 (by rw [hb8.cell]; rfl) trivial ?_
        (conv => whnf); refine pures (has_p hv9) fun H9 ha9 => ?_
        have st9 := st8.call ha9
        cases hto : a.has e.to with
        | false =>
          (conv => whnf); rw [w64 (x := (k : Int) + 1) (by omega) (by omega)]
          exact ⟨rfl, skip (by rw [hfr, hto]; rfl) st9⟩
        | true =>
          have hb9 := st9.blk 2 rfl
          obtain ⟨-, -, -, hself⟩ := st9.at_ 1 rfl
          have hbl : x < H9.size ∧ ¬ slB (slAt m e.fr) x := ⟨(st9.in_ 2 rfl rfl).2, fun hs => st9.apart2 (i := 1) (j := 2) rfl rfl (by decide) x (.inr ⟨e.fr, hs⟩) rfl⟩
          (conv => whnf); refine VDraw.heldZ (fun k => k < H9.size ∧ ¬ slB (slAt m e.fr) k) [10] (sq [0,1,2,3,4,5,6,7] (.f 8 (.f 9 (.f 10 .e)))) rfl (by kernel_rfl) ?_
          (conv => whnf); refine fa fl75_0 ?_
          (conv => whnf); refine ld1 (v := .int .i64 e.fr) ct3 (by rw [hb9.cell]; rfl) hbl ?_
          (conv => whnf); refine fa fl75_0 ?_
          (conv => whnf); refine ld1 (v := .int .i64 e.fr) ct3 (by rw [hb9.cell]; rfl) hbl ?_
          (conv => whnf); refine mlookW mapEd keyIW trivial (st9.mqMap 1 rfl) ⟨(st9.in_ 1 rfl (.inl rfl)).2, hself e.fr⟩ ?_
          (conv => whnf); refine ldN (cs := edL e) ag75 (hb9.cells fun j v hv => by rw [Nat.zero_add]; exact hv) hbl ?_
          (conv => whnf); refine vbuild1 sl56 (edL e) rfl rfl (by decide) (by decide) ?_
          intro y H10 hy hs10 hb10 ha10
          refine ⟨ha10.mono fun k hk => by have := hk.1; omega, ?_⟩
          have st10 := (st9.skip hy ha10).mqOut 1 rfl e.fr
          (conv => whnf); refine appQo (ys := [e]) st10 1 sl56 rfl (hb10.cells (o := 0) (cs := edL e) fun j v hv => by rw [Nat.zero_add]; exact hv) (Ty.reps_one ⟨rfl, hok⟩) rfl (fun u hu => List.all_eq_true.1 (ed_ones e) u hu) (by simp; unfold maxLen; omega) (by simp; omega) fun v11 H11 st11 ha11 => ?_
          refine ⟨(ha10.mono fun k hk => by have := hk.1; omega).trans (ha11.mono fun k hk => ⟨by have := hk.1; omega, hk.2⟩), ?_⟩
          (conv => whnf); refine mputQo st11 1 mapEd keyIW trivial rfl fun m' H12 st12 => ?_
          rw [outTo_yes he hfr hto] at st12
          (conv => whnf); rw [w64 (x := (k : Int) + 1) (by omega) (by omega)]
          exact ⟨rfl, k + 1, by simp, ⟨by omega, m', st12.pick [0, 1] (by decide)⟩, by omega⟩
    · obtain rfl : k = a.edges.length := by omega
      rw [outTo_all] at st
      (conv => whnf)
      exact ⟨mb, m, rfl, st.pick [1] (by decide)⟩
/-! ### settle -/
/-- The map of the edges, to be read. -/
structure FromV (B : Nat → Prop) (H0 : Heap) (mb : Nat) (a : NfM) : Prop where
  ex : ∃ m, MapW anyK kI H0 mb m ∧ ∀ q, ∃ ad cap, slAt m q = .slice ad (outE a q).length cap ∧ SlD tEd B H0 ad cap (outE a q)
  at_ : B mb
theorem FromV.ofSt {B : Nat → Prop} {H0 H : Heap} {ps : List Pc} {mb : Nat} {m : Int → Option Value} {a : NfM} (st : StB B H0 H ps) (i : Nat) (hp : ps[i]? = some (pMQ anyK kI tEd 75 mb m (outE a))) : FromV (Old H) H mb a :=
  ⟨⟨m, st.mqMap i hp, fun q => st.mqView i hp q⟩, (st.in_ i hp (.inl rfl)).2⟩
structure StlR (a : NfM) (X : PS) (q : Int) (Y : PS) : Prop where
  sub : ∀ p, X p → Y p
  own : Y q
  new : ∀ p, Y p → X p ∨ Sils a q p
  shut : ∀ p, Y p → ¬ X p → ∀ e ∈ a.edges, e.sil = true → e.fr = p → a.has e.to = true → Y e.to
open Classical in
noncomputable def mss (X : PS) : Nat := (lstS fun p => ¬ X p).length
theorem flt_le {p q : Int → Bool} : ∀ (l : List Int), (∀ x, p x = true → q x = true) → (l.filter p).length ≤ (l.filter q).length
  | [], _ => Nat.le_refl _
  | x :: l, h => by
    have ih := flt_le l h
    cases hp : p x with
    | true => rw [List.filter_cons_of_pos hp, List.filter_cons_of_pos (h x hp), List.length_cons, List.length_cons]; omega
    | false =>
      rw [List.filter_cons_of_neg (by rw [hp]; decide)]
      cases hq : q x with
      | true => rw [List.filter_cons_of_pos hq, List.length_cons]; omega
      | false => rw [List.filter_cons_of_neg (by rw [hq]; decide)]; exact ih
theorem flt_lt {p q : Int → Bool} {y : Int} : ∀ (l : List Int), (∀ x, p x = true → q x = true) → y ∈ l → p y = false → q y = true → (l.filter p).length < (l.filter q).length
  | [], _, hy, _, _ => by cases hy
  | x :: l, h, hy, h1, h2 => by
    have le := flt_le l h
    by_cases hxy : x = y
    · subst hxy
      rw [List.filter_cons_of_neg (by rw [h1]; decide), List.filter_cons_of_pos h2, List.length_cons]; omega
    · have hyl : y ∈ l := by
        rcases List.mem_cons.1 hy with e | e
        · exact absurd e.symm hxy
        · exact e
      have ih := flt_lt l h hyl h1 h2
      cases hp : p x with
      | true => rw [List.filter_cons_of_pos hp, List.filter_cons_of_pos (h x hp), List.length_cons, List.length_cons]; omega
      | false =>
        rw [List.filter_cons_of_neg (by rw [hp]; decide)]
        cases hq : q x with
        | true => rw [List.filter_cons_of_pos hq, List.length_cons]; omega
        | false => rw [List.filter_cons_of_neg (by rw [hq]; decide)]; exact ih
theorem mss_mono {X Y : PS} (h : ∀ p, X p → Y p) : mss Y ≤ mss X := by
  unfold mss lstS
  refine flt_le _ fun p hp => ?_
  simp only [decide_eq_true_eq] at hp ⊢
  exact fun hx => hp (h p hx)
theorem mss_lt {X Y : PS} {q : Int} (h : ∀ p, X p → Y p) (h0 : 0 ≤ q) (h1 : q < 65536) (hx : ¬ X q) (hy : Y q) : mss Y < mss X := by
  unfold mss lstS
  refine flt_lt (y := q) _ (fun p hp => ?_) (List.mem_map.2 ⟨q.toNat, List.mem_range.2 (by omega), by omega⟩) ?_ ?_
  · simp only [decide_eq_true_eq] at hp ⊢
    exact fun hx => hp (h p hx)
  · simp [hy]
  · simp [hx]
theorem dom_put {mm : Int → Option Value} {q : Int} {v : Value} (p : Int) : Dom (put mm q (some v)) p ↔ Dom mm p ∨ p = q := by
  unfold Dom
  by_cases h : p = q
  · subst h; rw [put_self]; simp
  · rw [put_ne h]; simp [h]
set_option maxHeartbeats 4000000 in
theorem settle_c {B : Nat → Prop} {H0 : Heap} {a : NfM} {mb : Nat} (hf : FromV B H0 mb a) (hst : a.st ≤ 65536) :
    ∀ (n : Nat) {H : Heap} {rest : List Pc} {nb : Nat} {mm : Int → Option Value} {q : Int} (st : StB B H0 H (pMW anyK kI nb mm :: rest)), a.has q = true → mss (Dom mm) < n →
      FnOk Tryd.prog 84 #[.map (some mb), .map (some nb), .int .i64 q] H fun _ H' => ∃ mm', StB B H0 H' (pMW anyK kI nb mm' :: rest) ∧ StlR a (Dom mm) q (Dom mm') := fun n => by
  induction n with
  | zero => intro H rest nb mm q st hq hn; omega
  | succ n ih =>
    intro H rest nb mm q st hq hn
    have hqr := NfM.has_iff.1 hq
    obtain ⟨m, hmap, hview⟩ := hf.ex
    obtain ⟨ad, cap, hsl, hd⟩ := hview q
    refine FnOk.of_vc Tryd.func84 rfl (Tryd.call84 _) ?_
    (conv => whnf); refine mlookOkW (a := q) mapII keyIW trivial (st.mapW 0 rfl) trivial ?_
    cases hmq : (mm q).isSome with
    | true =>
      (conv => whnf)
      exact ⟨mm, st, fun p hp => hp, hmq, fun p hp => .inl hp, fun p hp hn => absurd hp hn⟩
    | false =>
      have hnq : ¬ Dom mm q := by unfold Dom; rw [hmq]; decide
      (conv => whnf); refine mputPW (a := q) st 0 mapII keyIW trivial rfl rfl fun H1 st1 => ?_
      (conv => whnf); refine mlookW (a := q) (m := m) mapEd keyIW trivial (hmap.agr st1.old hf.at_) trivial ?_
      have e1 : (m q).getD (.slice none 0 0) = .slice ad (outE a q).length cap := hsl
      rw [e1]
      (conv => whnf)
      refine VLoop.mk [23] (fun k : Nat => [.int .i64 (k : Int)]) (fun k H5 => k ≤ (outE a q).length ∧ ∃ my, StB B H0 H5 (pMW anyK kI nb my :: rest) ∧ (∀ p, Dom mm p → Dom my p) ∧ Dom my q ∧ (∀ p, Dom my p → Dom mm p ∨ Sils a q p) ∧
        (∀ p, Dom my p → ¬ Dom mm p → p ≠ q → ∀ e ∈ a.edges, e.sil = true → e.fr = p → a.has e.to = true → Dom my e.to) ∧ ∀ e ∈ (outE a q).take k, e.sil = true → Dom my e.to) (fun k _ => (outE a q).length - k) ?_ ?_
      · (conv => whnf)
        refine ⟨0, rfl, Nat.zero_le _, _, st1, fun p hp => (dom_put p).2 (.inl hp), (dom_put q).2 (.inr rfl), fun p hp => ?_, fun p hp hno hpq => ?_, fun e he => by cases he⟩
        · rcases (dom_put p).1 hp with h | rfl
          · exact .inl h
          · exact .inr (.refl _)
        · rcases (dom_put p).1 hp with h | h
          · exact absurd h hno
          · exact absurd h hpq
      · rintro k H5 junk ⟨hk, my, st5, hsub, hown, hnew, hshut, hdone⟩
        have hd5 := hd.frame st5.old
        (conv => whnf); refine VIte.mk (fun hz => ?_) (fun hz => ?_) <;> simp only [decide_eq_true_eq, decide_eq_false_iff_not] at hz
        · obtain ⟨e, he⟩ := get_some (l := outE a q) (k := k) (by omega)
          obtain ⟨he1, he2, he3, he4⟩ := outE_mem.1 (List.mem_of_getElem? he)
          have hlen := hd5.le
          unfold maxLen at hlen
          (conv => whnf); refine VSeq.run ?_
          (conv => whnf); refine ixr (i := k) sl56 hd5 he rfl ?_
          rintro b6 o6 c6 hS6 hc6 ⟨rfl, hok⟩
          (conv => whnf); refine ldN (cs := edL e) ag75 hc6 trivial ?_
          (conv => whnf); refine valloc _ [.int .i64 0, .int .i64 0, .bool false, .int .u64 0, .int .u64 0, .int .u64 0, .int .u64 0] edge_z rfl ?_
          intro x H6 hx hs6 hb6 ha6
          have st6 : StB B H0 H6 (pB 75 x _ :: pMW anyK kI nb my :: rest) := (st5.box hx hs6 hb6 ha6).perm (List.perm_append_singleton _ _)
          (conv => whnf); refine stNB (cs := edL e) st6 0 rfl rfl (Nat.le_refl _) rfl fun H7 st7 => ?_
          rw [splice_all (show (edL e).length = 7 from rfl)] at st7
          have hbx := st7.blk 0 rfl
          have st7' : StB B H0 H7 (pMW anyK kI nb my :: rest) := st7.sub (List.sublist_cons_self _ _)
          (conv => whnf); refine fa fl75_2 ?_
          (conv => whnf); refine ld1 (v := .bool e.sil) ct4 (by rw [hbx.cell]; rfl) trivial ?_
          cases hes : e.sil with
          | false =>
            (conv => whnf); rw [w64 (x := (k : Int) + 1) (by omega) (by omega)]
            refine ⟨rfl, k + 1, by simp, ⟨by omega, my, st7', hsub, hown, hnew, hshut, fun e' he' hs' => ?_⟩, by omega⟩
            rw [take_succ_snoc he, List.mem_append, List.mem_singleton] at he'
            rcases he' with he' | rfl
            · exact hdone e' he' hs'
            · rw [hes] at hs'; cases hs'
          | true =>
            (conv => whnf); refine fa fl75_1 ?_
            (conv => whnf); refine ld1 (v := .int .i64 e.to) ct3 (by rw [hbx.cell]; rfl) trivial ?_
            have hlt : mss (Dom my) < n := by
              have := mss_lt hsub hqr.1 (by omega) hnq hown
              omega
            (conv => whnf); refine VCall.mk (ih st7' he3 hlt) ?_
            rintro _ H8 ⟨mz, st8, hz1⟩
            (conv => whnf); rw [w64 (x := (k : Int) + 1) (by omega) (by omega)]
            have hstep : Sils a q e.to := by
              have h0 : Sils a q e.fr := by rw [he4]; exact .refl q
              exact .step h0 he1 hes he3
            refine ⟨rfl, k + 1, by simp, ⟨by omega, mz, st8, fun p hp => hz1.sub p (hsub p hp), hz1.sub q hown, fun p hp => ?_, fun p hp hno hpq => ?_, fun e' he' hs' => ?_⟩, by omega⟩
            · rcases hz1.new p hp with h | h
              · exact hnew p h
              · exact .inr (hstep.trans h)
            · by_cases hy : Dom my p
              · exact fun e' h1 h2 h3 h4 => hz1.sub _ (hshut p hy hno hpq e' h1 h2 h3 h4)
              · exact hz1.shut p hp hy
            · rw [take_succ_snoc he, List.mem_append, List.mem_singleton] at he'
              rcases he' with he' | rfl
              · exact hz1.sub _ (hdone e' he' hs')
              · exact hz1.own
        · obtain rfl : k = (outE a q).length := by omega
          rw [List.take_length] at hdone
          (conv => whnf)
          refine ⟨my, st5, hsub, hown, hnew, fun p hp hno => ?_⟩
          by_cases hpq : p = q
          · subst hpq
            exact fun e h1 h2 h3 h4 => hdone e (outE_mem.2 ⟨h1, by rw [h3]; exact hq, h4, h3⟩) h2
          · exact hshut p hp hno hpq
end Go.Proofs.YthomdogheamfpaaDoor
