/- Parts of the proof: VMore, PIdx, PBits, MDfa, VMapX, PCls, VSplit, PShw1, PShw2, VPan, VDef, VList, PRd1, PPa1, PPa2, PPa3 -/
import Derived.Test.YtlnmhfhdjnenoaaGreatDoorKNq1
import Derived.MapKept
import Derived.Laws.BytesArg
import Derived.Laws.Cover1
import Derived.Shelf.Small.Strs
import Derived.Shelf.LaysM
import Derived.DeepKeys3
import Derived.Maps.RangeRun
import Derived.Recover
/- Maps of the call's own: what they hold; looking up, laying, striking. -/
set_option linter.unusedVariables false
set_option linter.unusedSimpArgs false
namespace Go.VC

structure MapT (P : Program) (t kt et : TypeId) (d : TypeDesc) (z : Value) : Prop where
  under : P.underlying t = some (.map kt et)
  key : P.underlying kt = some d
  zero : (P.info? et).bind (·.zero) = some z
structure KeyE (d : TypeDesc) {α : Type} (enc : α → Value) : Prop where
  isKey : ∀ a, Go.MapKept.IsKey d (enc a)
  inj : ∀ a b, enc a = enc b → a = b
theorem keyI (k : IntKind) : KeyE (.int k) (Value.int k) := ⟨fun _ => rfl, fun a b h => by cases h; rfl⟩

/-- The map in block b holds m. -/
def MapF {α : Type} (enc : α → Value) (H : Heap) (b : Nat) (m : α → Option Value) : Prop :=
  ∃ es clock, H[b]? = some (.map es clock) ∧ Go.MapKept.Stamped es clock ∧ (∀ (i : Nat) (x : MapEntry), es[i]? = some x → ∃ a, x.key = enc a ∧ m a = some x.val) ∧
    ∀ a v, m a = some v → ∃ (i : Nat) (x : MapEntry), es[i]? = some x ∧ x.key = enc a ∧ x.val = v
theorem MapF.agr {α : Type} {enc : α → Value} {H H' : Heap} {b : Nat} {m : α → Option Value} {S : Nat → Prop} (h : MapF enc H b m) (k : Agr S H H') (hb : S b) : MapF enc H' b m := by
  obtain ⟨es, clock, h1, h2⟩ := h
  exact ⟨es, clock, (k b hb).trans h1, h2⟩
/-- The stamp of a's entry. -/
def StampF {α : Type} (enc : α → Value) (H : Heap) (b : Nat) (a : α) (s : Nat) : Prop :=
  ∃ es clock, H[b]? = some (.map es clock) ∧ ∀ (i : Nat) (x : MapEntry), es[i]? = some x → (x.born = s ↔ x.key = enc a)
open Classical in
noncomputable def put {α : Type} (m : α → Option Value) (a : α) (v : Option Value) : α → Option Value := fun b => if b = a then v else m b
theorem put_self {α : Type} (m : α → Option Value) (a : α) (v : Option Value) : put m a v a = v := if_pos rfl
theorem put_ne {α : Type} {m : α → Option Value} {a b : α} {v : Option Value} (h : b ≠ a) : put m a v b = m b := if_neg h

section
variable {α : Type} {enc : α → Value} {P : Program} {t kt et : TypeId} {d : TypeDesc} {z : Value} {S : Nat → Prop} {H : Heap} {b : Nat} {m : α → Option Value} {a : α}
theorem stamped_key {es : Array MapEntry} {clock : Nat} (h : Go.MapKept.Stamped es clock) {i j : Nat} {x y : MapEntry} (hx : es[i]? = some x) (hy : es[j]? = some y) (e : x.key = y.key) : i = j := by
  have hn := h.2.2
  have hx' : (es.toList.map (·.key))[i]? = some x.key := by simp [hx]
  have hy' : (es.toList.map (·.key))[j]? = some x.key := by simp [hy, e]
  exact (List.getElem?_inj (List.getElem?_eq_some_iff.1 hx').1 hn).1 (hx'.trans hy'.symm)
theorem stamped_born {es : Array MapEntry} {clock : Nat} (h : Go.MapKept.Stamped es clock) {i j : Nat} {x y : MapEntry} (hx : es[i]? = some x) (hy : es[j]? = some y) (e : x.born = y.born) : i = j := by
  have hn := h.2.1
  have hx' : (es.toList.map (·.born))[i]? = some x.born := by simp [hx]
  have hy' : (es.toList.map (·.born))[j]? = some x.born := by simp [hy, e]
  exact (List.getElem?_inj (List.getElem?_eq_some_iff.1 hx').1 hn).1 (hx'.trans hy'.symm)
theorem zero_run (hz : (P.info? et).bind (·.zero) = some z) (w : World) : (zeroValue et).run P w = .ok z w := by
  cases hi : P.info? et with
  | none => rw [hi] at hz; cases hz
  | some i =>
    have hz' : i.zero = some z := by simpa [hi] using hz
    simp [zeroValue, typeInfo, hi, hz']
abbrev setW (w : World) (b : Nat) (o : Obj) : World := { w with heap := w.heap.setIfInBounds b o }
theorem set_turn {w : World} {o o' : Obj} (h : w.heap[b]? = some o) : (setW w b o').heap[b]? = some o' ∧ Agr (fun k => k ≠ b) w.heap (setW w b o').heap ∧ (setW w b o').heap.size = w.heap.size :=
  ⟨(Go.MapKept.heap_set h).1, fun k hk => (Go.MapKept.heap_set h).2 k hk, by simp⟩
theorem push_new {es : Array MapEntry} {clock : Nat} (hs : Go.MapKept.Stamped es clock) (h3 : ∀ (i : Nat) (x : MapEntry), es[i]? = some x → ∃ a, x.key = enc a ∧ m a = some x.val) (h4 : ∀ a v, m a = some v → ∃ (i : Nat) (x : MapEntry), es[i]? = some x ∧ x.key = enc a ∧ x.val = v) (hne : ∀ x ∈ es.toList, x.key ≠ enc a) {H' : Heap} {v : Value}
    (hb : H'[b]? = some (.map (es.push ⟨enc a, v, clock⟩) (clock + 1))) : MapF enc H' b (put m a (some v)) ∧ StampF enc H' b a clock := by
  have hgt : ∀ i x, (es.push ⟨enc a, v, clock⟩)[i]? = some x → (i < es.size ∧ es[i]? = some x) ∨ (i = es.size ∧ x = ⟨enc a, v, clock⟩) := by
    intro i x hx
    rw [Array.getElem?_push] at hx
    by_cases hi : i = es.size
    · rw [if_pos hi] at hx; exact .inr ⟨hi, by cases hx; rfl⟩
    · rw [if_neg hi] at hx; exact .inl ⟨(Array.getElem?_eq_some_iff.1 hx).1, hx⟩
  refine ⟨⟨_, _, hb, Go.MapKept.stamped_push hs hne, fun i x hx => ?_, fun a' v' hv => ?_⟩, _, _, hb, fun i x hx => ?_⟩
  · rcases hgt i x hx with ⟨_, hx⟩ | ⟨_, rfl⟩
    · obtain ⟨a', e1, e2⟩ := h3 i x hx
      have : a' ≠ a := fun h => hne x (List.mem_of_getElem? (by simpa using hx)) (by rw [e1, h])
      exact ⟨a', e1, by rw [put_ne this]; exact e2⟩
    · exact ⟨a, rfl, put_self _ _ _⟩
  · by_cases ha : a' = a
    · subst ha
      rw [put_self] at hv
      cases hv
      exact ⟨es.size, ⟨enc a', v, clock⟩, by simp, rfl, rfl⟩
    · rw [put_ne ha] at hv
      obtain ⟨i, x, hx, e⟩ := h4 a' v' hv
      exact ⟨i, x, by rw [Array.getElem?_push, if_neg (by have := (Array.getElem?_eq_some_iff.1 hx).1; omega)]; exact hx, e⟩
  · rcases hgt i x hx with ⟨_, hx⟩ | ⟨_, rfl⟩
    · have hmem : x ∈ es.toList := List.mem_of_getElem? (by simpa using hx)
      have := hs.1 x hmem
      exact ⟨fun h => by omega, fun h => absurd h (hne x hmem)⟩
    · simp
theorem mmake {K : Value → Heap → Prop} (k : ∀ b H', b = H.size → H'.size = b + 1 → MapF enc H' b (fun _ => none) → Agr (fun k => k < b) H H' → K (.map (some b)) H') : VEff P (Instr.makeMap t none) H K := by
  refine VEff.mk fun w hw => ?_
  subst hw
  exact ⟨_, w.alloc (.map #[] 0), by simp [Instr.makeMap], ⟨rfl, rfl, rfl⟩, k w.heap.size _ rfl (by rw [alloc_heap]; simp) ⟨#[], 0, by rw [alloc_heap]; simp, Go.MapKept.stamped_empty 0, by simp, by simp⟩ (heap_push_old _ _)⟩
end

end Go.VC

/- Maps of the call's own as1 pieces. -/
set_option linter.unusedVariables false
set_option linter.unusedSimpArgs false
namespace Go.VC
section
variable {α : Type} {enc : α → Value} {b : Nat} {m m' : α → Option Value} {B : Nat → Prop} {H0 H H' : Heap} {ps : List Pc}
end
end Go.VC

/- Maps of slices of the call's own; cutting a slice's head off. -/
set_option linter.unusedVariables false
set_option linter.unusedSimpArgs false
namespace Go.VC
open Classical in
noncomputable def upd {α β : Type} (f : α → β) (a : α) (v : β) : α → β := fun b => if b = a then v else f b
theorem upd_self {α β : Type} (f : α → β) (a : α) (v : β) : upd f a v a = v := if_pos rfl
theorem upd_ne {α β : Type} {f : α → β} {a b : α} {v : β} (h : b ≠ a) : upd f a v b = f b := if_neg h

/-- What the map holds at a, nil where it holds nothing. -/
def slAt {α : Type} (m : α → Option Value) (a : α) : Value := (m a).getD (.slice none 0 0)
theorem slAt_put {α : Type} (m : α → Option Value) (a : α) (v : Value) : slAt (put m a (some v)) a = v := by simp [slAt, put_self]
theorem slAt_ne {α : Type} {m : α → Option Value} {a b : α} {v : Option Value} (h : b ≠ a) : slAt (put m a v) b = slAt m b := by simp [slAt, put_ne h]
structure Qs {α β : Type} (enc : α → Value) (T : Ty β) (H : Heap) (lo : Nat) (e : TypeId) (mb : Nat) (m : α → Option Value) (xs : α → List β) : Prop where
  map : MapF enc H mb m
  lt : mb < lo
  own : ∀ k, SlO T (fun _ => False) H lo e (slAt m k) (xs k)
  apart : ∀ k k' b, k ≠ k' → slB (slAt m k) b → ¬ slB (slAt m k') b
section
variable {α β : Type} {enc : α → Value} {T : Ty β} {H H1 H2 : Heap} {lo mb : Nat} {e : TypeId} {m : α → Option Value} {xs : α → List β} {S' : Nat → Prop}
end

theorem text_beq (a b : ByteArray) : (a.toList == b.toList) = decide (a.data.toList = b.data.toList) := by
  rw [ByteArray.toList_eq, ByteArray.toList_eq]
  by_cases h : a.data.toList = b.data.toList
  · rw [decide_eq_true h, h]; simp
  · rw [decide_eq_false h]
    exact Bool.eq_false_iff.2 fun hh => h (by simpa using hh)
theorem text_inj {a b : ByteArray} (h : a.data.toList = b.data.toList) : a = b := by
  cases a; cases b; simp_all [Array.toList_inj]
theorem text_eq (a b : ByteArray) : (a.toList == b.toList) = true ↔ a = b := by
  rw [text_beq, decide_eq_true_eq]
  exact ⟨text_inj, fun h => by rw [h]⟩
end Go.VC

/- Slices of the call's own whose head is cut off and that are appended to: queues; bytes put together as1 texts. -/
set_option linter.unusedVariables false
set_option linter.unusedSimpArgs false
namespace Go.VC

section
variable {α : Type} {T : Ty α} {S S' : Nat → Prop} {H H' : Heap} {e : TypeId} {v : Value} {xs : List α}
end

/-! ### as1 pieces -/
section
variable {α : Type} {T : Ty α} {e : TypeId} {a : Option Addr} {n cap : Nat} {xs : List α} {B : Nat → Prop} {H0 H H' : Heap} {ps : List Pc}
end

/-! ### bytes and texts -/
end Go.VC

/- Regions whose order is open, once more: the last operations may change what the quiet ones have read. -/
set_option linter.unusedVariables false
set_option linter.unusedSimpArgs false
namespace Go.VC

/-- Operation j waits for i, if only by way of others. -/
def needsB (ops : Array Oper) : Nat → Nat → Nat → Bool
  | 0, _, _ => false
  | f + 1, j, i => match ops[j]? with
    | none => false
    | some o => o.after.toList.any fun e => Region.binds .any e && (Nat.beq e.on i || needsB ops f e.on i)
/-- What is listed has all that it waits for listed. -/
def Shut (ops : Array Oper) (listed : Array Bool) : Prop :=
  ∀ (j : Nat) (o : Oper), ops[j]? = some o → listed.getD j false = true → ∀ e ∈ o.after, Region.binds .any e = true → listed.getD e.on false = true
theorem Shut.chain {ops : Array Oper} {listed : Array Bool} (h : Shut ops listed) {i : Nat} : ∀ (f j : Nat), needsB ops f j i = true → (∀ (o : Oper), ops[j]? = some o → ∀ e ∈ o.after, Region.binds .any e = true → listed.getD e.on false = true) → listed.getD i false = true
  | 0, _, hn, _ => by simp [needsB] at hn
  | f + 1, j, hn, hd => by
    unfold needsB at hn
    split at hn
    · cases hn
    · rename_i o ho
      obtain ⟨e, he, hb⟩ := List.any_eq_true.1 hn
      simp only [Bool.and_eq_true, Bool.or_eq_true] at hb
      have hl := hd o ho e (by simpa using he) hb.1
      rcases hb.2 with h1 | h1
      · rw [← Nat.eq_of_beq_eq_true h1]; exact hl
      · exact h.chain f e.on h1 fun o' ho' e' he' hb' => h e.on o' ho' hl e' he' hb'
theorem Shut.not_ready {ops : Array Oper} {listed : Array Bool} (h : Shut ops listed) {i j f : Nat} (hn : needsB ops f j i = true) (hi : listed.getD i false = false) : j ∉ Region.ready .any ops listed := by
  intro hj
  obtain ⟨_, o, ho, hall⟩ := mem_ready.1 hj
  have := h.chain f j hn fun o' ho' e he hb => by rw [ho] at ho'; cases ho'; exact hall e he hb
  rw [hi] at this; cases this
theorem getD_put {l : Array Bool} {i k : Nat} (h : (l.setIfInBounds i true).getD k false = true) : k = i ∨ l.getD k false = true := by
  by_cases hk : k = i
  · exact .inl hk
  · rw [getD_set_ne false (Ne.symm hk)] at h; exact .inr h
theorem Shut.put {ops : Array Oper} {listed : Array Bool} (h : Shut ops listed) {j : Nat} (hj : j ∈ Region.ready .any ops listed) : Shut ops (listed.setIfInBounds j true) := by
  intro k o ho hk e he hb
  rcases getD_put hk with rfl | hk
  · obtain ⟨_, o', ho', hall⟩ := mem_ready.1 hj
    rw [ho] at ho'; cases ho'
    exact getD_set_true (hall e he hb)
  · exact getD_set_true (h k o ho hk e he hb)

/-- Whatever order is picked from here on, and S holds behind every operation but those of Z. -/
def wpAnyZ (P : Program) (ops : Array Oper) (Q : Exit → Act → World → Prop) (S : World → Prop) (Z : List Nat) : Nat → Array Bool → Act → World → Prop
  | 0, listed, a, w => Region.ready .any ops listed = [] ∧ Q .normal a w
  | fuel + 1, listed, a, w =>
    (Region.ready .any ops listed = [] → Q .normal a w) ∧
    ∀ i ∈ Region.ready .any ops listed, wpOp P ops Q i (fun a' w' => (Z.contains i = false → S w') ∧ wpAnyZ P ops Q S Z fuel (listed.setIfInBounds i true) a' w') a w
theorem wpAny_of_Z {P : Program} {ops : Array Oper} {Q : Exit → Act → World → Prop} {S : World → Prop} {Z : List Nat} : ∀ (fuel : Nat) (listed : Array Bool) (a : Act) (w : World),
    wpAnyZ P ops Q S Z fuel listed a w → wpAny P .any ops Q fuel listed a w
  | 0, _, _, _, h => h
  | fuel + 1, _, _, _, h => ⟨h.1, fun i hi => wpOp_mono (fun a' w' h' => wpAny_of_Z fuel _ a' w' h'.2) (h.2 i hi)⟩
theorem wpAnyZ_first {P : Program} {ops : Array Oper} {Q : Exit → Act → World → Prop} {S : World → Prop} {Z : List Nat} {i f : Nat} {oi : Oper} {v : Value} (hi : ops[i]? = some oi)
    (hsel : ∀ (j : Nat) (o : Oper) cs b, ops[j]? = some o → o.op ≠ .select cs b)
    (hQ : ∀ c a w, Q (.panic c) (a.put oi.dst v) w → Q (.panic c) a w) (hiz : Z.contains i = false) (hz : ∀ j, Z.contains j = true → needsB ops f j i = true) :
    ∀ (fuel : Nat) (listed : Array Bool) (a : Act) (w : World), Shut ops listed →
      (∀ j oj, ops[j]? = some oj → j ≠ i → listed.getD j true = false → (∀ e ∈ oj.after, Region.binds .any e = true → e.on ≠ i) → oi.apart ops oj = true) →
      i ∈ Region.ready .any ops listed → YieldsIf P ops S oi v a → S w →
      wpAnyZ P ops Q S Z fuel (listed.setIfInBounds i true) (a.put oi.dst v) w → wpAnyZ P ops Q S Z (fuel + 1) listed a w := by
  intro fuel
  induction fuel with
  | zero =>
    intro listed a w _ _ hr hy hS H
    refine ⟨fun h => (by rw [h] at hr; cases hr), fun j hj => ?_⟩
    by_cases hji : j = i
    · subst hji; exact hy.wpOp hi hS ⟨fun _ => hS, H⟩
    · have := ready_mono hj hji
      rw [H.1] at this
      cases this
  | succ fuel ih =>
    intro listed a w hsh hfree hr hy hS H
    refine ⟨fun h => (by rw [h] at hr; cases hr), fun j hj => ?_⟩
    by_cases hji : j = i
    · subst hji; exact hy.wpOp hi hS ⟨fun _ => hS, H⟩
    · have h1 := H.2 j (ready_mono hj hji)
      obtain ⟨hjun, oj, hoj, hall⟩ := mem_ready.1 hj
      have hun : listed.getD i false = false := by
        have h0 := (mem_ready.1 hr).1
        rcases Nat.lt_or_ge i listed.size with h' | h'
        · simp [h'] at h0 ⊢; exact h0
        · simp [Array.getElem?_eq_none h'] at h0
      have hnot : ∀ e ∈ oj.after, Region.binds .any e = true → e.on ≠ i := fun e he hb heq => by
        have h1 := hall e he hb
        rw [heq, hun] at h1; cases h1
      have hjz : Z.contains j = false := by
        cases hc : Z.contains j with
        | false => rfl
        | true => exact absurd hj (hsh.not_ready (hz j hc) hun)
      have h2 := wpOp_putIf hoj (hfree j oj hoj hji hjun hnot) (fun cs b => hsel i oi cs b hi) (fun cs b => hsel j oj cs b hoj) hQ hy h1
      have hfree' : ∀ k ok, ops[k]? = some ok → k ≠ i → (listed.setIfInBounds j true).getD k true = false →
          (∀ e ∈ ok.after, Region.binds .any e = true → e.on ≠ i) → oi.apart ops ok = true := fun k ok hk hki hun hno => by
        refine hfree k ok hk hki ?_ hno
        by_cases hjk : j = k
        · subst hjk; exact hjun
        · rw [getD_set_ne true hjk] at hun; exact hun
      refine wpOp_mono (fun a' w' h3 => ⟨fun _ => h3.2.1 hjz, ih (listed.setIfInBounds j true) a' w' (hsh.put hj) hfree' (ready_mono hr (Ne.symm hji)) h3.1 (h3.2.1 hjz) ?_⟩) h2
      rw [Array.setIfInBounds_comm _ _ hji]
      exact h3.2.2

/-- One operation of the order, carried out here. -/
def stepZ (P : Program) (S : Nat → Prop) (Z : List Nat) (H0 : Heap) (all : List Oper) (i : Nat) (fr : Fr) (H : Heap) (next : Fr → Heap → Prop) : Prop :=
  match all[i]? with
  | none => False
  | some o => match o.guard with
    | some _ => False
    | none => match Z.contains i with
      | true => opK P false (fun _ => True) o fr H fun v H' => putK o.dst fr v fun fr' => next fr' H'
      | false => opK P false (fun _ => True) o fr H fun v H' => Agr S H0 H' ∧ putK o.dst fr v fun fr' => next fr' H'
def heldZ (P : Program) (S : Nat → Prop) (Z : List Nat) (H0 : Heap) (all : List Oper) (s : Sch) : Fr → Heap → (Fr → Heap → Prop) → Prop :=
  Sch.rec (motive := fun _ => Fr → Heap → (Fr → Heap → Prop) → Prop) (fun fr H K => K fr H)
    (fun i _ ih fr H K => match all[i]? with
      | none => False
      | some o => match o.guard with
        | some _ => False
        | none => match isDet o && convDet P o with
          | true => detK P S o fr H fun v => putK o.dst fr v fun fr' => ih fr' H K
          | false => False)
    (fun i _ ih fr H K => stepZ P S Z H0 all i fr H fun fr' H' => ih fr' H' K)
    (fun i _ j _ ih ih' fr H K => (stepZ P S Z H0 all i fr H fun fr' H' => ih fr' H' K) ∧ stepZ P S Z H0 all j fr H fun fr' H' => ih' fr' H' K) s
theorem heldZ_q (P : Program) (S : Nat → Prop) (Z : List Nat) (H0 : Heap) (all : List Oper) (i : Nat) (s : Sch) (fr : Fr) (H : Heap) (K : Fr → Heap → Prop) : heldZ P S Z H0 all (.q i s) fr H K =
    (match all[i]? with
      | none => False
      | some o => match o.guard with
        | some _ => False
        | none => match isDet o && convDet P o with
          | true => detK P S o fr H fun v => putK o.dst fr v fun fr' => heldZ P S Z H0 all s fr' H K
          | false => False) := rfl
/-- Z comes behind all quiet ones; behind an operation of Z there is none. -/
def hasQ : Sch → Bool
  | .e => false
  | .q _ _ => true
  | .f _ s => hasQ s
  | .b _ s _ s' => hasQ s || hasQ s'
def zAll (Z : List Nat) : Sch → Bool
  | .e => true
  | .q _ _ => false
  | .f i s => Z.contains i && zAll Z s
  | .b i s j s' => Z.contains i && Z.contains j && zAll Z s && zAll Z s'
def heldBZ (ops : Array Oper) (Z : List Nat) : Sch → Array Bool → Bool
  | .e, listed => (Region.ready .any ops listed).isEmpty
  | .q i s, listed => (Region.ready .any ops listed).contains i && Region.free .any ops listed i && !(Z.contains i) && (Z.all fun z => needsB ops ops.size z i) && heldBZ ops Z s (listed.setIfInBounds i true)
  | .f i s, listed => Region.ready .any ops listed == [i] && (!(Z.contains i) || zAll Z s) && heldBZ ops Z s (listed.setIfInBounds i true)
  | .b i s j s', listed => Region.ready .any ops listed == [i, j] && ((!(Z.contains i) && !(Z.contains j)) || (zAll Z s && zAll Z s')) && heldBZ ops Z s (listed.setIfInBounds i true) && heldBZ ops Z s' (listed.setIfInBounds j true)
theorem stepZ_sound {P : Program} {S : Nat → Prop} {Z : List Nat} {w0 : World} {all : List Oper} {Q : Exit → Act → World → Prop} {i : Nat} {fr : Fr} {a : Act} {w : World} {next : Fr → Heap → Prop} {N : Act → World → Prop}
    (hat : At fr a) (hc : Env w0 w) (h : stepZ P S Z w0.heap all i fr w.heap next)
    (hn : ∀ fr' a' w', At fr' a' → Env w0 w' → (Z.contains i = false → Cls w0 S w') → next fr' w'.heap → N a' w') : wpOp P all.toArray Q i N a w := by
  unfold stepZ at h
  split at h
  · exact h.elim
  · rename_i o ho
    have ho' : all.toArray[i]? = some o := by simpa using ho
    split at h
    · exact h.elim
    · rename_i hg
      have hwant : Region.wanted o (yielded all.toArray a.tmps) = true := by simp [Region.wanted, hg]
      unfold wpOp
      rw [ho']
      dsimp only
      rw [if_pos hwant]
      split at h
      · rename_i hz
        refine .inl (Oper.wp_mono ?_ (opK_sound hat h _))
        rintro a' w' ⟨v, rfl, henv, hk⟩
        rw [putK_eq] at hk
        exact hn _ _ _ (hat.put o.dst v) (hc.trans henv) (fun hne => by rw [hz] at hne; cases hne) hk
      · refine .inl (Oper.wp_mono ?_ (opK_sound hat h _))
        rintro a' w' ⟨v, rfl, henv, hagr, hk⟩
        rw [putK_eq] at hk
        exact hn _ _ _ (hat.put o.dst v) (hc.trans henv) (fun _ => ⟨hc.trans henv, hagr⟩) hk
theorem heldZ_sound {P : Program} {S : Nat → Prop} {Z : List Nat} {w0 : World} {all : List Oper} {Q : Exit → Act → World → Prop} (hs : Region.noSelect all.toArray = true)
    (hp : ∀ c a w, ¬ Q (.panic c) a w) : ∀ (l : Sch) (listed : Array Bool) (fr : Fr) (a : Act) (w : World) (K : Fr → Heap → Prop), At fr a → Env w0 w → (zAll Z l = false → Cls w0 S w) → Shut all.toArray listed →
    (∀ fr' a' w', At fr' a' → Env w0 w' → K fr' w'.heap → Q .normal a' w') → heldBZ all.toArray Z l listed = true → l.even = true →
    heldZ P S Z w0.heap all l fr w.heap K → wpAnyZ P all.toArray Q (Cls w0 S) Z l.len listed a w
  | .e, listed, fr, a, w, K, hat, he, _, _, hq, hB, _, h => ⟨by simpa [heldBZ] using hB, hq fr a w hat he h⟩
  | .q i s, listed, fr, a, w, K, hat, he, hc, hsh, hq, hB, hev, h => by
    have hc := hc rfl
    simp only [heldBZ, Bool.and_eq_true, Bool.not_eq_true', List.all_eq_true] at hB
    obtain ⟨⟨⟨⟨b1, b2⟩, b3⟩, b4⟩, hB2⟩ := hB
    rw [heldZ_q] at h
    split at h
    · exact h.elim
    · rename_i o ho
      have ho' : all.toArray[i]? = some o := by simpa using ho
      have hri : i ∈ Region.ready .any all.toArray listed := by simpa using b1
      split at h
      · exact h.elim
      · rename_i hg
        have hwant : Region.wanted o (yielded all.toArray a.tmps) = true := by simp [Region.wanted, hg]
        split at h
        · obtain ⟨v, hv, hk⟩ := detK_sound h
          rw [putK_eq] at hk
          refine wpAnyZ_first (v := v) (f := all.toArray.size) ho' (Region.noSelect_spec hs) (fun c a' w' hh => (hp _ _ _ hh).elim) b3 (fun j hj => b4 j (by simpa using hj)) s.len listed a w hsh (Region.free_spec ho' b2) hri
            (.inl ⟨hwant, fun w' hw' => ?_⟩) hc ?_
          · rw [hat.evalF]
            exact hv w' fun k hk => (hw'.2 k hk).trans (hc.2 k hk).symm
          · exact heldZ_sound hs hp s _ _ _ w K (hat.put o.dst v) he (fun _ => hc) (hsh.put hri) hq hB2 hev hk
        · exact h.elim
  | .f i s, listed, fr, a, w, K, hat, he, hc, hsh, hq, hB, hev, h => by
    simp only [heldBZ, Bool.and_eq_true, Bool.or_eq_true, Bool.not_eq_true', beq_iff_eq] at hB
    obtain ⟨⟨b1, b2⟩, hB2⟩ := hB
    refine ⟨(fun h0 => by rw [b1] at h0; cases h0), fun j hj => ?_⟩
    have hj0 := hj
    rw [b1] at hj
    obtain rfl : j = i := by simpa using hj
    refine stepZ_sound hat he h fun fr' a' w' h1 h2 h3 h4 => ⟨h3, heldZ_sound hs hp s _ _ _ w' K h1 h2 (fun hz => ?_) (hsh.put hj0) hq hB2 hev h4⟩
    rcases b2 with b2 | b2
    · exact h3 b2
    · rw [b2] at hz; cases hz
  | .b i s j s', listed, fr, a, w, K, hat, he, hc, hsh, hq, hB, hev, h => by
    simp only [heldBZ, Bool.and_eq_true, Bool.or_eq_true, Bool.not_eq_true', beq_iff_eq] at hB
    obtain ⟨⟨⟨b1, b2⟩, hB2⟩, hB3⟩ := hB
    simp only [Sch.even, Bool.and_eq_true, beq_iff_eq] at hev
    obtain ⟨⟨e1, e2⟩, e3⟩ := hev
    refine ⟨(fun h0 => by rw [b1] at h0; cases h0), fun k hk => ?_⟩
    have hk0 := hk
    rw [b1] at hk
    rcases List.mem_cons.1 hk with rfl | hk
    · refine stepZ_sound hat he h.1 fun fr' a' w' h1 h2 h3 h4 => ⟨h3, heldZ_sound hs hp s _ _ _ w' K h1 h2 (fun hz => ?_) (hsh.put hk0) hq hB2 e1 h4⟩
      rcases b2 with b2 | b2
      · exact h3 b2.1
      · rw [b2.1] at hz; cases hz
    · obtain rfl : k = j := by simpa using hk
      rw [e3]
      refine stepZ_sound hat he h.2 fun fr' a' w' h1 h2 h3 h4 => ⟨h3, heldZ_sound hs hp s' _ _ _ w' K h1 h2 (fun hz => ?_) (hsh.put hk0) hq hB3 e2 h4⟩
      rcases b2 with b2 | b2
      · exact h3 b2.2
      · rw [b2.2] at hz; cases hz
theorem VDraw.heldZ {P : Program} {l : List Oper} {fr : Fr} {H : Heap} {K : Fr → Heap → Prop} (S : Nat → Prop) (Z : List Nat) (sched : Sch) (hm : P.follows .mixedOrders = true)
    (hB : (Region.noSelect l.toArray && (sched.len == l.length) && sched.even && heldBZ l.toArray Z sched (Array.replicate l.length false)) = true)
    (h : VC.heldZ P S Z H l sched fr H K) : VDraw P l fr H K := by
  refine ⟨?_⟩
  intro id Q a w hat hw hp hq
  subst hw
  simp only [Bool.and_eq_true, beq_iff_eq] at hB
  refine wp_region_any hm (wpAny_of_Z (S := Cls w S) (Z := Z) _ _ _ _ ?_)
  have hsh : Shut l.toArray (Array.replicate l.length false) := fun j o _ hj => by
    rw [Array.getD_eq_getD_getElem?, Array.getElem?_replicate] at hj
    split at hj <;> simp at hj
  have := heldZ_sound (P := P) (S := S) (Z := Z) (w0 := w) (Q := Q) hB.1.1.1 hp sched (Array.replicate l.length false) fr a { w with drawn := w.drawn + 1 } K hat ⟨rfl, rfl, rfl⟩ (fun _ => ⟨⟨rfl, rfl, rfl⟩, Agr.refl _ _⟩) hsh hq hB.2 hB.1.2 h
  rw [hB.1.1.2] at this
  simpa using this
end Go.VC

/- Tables of slices: rows laid fresh, elements written. -/
set_option linter.unusedVariables false
set_option linter.unusedSimpArgs false
namespace Go.VC
section
variable {α : Type} {T : Ty α} {B : Nat → Prop} {H0 H H1 : Heap} {ps : List Pc} {e te : TypeId} {nb : Nat} {vs : List Value} {xs : List (List α)}
end
end Go.VC
/- strings.IndexByte: the kit's shelf, laid by its tool. -/
set_option linter.unusedVariables false
set_option linter.unusedSimpArgs false
set_option maxRecDepth 100000
namespace Go.Proofs.YtlnmhfhdjnenoaaGreatDoor
open Go.Shelf Go.Proofs Go.VC
def lays137_ren : Go.Shelf.Ren := ⟨fun | 137 => 107 | 217 => 123 | 266 => 134 | n => n, fun | 9 => 9 | 5 => 5 | 3 => 3 | n => n, fun | n => n⟩
theorem lays137 : Go.Proofs.Lays.n137 Tryz.prog lays137_ren := {
  mixed := by kernel_rfl
  f137 := Tryz.func107.trans (congrArg some (by kernel_rfl))
  f217 := Tryz.func123.trans (congrArg some (by kernel_rfl))
  f266 := Tryz.func134.trans (congrArg some (by kernel_rfl))
  t3 := Tryz.underlying3
  a3 := Tryz.isAgg3
  z3 := Tryz.sizeOf3
  v3 := Tryz.zeroValue3
  t5 := Tryz.underlying5
  a5 := Tryz.isAgg5
  z5 := Tryz.sizeOf5
  v5 := Tryz.zeroValue5
  t9 := Tryz.underlying9
  a9 := Tryz.isAgg9
  z9 := Tryz.sizeOf9
  v9 := Tryz.zeroValue9 }
open Go.RowKit in
theorem strings_IndexByte (s : ByteArray) (c : Int) (w : World) :
    Calls Tryz.prog 107 #[.string s, .int .u8 c] w fun e w' => e = .returned (.int .i64 (Lib.indexByte s.data.toList c.toNat.toUInt8)) ∧ w' = w := Any.strings_IndexByte lays137 s c w
open Go.Lib in
theorem index_p (s : ByteArray) (c : Nat) (H : Heap) : Pure Tryz.prog 107 #[.string s, .int .u8 (c : Int)] H (.int .i64 (indexByte s.data.toList (UInt8.ofNat c))) := by
  intro w hw
  refine ⟨Tryz.call107 _ w, ?_⟩
  refine (strings_IndexByte s (c : Int) w).mono ?_
  rintro _ _ ⟨rfl, rfl⟩
  exact ⟨_, rfl, Env.refl _, rfl, by subst hw; exact Agr.refl _ _⟩
end Go.Proofs.YtlnmhfhdjnenoaaGreatDoor
/- class.Next, class.Count; words of bits. -/
set_option linter.unusedVariables false
set_option linter.unusedSimpArgs false
set_option maxRecDepth 100000
namespace Go.VC
theorem vmin_ {P : Program} {ats : Array TypeId} {t : TypeId} {k k' : IntKind} {a b : Int} {S : Nat → Prop} {H : Heap} {K : Value → Prop} (h : K (.int k (if b < a then b else a))) : VDet P (Builtin.min_ ats t [.int k a, .int k' b].toArray) S H K := by
  refine VDet.mk _ (fun w _ => ?_) h
  simp [Builtin.min_, Builtin.min2]
end Go.VC
namespace Go.Proofs.YtlnmhfhdjnenoaaGreatDoor
open Go.VC

/-! ### counting bits -/
def g1 (a : Nat) : Nat := ((a / 2) &&& 85) + (a &&& 85)
def g2 (a : Nat) : Nat := ((a / 4) &&& 51) + (a &&& 51)
/-! ### the least byte -/
end Go.Proofs.YtlnmhfhdjnenoaaGreatDoor
/- Tables and automata, in plain Lean. -/
set_option linter.unusedVariables false
set_option linter.unusedSimpArgs false
namespace Go.Proofs.YtlnmhfhdjnenoaaGreatDoor

theorem take_succ_snoc {α : Type} {l : List α} {k : Nat} {x : α} (h : l[k]? = some x) : l.take (k + 1) = l.take k ++ [x] := by
  rw [List.take_add_one, h]; rfl
theorem get_some {α : Type} {l : List α} {k : Nat} (h : k < l.length) : ∃ x, l[k]? = some x := ⟨l[k], List.getElem?_eq_getElem h⟩

/-! ### merging -/
structure MS where
  cols : List Nat
  sets : List (BitVec 256)
  cell : List Nat
structure MOk (m b : Nat) (st : MS) : Prop where
  len : st.cols.length = st.sets.length
  le : st.cols.length ≤ b
  cell : st.cell.length = b
  cols : ∀ c ∈ st.cols, c < m
  places : ∀ p ∈ st.cell, p < st.cols.length
end Go.Proofs.YtlnmhfhdjnenoaaGreatDoor
/- Maps of the call's own whose keys are arrays or structs; going through a map. -/
set_option linter.unusedVariables false
set_option linter.unusedSimpArgs false
namespace Go.VC
structure MapTW (P : Program) (t kt et : TypeId) (z : Value) : Prop where
  under : P.underlying t = some (.map kt et)
  zero : (P.info? et).bind (·.zero) = some z
/-- What the model asks of keys, of all that are Ok. -/
structure KeyW (P : Program) (kt : TypeId) {α : Type} (Ok : α → Prop) (enc : α → Value) : Prop where
  inj : ∀ a b, enc a = enc b → a = b
  check : ∀ (w : World) (em : Bool) (a : α), Ok a → (Instr.checkKey em 10000 kt (enc a)).run P w = .ok () w
  find : ∀ (w : World) (a : α), Ok a → ∀ es : List MapEntry, (∀ e ∈ es, ∃ b, Ok b ∧ e.key = enc b) →
    ((Instr.findKey kt (enc a) es).run P w = .ok none w ∧ ∀ e ∈ es, e.key ≠ enc a) ∨ ∃ j e, (Instr.findKey kt (enc a) es).run P w = .ok (some (j, e.val)) w ∧ es[j]? = some e ∧ e.key = enc a
  stays : ∀ (w : World) (a : α), Ok a → (Instr.keyThatStays (enc a) (enc a)).run P w = .ok (enc a) w
/-- The map in block b holds m, all of whose keys are Ok. -/
def MapW {α : Type} (Ok : α → Prop) (enc : α → Value) (H : Heap) (b : Nat) (m : α → Option Value) : Prop := MapF enc H b m ∧ ∀ a v, m a = some v → Ok a
def TurnW {α : Type} (Ok : α → Prop) (enc : α → Value) (H : Heap) (K : Heap → Prop) (b : Nat) (m : α → Option Value) : Prop :=
  ∀ H', MapW Ok enc H' b m → Agr (fun k => k ≠ b) H H' → H'.size = H.size → K H'
section
variable {α : Type} {Ok : α → Prop} {enc : α → Value} {P : Program} {t kt et : TypeId} {z : Value} {S : Nat → Prop} {H : Heap} {b : Nat} {m : α → Option Value} {a : α}
theorem MapW.agr {H' : Heap} (h : MapW Ok enc H b m) (k : Agr S H H') (hb : S b) : MapW Ok enc H' b m := ⟨h.1.agr k hb, h.2⟩
theorem put_ok (h : ∀ a v, m a = some v → Ok a) (ha : Ok a) (v : Value) : ∀ b u, put m a (some v) b = some u → Ok b := fun b u hb => by
  by_cases hba : b = a
  · rw [hba]; exact ha
  · rw [put_ne hba] at hb; exact h b u hb
theorem find_specW (hk : KeyW P kt Ok enc) (ha : Ok a) (hok : ∀ a v, m a = some v → Ok a) {es : Array MapEntry} (hes : ∀ (i : Nat) (x : MapEntry), es[i]? = some x → ∃ a, x.key = enc a ∧ m a = some x.val) (hm : ∀ a v, m a = some v → ∃ (i : Nat) (x : MapEntry), es[i]? = some x ∧ x.key = enc a ∧ x.val = v) (w : World) :
    ((Instr.findKey kt (enc a) es.toList).run P w = .ok none w ∧ m a = none ∧ ∀ x ∈ es.toList, x.key ≠ enc a) ∨ ∃ j e, (Instr.findKey kt (enc a) es.toList).run P w = .ok (some (j, e.val)) w ∧ es[j]? = some e ∧ e.key = enc a ∧ m a = some e.val := by
  have hall : ∀ x ∈ es.toList, ∃ b, Ok b ∧ x.key = enc b := fun x hx => by
    obtain ⟨i, hi⟩ := List.getElem?_of_mem hx
    obtain ⟨b, e1, e2⟩ := hes i x (by simpa using hi)
    exact ⟨b, hok b _ e2, e1⟩
  rcases hk.find w a ha es.toList hall with ⟨h1, h2⟩ | ⟨j, e, h1, h2, h3⟩
  · refine .inl ⟨h1, ?_, h2⟩
    cases hma : m a with
    | none => rfl
    | some v =>
      obtain ⟨i, x, hx, he, _⟩ := hm a v hma
      exact absurd he (h2 x (List.mem_of_getElem? (by simpa using hx)))
  · have hj : es[j]? = some e := by simpa using h2
    refine .inr ⟨j, e, h1, hj, h3, ?_⟩
    obtain ⟨a', e1, e2⟩ := hes j e hj
    rw [hk.inj a a' (h3.symm.trans e1)]; exact e2
theorem mlookW (ht : MapTW P t kt et z) (hk : KeyW P kt Ok enc) (ha : Ok a) (h : MapW Ok enc H b m) (hb : S b) {K : Value → Prop} (k : K ((m a).getD z)) : VDet P (Instr.lookup t (.map (some b)) (enc a) false) S H K := by
  obtain ⟨⟨es, clock, h1, h2, h3, h4⟩, hok⟩ := h
  refine VDet.mk _ (fun w hw => ?_) k
  have hb' := (hw b hb).trans h1
  rcases find_specW hk ha hok h3 h4 w with ⟨e1, e2, e3⟩ | ⟨j, e, e1, e2, e3, e4⟩
  · simp [Instr.lookup, run_underlying ht.under, Go.MapKept.run_getObj_map hb', hk.check w _ a ha, e1, zero_run ht.zero, e2]
  · simp [Instr.lookup, run_underlying ht.under, Go.MapKept.run_getObj_map hb', hk.check w _ a ha, e1, e4]
theorem mlookOkW (ht : MapTW P t kt et z) (hk : KeyW P kt Ok enc) (ha : Ok a) (h : MapW Ok enc H b m) (hb : S b) {K : Value → Prop} (k : K (.tuple #[(m a).getD z, .bool (m a).isSome])) : VDet P (Instr.lookup t (.map (some b)) (enc a) true) S H K := by
  obtain ⟨⟨es, clock, h1, h2, h3, h4⟩, hok⟩ := h
  refine VDet.mk _ (fun w hw => ?_) k
  have hb' := (hw b hb).trans h1
  rcases find_specW hk ha hok h3 h4 w with ⟨e1, e2, e3⟩ | ⟨j, e, e1, e2, e3, e4⟩
  · simp [Instr.lookup, run_underlying ht.under, Go.MapKept.run_getObj_map hb', hk.check w _ a ha, e1, zero_run ht.zero, e2]
  · simp [Instr.lookup, run_underlying ht.under, Go.MapKept.run_getObj_map hb', hk.check w _ a ha, e1, e4]
theorem modify_oldW (hinj : ∀ a b, enc a = enc b → a = b) {es : Array MapEntry} {clock : Nat} (hs : Go.MapKept.Stamped es clock) (h3 : ∀ (i : Nat) (x : MapEntry), es[i]? = some x → ∃ a, x.key = enc a ∧ m a = some x.val) (h4 : ∀ a v, m a = some v → ∃ (i : Nat) (x : MapEntry), es[i]? = some x ∧ x.key = enc a ∧ x.val = v) {j : Nat} {e : MapEntry} (hj : es[j]? = some e) (he : e.key = enc a) {f : MapEntry → MapEntry} {v : Value}
    (hf1 : (f e).key = enc a) (hf2 : (f e).val = v) (hf3 : ∀ x, (f x).born = x.born) {H' : Heap}
    (hb : H'[b]? = some (.map (es.modify j f) clock)) : MapF enc H' b (put m a (some v)) ∧ StampF enc H' b a e.born := by
  have hgt : ∀ i x, (es.modify j f)[i]? = some x → (i ≠ j ∧ es[i]? = some x) ∨ (i = j ∧ x = f e) := by
    intro i x hx
    rw [Array.getElem?_modify] at hx
    by_cases hi : j = i
    · subst hi; rw [if_pos rfl, hj] at hx; exact .inr ⟨rfl, by cases hx; rfl⟩
    · rw [if_neg hi] at hx; exact .inl ⟨Ne.symm hi, hx⟩
  refine ⟨⟨_, _, hb, Go.MapKept.stamped_modify hs _ _ (fun x _ => hf3 x) (fun x _ hx => ?_), fun i x hx => ?_, fun a' v' hv => ?_⟩, _, _, hb, fun i x hx => ?_⟩
  · rw [hj] at hx; cases hx; rw [hf1, he]
  · rcases hgt i x hx with ⟨hne, hx⟩ | ⟨_, rfl⟩
    · obtain ⟨a', e1, e2⟩ := h3 i x hx
      have : a' ≠ a := fun h => hne (stamped_key hs hx hj (by rw [e1, h, he]))
      exact ⟨a', e1, by rw [put_ne this]; exact e2⟩
    · exact ⟨a, hf1, by rw [put_self, hf2]⟩
  · by_cases ha : a' = a
    · subst ha
      rw [put_self] at hv
      cases hv
      exact ⟨j, f e, by rw [Array.getElem?_modify, if_pos rfl, hj]; rfl, hf1, hf2⟩
    · rw [put_ne ha] at hv
      obtain ⟨i, x, hx, e1, e2⟩ := h4 a' v' hv
      refine ⟨i, x, ?_, e1, e2⟩
      rw [Array.getElem?_modify, if_neg ?_]
      · exact hx
      · rintro rfl
        rw [hj] at hx; cases hx
        exact ha (hinj _ _ (e1.symm.trans he))
  · rcases hgt i x hx with ⟨hne, hx⟩ | ⟨_, rfl⟩
    · exact ⟨fun h => absurd (stamped_born hs hx hj h) hne, fun h => absurd (stamped_key hs hx hj (h.trans he.symm)) hne⟩
    · exact ⟨fun _ => hf1, fun _ => hf3 e⟩
theorem mputW (ht : MapTW P t kt et z) (hk : KeyW P kt Ok enc) (ha : Ok a) (h : MapW Ok enc H b m) {v : Value} {K : Heap → Prop} (k : TurnW Ok enc H K b (put m a (some v))) : VEffU P (Instr.mapUpdate t (.map (some b)) (enc a) v) H K := by
  obtain ⟨⟨es, clock, h1, h2, h3, h4⟩, hok⟩ := h
  refine VEffU.mk fun w hw => ?_
  subst hw
  rcases find_specW hk ha hok h3 h4 w with ⟨e1, e2, e3⟩ | ⟨j, e, e1, e2, e3, e4⟩
  · obtain ⟨t1, t2, t3⟩ := set_turn (o' := .map (es.push ⟨enc a, v, clock⟩) (clock + 1)) h1
    exact ⟨setW w b (.map (es.push ⟨enc a, v, clock⟩) (clock + 1)), by simp [Instr.mapUpdate, run_underlying ht.under, Go.MapKept.run_getObj_map h1, hk.check w _ a ha, e1, Go.MapKept.run_setObj_map _ h1], ⟨rfl, rfl, rfl⟩, k _ ⟨(push_new h2 h3 h4 e3 t1).1, put_ok hok ha v⟩ t2 t3⟩
  · obtain ⟨t1, t2, t3⟩ := set_turn (o' := .map (es.modify j fun e => { e with key := enc a, val := v }) clock) h1
    exact ⟨setW w b (.map (es.modify j fun e => { e with key := enc a, val := v }) clock), by simp [Instr.mapUpdate, run_underlying ht.under, Go.MapKept.run_getObj_map h1, hk.check w _ a ha, e1, Go.MapKept.run_setObj_map _ h1, e2, e3, hk.stays w a ha], ⟨rfl, rfl, rfl⟩, k _ ⟨(modify_oldW hk.inj h2 h3 h4 e2 e3 (f := fun e => { e with key := enc a, val := v }) rfl rfl (fun _ => rfl) t1).1, put_ok hok ha v⟩ t2 t3⟩
theorem mmakeW {K : Value → Heap → Prop} (k : ∀ b H', b = H.size → H'.size = b + 1 → MapW Ok enc H' b (fun _ => none) → Agr (fun k => k < b) H H' → K (.map (some b)) H') : VEff P (Instr.makeMap t none) H K :=
  mmake fun b H' h1 h2 h3 h4 => k b H' h1 h2 ⟨h3, fun a v h => by cases h⟩ h4
end
end Go.VC

/- Going through a map of the call's own; wide-keyed maps and loops over them as1 pieces. -/
set_option linter.unusedVariables false
set_option linter.unusedSimpArgs false
namespace Go.VC
/-- The map in block b holds m, and is gone through by the iterator in block r: D have come, `last` the last of them; n are still to come. -/
def IterW {α : Type} (Ok : α → Prop) (enc : α → Value) (H : Heap) (b r : Nat) (m : α → Option Value) (D : α → Prop) (last : Option α) (n : Nat) : Prop :=
  (∃ es clock seen, H[b]? = some (.map es clock) ∧ Go.MapKept.Stamped es clock ∧ (∀ (i : Nat) (x : MapEntry), es[i]? = some x → ∃ a, x.key = enc a ∧ m a = some x.val) ∧
    (∀ a v, m a = some v → ∃ (i : Nat) (x : MapEntry), es[i]? = some x ∧ x.key = enc a ∧ x.val = v) ∧ H[r]? = some (.mapIter (some b) clock seen clock) ∧
    (∀ (i : Nat) (x : MapEntry) (a : α), es[i]? = some x → x.key = enc a → (seen.contains x.born = true ↔ D a)) ∧ n = (leftOf es seen).size ∧
    ∀ a, last = some a → ∃ (e : MapEntry) (s0 : Array Nat), e ∈ es.toList ∧ e.key = enc a ∧ seen = s0.push e.born) ∧ (∀ a v, m a = some v → Ok a)
section
variable {α : Type} {Ok : α → Prop} {enc : α → Value} {P : Program} {t kt et : TypeId} {z : Value} {S : Nat → Prop} {H : Heap} {b r n : Nat} {m : α → Option Value} {D : α → Prop} {last : Option α}
theorem IterW.agr {H' : Heap} (h : IterW Ok enc H b r m D last n) (k : Agr S H H') (hb : S b) (hr : S r) : IterW Ok enc H' b r m D last n := by
  obtain ⟨⟨es, clock, seen, h1, h2, h3, h4, h5, h6⟩, h7⟩ := h
  exact ⟨⟨es, clock, seen, (k b hb).trans h1, h2, h3, h4, (k r hr).trans h5, h6⟩, h7⟩
theorem IterW.map (h : IterW Ok enc H b r m D last n) : MapW Ok enc H b m := by
  obtain ⟨⟨es, clock, seen, h1, h2, h3, h4, h5, h6⟩, h7⟩ := h
  exact ⟨⟨es, clock, h1, h2, h3, h4⟩, h7⟩
theorem left_push (es : Array MapEntry) (seen : Array Nat) {e : MapEntry} (he : e ∈ (leftOf es seen).toList) : (leftOf es (seen.push e.born)).size < (leftOf es seen).size := by
  have h1 : leftOf es (seen.push e.born) = (leftOf es seen).filter fun x => !(x.born == e.born) := by
    unfold leftOf
    rw [Array.filter_filter]
    congr 1
    funext x
    rw [Array.contains_push]
    cases h1 : seen.contains x.born <;> cases h2 : x.born == e.born <;> simp_all
  have h2 : ((leftOf es seen).filter fun x => !(x.born == e.born)).size = ((leftOf es seen).toList.filter fun x => !(x.born == e.born)).length := by rw [← Array.toList_filter, Array.length_toList]
  rw [h1, h2, ← Array.length_toList]
  exact List.length_filter_lt_length_iff_exists.2 ⟨e, he, by simp⟩
theorem mrange (ht : MapTW P t kt et z) (h : MapW Ok enc H b m) {K : Value → Heap → Prop}
    (k : ∀ r n H', r = H.size → H'.size = r + 1 → IterW Ok enc H' b r m (fun _ => False) none n → Agr (fun k => k < H.size) H H' → K (.pointer (some ⟨r, 0, none⟩)) H') : VEff P (Instr.range t (.map (some b))) H K := by
  obtain ⟨⟨es, clock, h1, h2, h3, h4⟩, hok⟩ := h
  refine VEff.mk fun w hw => ?_
  subst hw
  have hbl : b < w.heap.size := (Array.getElem?_eq_some_iff.1 h1).1
  refine ⟨_, w.alloc (.mapIter (some b) clock #[] clock), by simp [Instr.range, run_underlying ht.under, Go.MapKept.run_getObj_map h1], ⟨rfl, rfl, rfl⟩, k w.heap.size (leftOf es #[]).size _ rfl (by rw [alloc_heap]; simp) ⟨⟨es, clock, #[], ?_, h2, h3, h4, by rw [alloc_heap]; simp, fun i x a hx hk => by simp, rfl, fun a h => by cases h⟩, hok⟩ (heap_push_old _ _)⟩
  rw [alloc_heap, Array.getElem?_push, if_neg (by omega)]; exact h1
theorem mnext {ty : TypeId} (hi : ∀ a b, enc a = enc b → a = b) (h : IterW Ok enc H b r m D last n) {K : Value → Heap → Prop} (k0 : (∀ a, (m a).isSome = true → D a) → K (.tuple #[.bool false]) H)
    (k1 : ∀ a v H' n', m a = some v → ¬ D a → n' < n → IterW Ok enc H' b r m (fun x => D x ∨ x = a) (some a) n' → Agr (fun k => k ≠ r) H H' → H'.size = H.size → K (.tuple #[.bool true, enc a, v]) H') : VEff P (Instr.next (.pointer (some ⟨r, 0, none⟩)) false ty) H K := by
  obtain ⟨⟨es, clock, seen, h1, h2, h3, h4, h5, h6, h7, h8⟩, hok⟩ := h
  refine VEff.mk fun w hw => ?_
  subst hw
  have hbr : b ≠ r := by
    rintro rfl
    rw [h1] at h5; cases h5
  have hml : ∀ x, x ∈ (leftOf es seen).toList ↔ x ∈ es.toList ∧ seen.contains x.born = false := fun x => by
    unfold leftOf
    rw [Array.toList_filter, List.mem_filter, Bool.not_eq_true']
  rcases run_next_at (P := P) w ty r b clock clock seen es clock h5 h1 h2.1 (Nat.le_refl _) with ⟨e1, e2⟩ | ⟨e, he, w1, hw1, e2⟩
  · refine ⟨_, w, e2, Env.refl w, k0 fun a ha => ?_⟩
    obtain ⟨v, hv⟩ := Option.isSome_iff_exists.1 ha
    obtain ⟨i, x, hx, hk, -⟩ := h4 a v hv
    refine (h6 i x a hx hk).1 ?_
    cases hs : seen.contains x.born with
    | true => rfl
    | false =>
      have := (hml x).2 ⟨List.mem_of_getElem? (i := i) (by simpa using hx), hs⟩
      have h0 : (leftOf es seen).toList = [] := List.eq_nil_of_length_eq_zero (by rw [Array.length_toList]; exact e1)
      rw [h0] at this; cases this
  · obtain ⟨he1, he2⟩ := (hml e).1 he
    obtain ⟨j, hj⟩ := List.getElem?_of_mem he1
    have hj' : es[j]? = some e := by simpa using hj
    obtain ⟨a, hka, hma⟩ := h3 j e hj'
    have hnD : ¬ D a := fun hd => by
      rw [(h6 j e a hj' hka).2 hd] at he2; cases he2
    have hw1h : w1.heap = w.heap := by rcases hw1 with rfl | rfl <;> rfl
    have hw1e : Env w w1 := by rcases hw1 with rfl | rfl <;> exact ⟨rfl, rfl, rfl⟩
    have hrl : r < w.heap.size := (Array.getElem?_eq_some_iff.1 h5).1
    have hset : (Go.ChangeMaps.setBlock w1 r (.mapIter (some b) clock (seen.push e.born) clock)).heap = w.heap.setIfInBounds r (.mapIter (some b) clock (seen.push e.born) clock) := by
      show w1.heap.setIfInBounds r _ = _
      rw [hw1h]
    refine ⟨_, _, e2, ⟨hw1e.os, hw1e.tape, hw1e.output⟩, ?_⟩
    rw [hka]
    refine k1 a e.val _ _ hma hnD (h7 ▸ left_push es seen he) ⟨⟨es, clock, seen.push e.born, ?_, h2, h3, h4, ?_, fun i x a' hx hk => ?_, rfl, fun a' ha' => ?_⟩, hok⟩ ?_ ?_
    · rw [hset, Array.getElem?_setIfInBounds_ne (Ne.symm hbr)]; exact h1
    · rw [hset, Array.getElem?_setIfInBounds_self_of_lt hrl]
    · rw [Array.contains_push, Bool.or_eq_true, h6 i x a' hx hk, beq_iff_eq]
      refine or_congr Iff.rfl ⟨fun hb => ?_, fun ha' => ?_⟩
      · obtain rfl := stamped_born h2 hx hj' hb
        rw [hj'] at hx; cases hx
        exact hi _ _ (hk.symm.trans hka)
      · subst ha'
        obtain rfl := stamped_key h2 hx hj' (hk.trans hka.symm)
        rw [hj'] at hx; cases hx; rfl
    · cases ha'
      exact ⟨e, seen, he1, hka, rfl⟩
    · rw [hset]
      exact fun k hk => Array.getElem?_setIfInBounds_ne (Ne.symm hk)
    · rw [hset]; simp
theorem mhere {a : α} {v : Value} (h : IterW Ok enc H b r m D (some a) n) (hi : ∀ a b, enc a = enc b → a = b) (hv : m a = some v) {K : Value → Heap → Prop} (k : K (.tuple #[enc a, v]) H) : VEff P (Instr.entry (.pointer (some ⟨r, 0, none⟩))) H K := by
  obtain ⟨⟨es, clock, seen, h1, h2, h3, h4, h5, h6, h7, h8⟩, hok⟩ := h
  obtain ⟨e, s0, he, hk, rfl⟩ := h8 a rfl
  refine VEff.mk fun w hw => ?_
  subst hw
  obtain ⟨i, x, hx, hkx, hvx⟩ := h4 a v hv
  obtain ⟨j, hj⟩ := List.getElem?_of_mem he
  have hj' : es[j]? = some e := by simpa using hj
  obtain rfl := stamped_key h2 hx hj' (hkx.trans hk.symm)
  rw [hj'] at hx; cases hx
  refine ⟨_, w, run_entry_at w r b clock s0 es clock e h5 h1 he h2.2.1, Env.refl w, ?_⟩
  rw [hk, hvx]; exact k
end

/-! ### as1 pieces -/
section
variable {α : Type} {Ok : α → Prop} {enc : α → Value} {b r n : Nat} {m m' : α → Option Value} {D : α → Prop} {last : Option α} {B : Nat → Prop} {H0 H H' : Heap} {ps : List Pc} {P : Program} {t kt et : TypeId} {z : Value}
def pMW (Ok : α → Prop) (enc : α → Value) (b : Nat) (m : α → Option Value) : Pc := ⟨fun k => k = b, fun H => MapW Ok enc H b m, fun h hp => hp.agr h rfl⟩
def pIW (Ok : α → Prop) (enc : α → Value) (b r : Nat) (m : α → Option Value) (D : α → Prop) (last : Option α) (n : Nat) : Pc := ⟨fun k => k = b ∨ k = r, fun H => IterW Ok enc H b r m D last n, fun h hp => hp.agr h (.inl rfl) (.inr rfl)⟩
theorem StB.mapW (st : StB B H0 H ps) (i : Nat) (hp : ps[i]? = some (pMW Ok enc b m)) : MapW Ok enc H b m := st.at_ i hp
theorem StB.iterW (st : StB B H0 H ps) (i : Nat) (hp : ps[i]? = some (pIW Ok enc b r m D last n)) : IterW Ok enc H b r m D last n := st.at_ i hp
theorem StB.mapNewW (st : StB B H0 H ps) (hb : b = H.size) (hs : H'.size = b + 1) (hm : MapW Ok enc H' b (fun _ => none)) (ha : Agr (fun k => k < b) H H') : StB B H0 H' (ps ++ [pMW Ok enc b fun _ => none]) := by
  subst hb
  exact st.add (ha.mono fun k hk => hk) _ hm fun k hk => by have : k = H.size := hk; omega
theorem mputPW {v : Value} {a : α} {K : Heap → Prop} (st : StB B H0 H ps) (i : Nat) (ht : MapTW P t kt et z) (hk : KeyW P kt Ok enc) (ha : Ok a) (hp : ps[i]? = some (pMW Ok enc b m)) (hm : put m a (some v) = m')
    (k : ∀ H', StB B H0 H' (ps.set i (pMW Ok enc b m')) → K H') : VEffU P (Instr.mapUpdate t (.map (some b)) (enc a) v) H K := by
  refine mputW ht hk ha (st.mapW i hp) ?_
  intro H' hb' ha' hs'
  subst hm
  exact k H' (st.upd i hp (ha'.mono fun k hk hkb => hk.2 hkb) _ hb' (fun k hk => .inl hk) (fun k hk => by rw [hs']; exact (st.in_ i hp hk).2) (by omega))
theorem mrangeP {K : Value → Heap → Prop} (st : StB B H0 H ps) (i : Nat) (ht : MapTW P t kt et z) (hp : ps[i]? = some (pMW Ok enc b m))
    (k : ∀ r n H', StB B H0 H' (ps.set i (pIW Ok enc b r m (fun _ => False) none n)) → K (.pointer (some ⟨r, 0, none⟩)) H') : VEff P (Instr.range t (.map (some b))) H K := by
  refine mrange ht (st.mapW i hp) fun r n H' hr hs hi ha => ?_
  subst hr
  have hbl := (st.in_ i hp (k := b) rfl).2
  refine k _ n H' (st.upd i hp (ha.mono fun k hk => hk.1) _ hi (fun k hk => ?_) (fun k hk => ?_) (by omega))
  · rcases hk with hk | hk
    · exact .inl hk
    · exact .inr (by omega)
  · rcases hk with rfl | rfl <;> omega
theorem mnextP {ty : TypeId} {K : Value → Heap → Prop} (st : StB B H0 H ps) (i : Nat) (hi : ∀ a b, enc a = enc b → a = b) (hp : ps[i]? = some (pIW Ok enc b r m D last n)) (k0 : (∀ a, (m a).isSome = true → D a) → K (.tuple #[.bool false]) H)
    (k1 : ∀ a v H' n', m a = some v → ¬ D a → n' < n → StB B H0 H' (ps.set i (pIW Ok enc b r m (fun x => D x ∨ x = a) (some a) n')) → K (.tuple #[.bool true, enc a, v]) H') : VEff P (Instr.next (.pointer (some ⟨r, 0, none⟩)) false ty) H K := by
  refine mnext hi (st.iterW i hp) k0 fun a v H' n' h1 h2 h3 h4 h5 h6 => k1 a v H' n' h1 h2 h3 (st.upd i hp (h5.mono fun k hk hkr => hk.2 (.inr hkr)) _ h4 (fun k hk => .inl hk) (fun k hk => by rw [h6]; exact (st.in_ i hp hk).2) (by omega))
/-- A loop over a map has ended. -/
theorem StB.iterEnd (st : StB B H0 H ps) (i : Nat) (hp : ps[i]? = some (pIW Ok enc b r m D last n)) : StB B H0 H (ps.set i (pMW Ok enc b m)) :=
  st.upd i hp (Agr.refl _ _) _ (st.iterW i hp).map (fun k hk => .inl (.inl hk)) (fun k hk => (st.in_ i hp (.inl hk)).2) (Nat.le_refl _)
end
end Go.VC

/- Appending to own slices without a bound but the model's; maps of slices with wide keys as1 pieces. -/
set_option linter.unusedVariables false
set_option linter.unusedSimpArgs false
namespace Go.VC
section
variable {α : Type} {T : Ty α} {e : TypeId} {a : Option Addr} {n cap : Nat} {xs : List α} {B : Nat → Prop} {H0 H : Heap} {ps : List Pc}
theorem appG {P : Program} {t ty q o m cap2 by_ : Nat} {z : Value} {ys : List α} {ds : List Value} {K : Value → Heap → Prop} (st : StB B H0 H ps) (i : Nat) (ht : SlT P t e T.size by_ z) (hp : ps[i]? = some (pS T e a n cap xs))
    (hd : Cells H q o ds) (hy : T.reps none_ H ds ys) (hm : m = ys.length) (h1 : ∀ u ∈ ds, u.oneCell' = true) (h63 : xs.length + ys.length ≤ maxLen) (hby : (xs.length + ys.length) * by_ ≤ 140737488355328)
    (k : ∀ a' cap' H', StB B H0 H' (ps.set i (pS T e a' (xs.length + ys.length) cap' (xs ++ ys))) → Agr (fun k => k < H.size ∧ ¬ slB (.slice a n cap) k) H H' → K (.slice a' (xs.length + ys.length) cap') H') :
    VEff P (Builtin.append_ #[t, t] ty [.slice a n cap, .slice (some ⟨q, o, none⟩) m cap2].toArray) H K := by
  refine vappendO (T := T) (S := none_) (lo := 0) ht (st.at_ i hp).1 (Nat.zero_le _) (fun k hk => hk.elim) hd hy hm h1 h63 hby ?_
  intro v' H' hown hagr hsz hfr
  obtain ⟨a', cap', rfl⟩ := hown.hull
  rw [List.length_append] at hown hfr ⊢
  refine k a' cap' H' (st.upd i hp (hagr.mono fun k hk => ⟨hk.1, fun hb => hk.2 (.inl hb)⟩) _ ⟨hown, fun k hk => hk.elim⟩ (fun k hk => ?_) (fun k hk => ?_) hsz) hagr
  · rcases hk with hk | hk
    · rcases hfr k hk with h | h
      · exact .inl (.inl h)
      · exact .inr h
    · exact hk.elim
  · rcases hk with hk | hk
    · exact (hown.lt hk).2
    · exact hk.elim
end

/-! ### maps of slices -/
section
variable {α β : Type} {Ok : α → Prop} {enc : α → Value} {T : Ty β} {e : TypeId} {b : Nat} {m : α → Option Value} {xs : α → List β} {B : Nat → Prop} {H0 H H' : Heap} {ps : List Pc} {P : Program} {t kt et : TypeId} {a : α}
/-- A map of own slices. -/
def pMQ (Ok : α → Prop) (enc : α → Value) (T : Ty β) (e : TypeId) (b : Nat) (m : α → Option Value) (xs : α → List β) : Pc where
  foot k := k = b ∨ ∃ a, slB (slAt m a) k
  ok H := MapW Ok enc H b m ∧ (∀ a, SlO T none_ H 0 e (slAt m a) (xs a)) ∧ (∀ a a' k, a ≠ a' → slB (slAt m a) k → ¬ slB (slAt m a') k) ∧ ∀ a, ¬ slB (slAt m a) b
  fr h hp := ⟨hp.1.agr h (.inl rfl), fun a => (hp.2.1 a).agr h (fun k hk => .inr ⟨a, hk⟩) (fun _ hk => hk.elim), hp.2.2⟩
theorem StB.mqMap (st : StB B H0 H ps) (i : Nat) (hp : ps[i]? = some (pMQ Ok enc T e b m xs)) : MapW Ok enc H b m := (st.at_ i hp).1
theorem StB.mqView (st : StB B H0 H ps) (i : Nat) (hp : ps[i]? = some (pMQ Ok enc T e b m xs)) (a : α) : ∃ ad cap, slAt m a = .slice ad (xs a).length cap ∧ SlD T (Old H) H ad cap (xs a) := by
  obtain ⟨ad, cap, h1, h2, -⟩ := ((st.at_ i hp).2.1 a).view (S' := Old H) (fun k hk => (st.in_ i hp (.inr ⟨a, hk⟩)).2) (fun _ hk => hk.elim)
  exact ⟨ad, cap, h1, h2⟩
theorem StB.mqNew (st : StB B H0 H ps) (i : Nat) (hp : ps[i]? = some (pMW Ok enc b fun _ => none)) : StB B H0 H (ps.set i (pMQ Ok enc T e b (fun _ => none) fun _ => [])) := by
  refine st.upd i hp (Agr.refl _ _) _ ⟨st.mapW i hp, fun a => SlO.nil, fun a a' k _ hk => ?_, fun a hk => ?_⟩ (fun k hk => ?_) (fun k hk => ?_) (Nat.le_refl _)
  · obtain ⟨o, n, c, h⟩ := hk; cases h
  · obtain ⟨o, n, c, h⟩ := hk; cases h
  · rcases hk with hk | ⟨a, o, n, c, h⟩
    · exact .inl hk
    · cases h
  · rcases hk with hk | ⟨a, o, n, c, h⟩
    · exact (st.in_ i hp hk).2
    · cases h
end
end Go.VC

/- A block whose cells hold slices of the call's own, of several types. -/
set_option linter.unusedVariables false
set_option linter.unusedSimpArgs false
namespace Go.VC
/-- What a slice of the call's own holds. -/
structure Slot where
  ok : Heap → Value → Prop
  fr : ∀ {S : Nat → Prop} {H H' : Heap} {v : Value}, Agr S H H' → (∀ k, slB v k → S k) → ok H v → ok H' v
  lt : ∀ {H : Heap} {v : Value} {k : Nat}, ok H v → slB v k → k < H.size
section
variable {α : Type} {T : Ty α} {B : Nat → Prop} {H0 H H1 : Heap} {ps : List Pc} {e te : TypeId} {b : Nat} {vs : List Value} {ss : Nat → Slot} {xs : List α} {v : Value} {j : Nat}
end
end Go.VC
/- class.Not, class.Minus, class.Of; bytes as1 texts. -/
set_option linter.unusedVariables false
set_option linter.unusedSimpArgs false
set_option maxRecDepth 100000
namespace Go.VC
theorem ixvN {P : Program} {t len e sz : Nat} {k : IntKind} {i : Int} {cs : Array Value} {S : Nat → Prop} {H : Heap} {K : Value → Prop} (ht : ArrT P t len e sz) (hc : AggT P e sz) (h0 : 0 ≤ i) (h1 : i < len)
    (hk : K (.agg (cs.extract (i.toNat * sz) (i.toNat * sz + sz)))) : VDet P (Instr.index t (.agg cs) (.int k i)) S H K := by
  refine VDet.mk _ (fun w _ => ?_) hk
  cases hi : P.info? e with
  | none => have := ht.size; simp [hi] at this
  | some inf =>
    have hs : inf.size = sz := by have := ht.size; simpa [hi] using this
    simp [Instr.index, asIntOf, run_underlying ht.under, h0, h1, sizeOf, typeInfo, hi, hs, run_partN hc]
end Go.VC
namespace Go.VC
theorem xor_ones {x : Nat} (h : x < 18446744073709551616) : 18446744073709551615 ^^^ x = 18446744073709551615 - x := by
  have h1 : (BitVec.ofNat 64 x ^^^ BitVec.allOnes 64).toNat = (~~~(BitVec.ofNat 64 x)).toNat := by rw [BitVec.xor_allOnes]
  rw [BitVec.toNat_xor, BitVec.toNat_not, BitVec.toNat_ofNat, BitVec.toNat_allOnes, Nat.mod_eq_of_lt (by simpa using h), Nat.xor_comm] at h1
  simpa using h1
theorem vxor1 {P : Program} {x : Nat} {S : Nat → Prop} {H : Heap} {K : Value → Prop} (hx : x < 18446744073709551616) (k : K (.int .u64 ((18446744073709551615 - x : Nat) : Int))) : VDet P (Op.unary .xor (.int .u64 (x : Int))) S H K := by
  refine VDet.mk _ (fun w _ => ?_) k
  have h1 : IntKind.u64.max = 18446744073709551615 := rfl
  have h2 : IntKind.u64.signed = false := rfl
  have e1 : (BitVec.ofInt IntKind.u64.bits (18446744073709551615 : Int) ^^^ BitVec.ofInt IntKind.u64.bits (x : Int)).toNat = 18446744073709551615 - x := by
    show (BitVec.ofInt 64 ((18446744073709551615 : Nat) : Int) ^^^ BitVec.ofInt 64 (x : Int)).toNat = _
    rw [BitVec.ofInt_natCast, BitVec.ofInt_natCast, BitVec.toNat_xor, BitVec.toNat_ofNat, BitVec.toNat_ofNat, Nat.mod_eq_of_lt (a := x) hx]
    exact xor_ones hx
  have e2 : IntKind.wrap .u64 ((18446744073709551615 - x : Nat) : Int) = ((18446744073709551615 - x : Nat) : Int) := wrap_in ⟨by show (0 : Int) ≤ _; omega, by rw [h1]; omega⟩
  show (pure (Value.int .u64 (IntKind.wrap .u64 ((BitVec.ofInt IntKind.u64.bits (if IntKind.u64.signed = true then (-1 : Int) else IntKind.u64.max) ^^^ BitVec.ofInt IntKind.u64.bits (x : Int)).toNat : Int))) : Sem Value).run P w = _
  rw [h2, h1]
  simp only [Bool.false_eq_true, if_false]
  rw [e1, e2]
  rfl
end Go.VC
namespace Go.Proofs.YtlnmhfhdjnenoaaGreatDoor
open Go.VC

theorem wd_not (a : BitVec 256) (i : Nat) (hi : i < 4) : wd (~~~a) i = 18446744073709551615 - wd a i := by
  have ha := a.isLt
  unfold wd
  rw [BitVec.toNat_not]
  match i, hi with
  | 0, _ => simp only [Nat.reduceMul, Nat.reducePow] at *; omega
  | 1, _ => simp only [Nat.reduceMul, Nat.reducePow] at *; omega
  | 2, _ => simp only [Nat.reduceMul, Nat.reducePow] at *; omega
  | 3, _ => simp only [Nat.reduceMul, Nat.reducePow] at *; omega
theorem not_c (a : BitVec 256) (H : Heap) : Pure Tryz.prog 94 #[setV a] H (setV (~~~a)) := by
  have hw : ∀ i, wd a i < 18446744073709551616 := fun i => wd_lt a i
  refine FnOk.of_vc Tryz.func94 rfl (Tryz.call94 _) ?_
  (conv => whnf); refine vbox (setL a) rfl ?_
  intro p H1 hp hs1 hb1 ha1
  (conv => whnf); refine valloc (setV 0) (setL 0) rfl rfl ?_
  intro r H3 hr hs3 hb3 ha3
  replace hb1 := hb1.agr ha3 (show p < r by omega)
  (conv => whnf); refine ixa ar102 (by decide) (by decide) ?_
  (conv => whnf); refine ld1 ct56 ((hb1.cell _).trans rfl) trivial ?_
  (conv => whnf); refine vxor1 (hw _) ?_
  (conv => whnf); refine ixa ar102 (by decide) (by decide) ?_
  (conv => whnf); refine ld1 ct56 ((hb1.cell _).trans rfl) trivial ?_
  (conv => whnf); refine vxor1 (hw _) ?_
  (conv => whnf); refine ixa ar102 (by decide) (by decide) ?_
  (conv => whnf); refine ld1 ct56 ((hb1.cell _).trans rfl) trivial ?_
  (conv => whnf); refine vxor1 (hw _) ?_
  (conv => whnf); refine ixa ar102 (by decide) (by decide) ?_
  (conv => whnf); refine ld1 ct56 ((hb1.cell _).trans rfl) trivial ?_
  (conv => whnf); refine vxor1 (hw _) ?_
  rw [← wd_not a 0 (by decide), ← wd_not a 1 (by decide), ← wd_not a 2 (by decide), ← wd_not a 3 (by decide)]
  (conv => whnf); refine vbuildA ar102 (setV 0) rfl (setL (~~~a)) rfl ?_
  (conv => whnf); refine VC.stN rfl hb3 (show 0 + 4 ≤ 4 by decide) rfl ?_
  intro H4 hb4 ha4 hs4
  (conv => whnf); refine ldN (cs := setL (~~~a)) ag102 (hb4.cells (fun j v hv => by simpa [splice, setL] using hv)) trivial ?_
  exact ⟨rfl, fun k hk => by rw [ha4 k (by omega), ha3 k (by omega), ha1 k (by omega)]⟩
end Go.Proofs.YtlnmhfhdjnenoaaGreatDoor

namespace Go.Proofs.YtlnmhfhdjnenoaaGreatDoor
open Go.VC
def byN (s : ByteArray) : List Nat := s.data.toList.map UInt8.toNat
theorem byN_len (s : ByteArray) : (byN s).length = s.size := by unfold byN; rw [List.length_map]; exact Array.length_toList
theorem byN_get {s : ByteArray} {i : Nat} {b : UInt8} (h : s.data[i]? = some b) : (byN s)[i]? = some b.toNat := by
  unfold byN
  rw [List.getElem?_map, Array.getElem?_toList, h]; rfl
theorem getB {s : ByteArray} {k : Nat} (h : k < s.size) : ∃ b, s.data[k]? = some b := ⟨s.data[k]'h, Array.getElem?_eq_getElem h⟩
theorem splice_all {l c : List Value} (h : c.length = l.length) : splice l 0 c = c := by
  unfold splice
  rw [List.take_zero, List.nil_append, Nat.zero_add, h, List.drop_length, List.append_nil]

/-! ### Words -/
def ofB (x : BitVec 256) (l : List Nat) : BitVec 256 := l.foldl (fun x b => x ||| BitVec.twoPow 256 b) x
set_option maxHeartbeats 4000000 in
theorem of_p (s : ByteArray) (hs : s.size ≤ 1048576) (H : Heap) : Pure Tryz.prog 49 #[.string s] H (setV (ofB 0#256 (byN s))) := by
  refine FnOk.of_vc Tryz.func49 rfl (Tryz.call49 _) ?_
  (conv => whnf); refine valloc (setV 0) (setL 0) rfl rfl ?_
  intro r H1 hr hs1 hb1 ha1
  have st1 := (St.nil H).box hr hs1 hb1 ha1
  (conv => whnf); refine valloc (setV 0) (setL 0) rfl rfl ?_
  intro p H2 hp hs2 hb2 ha2
  have st2 := st1.box hp hs2 hb2 ha2
  (conv => whnf)
  refine VLoop.mk [7] (fun i : Nat => [.int .i64 (i : Int)]) (fun i H3 => i ≤ s.size ∧ St H H3 [pB 102 r (setL 0), pB 102 p (setL (ofB 0#256 ((byN s).take i)))]) (fun i _ => s.size - i) ?_ ?_
  · (conv => whnf)
    exact ⟨0, rfl, Nat.zero_le _, st2⟩
  · rintro i H3 junk ⟨hi, st3⟩
    (conv => whnf); refine VIte.mk (fun h => ?_) (fun h => ?_) <;> simp only [decide_eq_true_eq, decide_eq_false_iff_not] at h
    · obtain ⟨c, hc⟩ := getB (s := s) (k := i) (by omega)
      obtain ⟨b, hb⟩ : ∃ b, b = c.toNat := ⟨_, rfl⟩
      have hb256 : b < 256 := by rw [hb]; exact UInt8.toNat_lt c
      obtain ⟨x, hx⟩ : ∃ x, x = ofB 0#256 ((byN s).take i) := ⟨_, rfl⟩
      have hnext : ofB 0#256 ((byN s).take (i + 1)) = x ||| BitVec.twoPow 256 b := by
        rw [take_succ_snoc (byN_get hc), hx, hb]
        unfold ofB
        rw [List.foldl_append]
        rfl
      rw [← hx] at st3
      have hbp := st3.blk 1 rfl
      have hpl := (st3.in_ 1 rfl rfl).2
      (conv => whnf); refine VDraw.heldZ (Old H3) [13] (sq [0,1,2,3,4,5,6,7,8,9,10,11,12] (.f 13 .e)) rfl (by kernel_rfl) ?_
      (conv => whnf); refine vidxs Tryz.underlying9 rfl hc ?_
      rw [← hb]
      (conv => whnf); refine vshr (b := 6) (by decide) ?_
      (conv => whnf); refine ixa ar102 (by omega) (by omega) ?_
      (conv => whnf); refine ld1 ct56 (v := .int .u64 (wd x (b / 64))) (by rw [hbp.cell, Nat.zero_add, Nat.mul_one]; exact setL_get x b (by omega)) hpl ?_
      (conv => whnf); refine vidxs Tryz.underlying9 rfl hc ?_
      rw [← hb]
      (conv => whnf); refine vand (b := 63) (inU8 hb256) (inU8 (by decide)) ?_
      have hpow : 2 ^ (b % 64) < 2 ^ 64 := Nat.pow_lt_pow_right (by decide) (by omega)
      rw [and63]
      have hin : inK .u64 ((1 * 2 ^ (b % 64) : Nat) : Int) := inU64 (by omega)
      (conv => whnf); refine vshl (a := 1) (by simp [IntKind.bits]; omega) hin ?_
      (conv => whnf); refine vor (wd_in x _) hin ?_
      (conv => whnf); refine ixa ar102 (by omega) (by omega) ?_
      (conv => whnf); refine st1B st3 1 ct56 rfl (by simp [setL]; omega) rfl fun H4 st4 => ?_
      (conv => whnf); rw [w64 (x := (i : Int) + 1) (by omega) (by omega)]
      refine ⟨rfl, i + 1, by simp, ⟨by omega, ?_⟩, by omega⟩
      rw [hnext, ← setL_put x b (by omega)]
      rw [Nat.zero_add, Nat.mul_one, Nat.one_mul] at st4
      exact st4
    · obtain rfl : i = s.size := by omega
      rw [List.take_of_length_le (by rw [byN_len]; exact Nat.le_refl _)] at st3
      generalize ofB 0#256 (byN s) = x at *
      (conv => whnf); refine ldN (cs := setL x) ag102 ((st3.blk 1 rfl).cells fun j v hv => by rw [Nat.zero_add]; exact hv) trivial ?_
      (conv => whnf); refine stNB (cs := setL x) st3 0 rfl rfl (Nat.le_refl _) rfl fun H4 st4 => ?_
      rw [splice_all (show (setL x).length = (setL 0).length from rfl)] at st4
      (conv => whnf); refine ldN (cs := setL x) ag102 ((st4.blk 0 rfl).cells fun j v hv => by rw [Nat.zero_add]; exact hv) trivial ?_
      exact ⟨rfl, st4.old⟩
end Go.Proofs.YtlnmhfhdjnenoaaGreatDoor
/- A piece split in two; a map of slices that is only read from now on; keys that are texts. -/
set_option linter.unusedVariables false
set_option linter.unusedSimpArgs false
namespace Go.VC
section
variable {B : Nat → Prop} {H0 H : Heap} {ps : List Pc} {p : Pc}
theorem StB.apart2 (st : StB B H0 H ps) {i j : Nat} {q : Pc} (hp : ps[i]? = some p) (hq : ps[j]? = some q) (hij : i ≠ j) : Dis p q := by
  have hil := (List.getElem?_eq_some_iff.1 hp).1
  have hjl := (List.getElem?_eq_some_iff.1 hq).1
  have e1 := (List.getElem?_eq_some_iff.1 hp).2
  have e2 := (List.getElem?_eq_some_iff.1 hq).2
  intro k hk hk'
  rcases Nat.lt_or_gt_of_ne hij with h | h
  · exact List.pairwise_iff_getElem.1 st.dis i j hil hjl h k (by rw [e1]; exact hk) (by rw [e2]; exact hk')
  · exact List.pairwise_iff_getElem.1 st.dis j i hjl hil h k (by rw [e2]; exact hk') (by rw [e1]; exact hk)
end
section
variable {α β : Type} {Ok : α → Prop} {enc : α → Value} {T : Ty β} {e : TypeId} {b : Nat} {m : α → Option Value} {xs : α → List β} {B : Nat → Prop} {H0 H : Heap} {ps : List Pc}
end
/-- Every key. -/
abbrev anyK {α : Type} (_ : α) : Prop := True
theorem KeyW.ofE {P : Program} {kt : TypeId} {d : TypeDesc} {α : Type} {enc : α → Value} (hd : P.underlying kt = some d) (hk : KeyE d enc) : KeyW P kt anyK enc where
  inj := hk.inj
  check w em a _ := Go.MapKept.run_checkKey hd (hk.isKey a) em 9999
  find w a _ es hes := by
    have hall : ∀ x ∈ es, Go.MapKept.IsKey d x.key := fun x hx => by
      obtain ⟨b, -, e⟩ := hes x hx
      rw [e]; exact hk.isKey b
    rcases Go.MapKept.findNow_spec (hk.isKey a) es 0 hall with ⟨h1, h2⟩ | ⟨j, e, h1, h2, h3⟩
    · exact .inl ⟨Go.MapKept.run_findKey hd h1, h2⟩
    · exact .inr ⟨j, e, by rw [Nat.zero_add] at h1; exact Go.MapKept.run_findKey hd h1, h2, h3⟩
  stays w a _ := Go.MapKept.run_keyThatStays (hk.isKey a)
end Go.VC
/- class.single: the walk; how a byte is written. -/
set_option linter.unusedVariables false
set_option linter.unusedSimpArgs false
set_option maxRecDepth 100000
namespace Go.Proofs.YtlnmhfhdjnenoaaGreatDoor
open Go.VC Go.Lib
def spB (s : ByteArray) (c : Nat) : Bool := decide (0 ≤ indexByte s.data.toList (UInt8.ofNat c))
def escL : List Value := [.int .u8 110, .int .u8 10, .int .u8 114, .int .u8 13, .int .u8 116, .int .u8 9]
/-- The table of escapes lies in memory. -/
def EscH (H : Heap) : Prop := Cells H 0 0 escL ∧ 0 < H.size
theorem esc_z : (Tryz.prog.info? 188).bind (·.zero) = some (.agg #[.int .u8 0, .int .u8 0]) := by kernel_rfl
theorem spec_ge {s : ByteArray} {c : Nat} : (decide (indexByte s.data.toList (UInt8.ofNat c) ≥ 0)) = spB s c := rfl
def escP (i : Nat) : Nat × Nat := match i with
  | 0 => (110, 10)
  | 1 => (114, 13)
  | _ => (116, 9)
end Go.Proofs.YtlnmhfhdjnenoaaGreatDoor
/- louperef01.in, Special, Inner, One: the walks. -/
set_option linter.unusedVariables false
set_option linter.unusedSimpArgs false
set_option maxRecDepth 100000
namespace Go.Proofs.YtlnmhfhdjnenoaaGreatDoor
open Go.VC Go.Lib
theorem spB_in {s : ByteArray} {c i : Nat} (h : s.data.toList[i]? = some (UInt8.ofNat c)) : spB s c = true := by
  unfold spB
  rw [decide_eq_true_eq]
  have h1 := indexByte_ge s.data.toList (UInt8.ofNat c)
  apply Classical.byContradiction
  intro h2
  exact absurd h (indexByte_none (by omega) i)
theorem spB_out {s : ByteArray} {c : Nat} (h : ∀ i : Nat, s.data.toList[i]? ≠ some (UInt8.ofNat c)) : spB s c = false := by
  unfold spB
  rw [decide_eq_false_iff_not]
  intro h2
  obtain ⟨o, ho⟩ := Int.eq_ofNat_of_zero_le h2
  exact h o (indexByte_some ho).1
theorem in_p {H : Heap} {s : ByteArray} {c : Nat} (hs : s.size ≤ 1048576) (hc : c < 256) : Pure Tryz.prog 102 #[.string s, .int .u8 (c : Int)] H (.bool (spB s c)) := by
  refine FnOk.of_vc Tryz.func102 rfl (Tryz.call102 _) ?_
  have hsz : s.data.toList.length = s.size := rfl
  (conv => whnf)
  refine VLoop.mk [5] (fun i : Nat => [.int .i64 (i : Int)]) (fun i H1 => i ≤ s.size ∧ (∀ j, j < i → s.data.toList[j]? ≠ some (UInt8.ofNat c)) ∧ St H H1 []) (fun i _ => s.size - i) ?_ ?_
  · (conv => whnf)
    exact ⟨0, rfl, by omega, fun j hj => by omega, St.nil H⟩
  · rintro i H1 junk1 ⟨hi, hno, st1⟩
    (conv => whnf); refine VIte.mk (fun hz => ?_) (fun hz => ?_) <;> simp only [decide_eq_true_eq, decide_eq_false_iff_not] at hz
    · obtain ⟨x, hx⟩ := get_some (l := s.data.toList) (k := i) (by omega)
      have hx2 : s.data[i]? = some x := by rw [← Array.getElem?_toList]; exact hx
      (conv => whnf); refine vidxs Tryz.underlying9 rfl hx2 ?_
      by_cases he : x.toNat = c
      · have d1 : ((x.toNat : Int) == (c : Int)) = true := by rw [he]; exact beq_self_eq_true _
        have hxc : x = UInt8.ofNat c := by rw [← he]; simp
        rw [spB_in (i := i) (by rw [← hxc]; exact hx)]
        (conv => whnf); rw [d1]
        (conv => whnf)
        exact ⟨rfl, st1.old⟩
      · have d1 : ((x.toNat : Int) == (c : Int)) = false := beq_eq_false_iff_ne.2 (by omega)
        (conv => whnf); rw [d1]
        (conv => whnf); rw [w64 (x := (i : Int) + 1) (by omega) (by omega)]
        refine ⟨rfl, i + 1, by simp, ⟨by omega, fun j hj => ?_, st1⟩, by omega⟩
        rcases Nat.lt_or_eq_of_le (Nat.le_of_lt_succ hj) with hj | rfl
        · exact hno j hj
        · rw [hx]
          intro e
          injection e with e
          apply he
          rw [e, UInt8.toNat_ofNat']
          omega
    · obtain rfl : i = s.size := by omega
      (conv => whnf)
      rw [spB_out fun j => by
        by_cases hj : j < s.size
        · exact hno j hj
        · rw [List.getElem?_eq_none (by omega)]; exact fun e => by cases e]
      exact ⟨rfl, st1.old⟩
def specS : ByteArray := ⟨#[40, 41, 91, 93, 123, 125, 124, 38, 45, 42, 43, 63, 46, 92, 47, 94]⟩
def innS : ByteArray := ⟨#[92, 93, 91, 45, 94, 47]⟩
theorem special_p {H : Heap} {c : Nat} (hc : c < 256) : Pure Tryz.prog 84 #[.int .u8 (c : Int)] H (.bool (spB specS c)) := by
  refine FnOk.of_vc Tryz.func84 rfl (Tryz.call84 _) ?_
  (conv => whnf); refine pures (in_p (s := specS) (by decide) hc) fun H1 ha1 => ?_
  (conv => whnf)
  exact ⟨rfl, ha1⟩
theorem inner_p {H : Heap} {c : Nat} (hc : c < 256) : Pure Tryz.prog 83 #[.int .u8 (c : Int)] H (.bool (spB innS c)) := by
  refine FnOk.of_vc Tryz.func83 rfl (Tryz.call83 _) ?_
  (conv => whnf); refine pures (in_p (s := innS) (by decide) hc) fun H1 ha1 => ?_
  (conv => whnf)
  exact ⟨rfl, ha1⟩
end Go.Proofs.YtlnmhfhdjnenoaaGreatDoor
/- The calculus once more, for code that may end by a panic: E says what is asked of the panic's value and of the heap. -/
set_option linter.unusedVariables false
set_option linter.unusedSimpArgs false
namespace Go.VC
/-- The chain of one fresh panic. -/
abbrev pe (x : Value) : List PanicEntry := [{ v := x, recovered := false }]
def EndOk (R E : Value → Heap → Prop) : Ending → Heap → Prop
  | .returned v, H => R v H
  | .panicked c, H => ∃ x, c = pe x ∧ E x H
  | .outgrown, _ => False
theorem EndOk.mono {R R' E E' : Value → Heap → Prop} {e : Ending} {H : Heap} (h : EndOk R E e H) (hr : ∀ v H, R v H → R' v H) (he : ∀ v H, E v H → E' v H) : EndOk R' E' e H := by
  cases e with
  | returned v => exact hr v H h
  | panicked c => obtain ⟨x, h1, h2⟩ := h; exact ⟨x, h1, he x H h2⟩
  | outgrown => exact h
/-- Called in any world over this heap, function f returns, and R holds, or it panics, and E holds. -/
def FnOkP (P : Program) (f : FuncId) (args : Array Value) (H : Heap) (R E : Value → Heap → Prop) : Prop :=
  ∀ w : World, w.heap = H → (callFunc f args).run P w = .ok (.enter f args) w ∧ Calls P f args w fun e w' => Env w w' ∧ EndOk R E e w'.heap
theorem FnOkP.mono {P : Program} {f : FuncId} {args : Array Value} {H : Heap} {R R' E E' : Value → Heap → Prop} (h : FnOkP P f args H R E) (hr : ∀ v H, R v H → R' v H) (he : ∀ v H, E v H → E' v H) : FnOkP P f args H R' E' := fun w hw =>
  ⟨(h w hw).1, (h w hw).2.mono fun e w' ⟨h1, h2⟩ => ⟨h1, h2.mono hr he⟩⟩
theorem FnOk.pan {P : Program} {f : FuncId} {args : Array Value} {H : Heap} {R E : Value → Heap → Prop} (h : FnOk P f args H R) : FnOkP P f args H R E := fun w hw =>
  ⟨(h w hw).1, (h w hw).2.mono fun e w' ⟨v, he, h1, h2⟩ => by subst he; exact ⟨h1, h2⟩⟩
structure VCallP (P : Program) (f : FuncId) (args : Array Value) (H : Heap) (K E : Value → Heap → Prop) : Prop where
  in_ ::
  out_ : FnOkP P f args H K E
theorem VCallP.mk {P : Program} {f : FuncId} {args : Array Value} {H : Heap} {K R E E' : Value → Heap → Prop} (h : FnOkP P f args H R E') (k : ∀ v H', R v H' → K v H') (e : ∀ v H', E' v H' → E v H') : VCallP P f args H K E :=
  ⟨h.mono k e⟩
/-- A call that doesn't panic. -/
theorem VCallP.of {P : Program} {f : FuncId} {args : Array Value} {H : Heap} {K E : Value → Heap → Prop} (h : VCall P f args H K) : VCallP P f args H K E := ⟨h.out_.pan⟩

/-- The frame of an activation with these calls deferred. -/
structure AtX (ds : List Deferred) (fr : Fr) (a : Act) : Prop where
  tmps : a.tmps.toList = fr
  defers : a.defers = ds
theorem AtX.at_ {fr : Fr} {a : Act} (h : AtX [] fr a) : At fr a := ⟨h.tmps, h.defers⟩
theorem AtX.bare {ds : List Deferred} {fr : Fr} {a : Act} (h : AtX ds fr a) : At fr { tmps := a.tmps, defers := [] } := ⟨h.tmps, rfl⟩
theorem AtX.evalF {ds : List Deferred} {fr : Fr} {a : Act} (h : AtX ds fr a) : a.eval = evF fr := by
  rw [← h.bare.evalF]
  funext x
  cases x <;> rfl
theorem AtX.put {ds : List Deferred} {fr : Fr} {a : Act} (h : AtX ds fr a) (dst : Option Tmp) (v : Value) : AtX ds (match dst with | none => fr | some d => fr.set d v) (a.put dst v) := by
  obtain ⟨rfl, h2⟩ := h
  cases dst with
  | none => exact ⟨rfl, h2⟩
  | some d => exact ⟨by simp [Act.put], h2⟩
theorem putX {a : Act} {dst : Option Tmp} {v v' : Value} (h : ({ tmps := a.tmps, defers := [] } : Act).put dst v = ({ tmps := a.tmps, defers := [] } : Act).put dst v') : a.put dst v = a.put dst v' := by
  cases dst with
  | none => rfl
  | some d =>
    have := congrArg Act.tmps h
    simp only [Act.put] at this ⊢
    rw [this]

/-! ### single operations -/
def OpOkP (P : Program) (o : Oper) (a : Act) (w : World) (K E : Value → Heap → Prop) : Prop :=
  ∀ Q : Exit → Act → World → Prop, (∀ x w', Env w w' → E x w'.heap → Q (.panic (pe x)) a w') → o.wp P a w (fun a' w' => ∃ v, a' = a.put o.dst v ∧ Env w w' ∧ K v w'.heap) Q
/-- What holds with nothing deferred holds with whatever is deferred. -/
theorem op_any {P : Program} {o : Oper} {a : Act} {w : World} {K E : Value → Heap → Prop} (h : OpOk P o { tmps := a.tmps, defers := [] } w K) : OpOkP P o a w K E := by
  intro Q _
  have h1 := h (fun e _ w => Q e a w)
  unfold Oper.wp at h1 ⊢
  have ev : ({ tmps := a.tmps, defers := [] } : Act).eval = a.eval := by funext x; cases x <;> rfl
  rw [ev] at h1
  revert h1
  generalize (execOp a.eval o).run P w = r
  intro h1
  cases r with
  | ok nx w' =>
    cases nx with
    | value v =>
      obtain ⟨v', e, h2, h3⟩ := h1
      exact ⟨v', putX e, h2, h3⟩
    | skip =>
      obtain ⟨v', e, h2, h3⟩ := h1
      exact ⟨v', putX e, h2, h3⟩
    | defer d =>
      obtain ⟨v', e, h2, h3⟩ := h1
      have := congrArg Act.defers e
      cases hdst : o.dst <;> rw [hdst] at this <;> simp [Act.put] at this
    | enter f args =>
      refine Calls.mono h1 ?_
      intro e w'' h2
      cases e with
      | returned v =>
        obtain ⟨v', e, h3, h4⟩ := h2
        exact ⟨v', putX e, h3, h4⟩
      | panicked c => exact h2
      | outgrown => obtain ⟨_, w, h3⟩ := h2; exact ⟨a, w, h3⟩
    | row row args =>
      refine Rows.mono h1 ?_
      intro v w'' h2
      obtain ⟨v', e, h3, h4⟩ := h2
      exact ⟨v', putX e, h3, h4⟩
    | _ => exact h1.elim
  | halt s w' =>
    cases s <;> first | exact h1 | exact h1.elim
def callPK (P : Program) (f : Value) (args : List Value) (H : Heap) (K E : Value → Heap → Prop) : Prop :=
  match f with
  | .func (.func g) first cap => VCallP P g (first.toList ++ args ++ cap.toList).toArray H K E
  | _ => False
/-- One operation. -/
def opPK (P : Program) (o : Oper) (fr : Fr) (H : Heap) (K : Value → Heap → Prop) (E : Fr → Value → Heap → Prop) : Prop :=
  match o.op with
  | .panic x => evK fr x fun v => match v with
    | .iface t y => E fr (.iface t y) H
    | _ => False
  | .call { callee := .value f, args, .. } => evK fr f fun g => evsK fr args.toList fun vs => callPK P g vs H K (E fr)
  | _ => opK P false (fun _ => True) o fr H K
theorem VCallP.out {P : Program} {f : FuncId} {args : Array Value} {H : Heap} {K E : Value → Heap → Prop} (h : VCallP P f args H K E) : FnOkP P f args H K E := by exact h.out_
theorem opPK_sound {P : Program} {o : Oper} {ds : List Deferred} {fr : Fr} {a : Act} {w : World} {K : Value → Heap → Prop} {E : Fr → Value → Heap → Prop} (hat : AtX ds fr a) (h : opPK P o fr w.heap K E) : OpOkP P o a w K (E fr) := by
  unfold opPK at h
  split at h
  · rename_i x ho
    rw [evK_eq] at h
    split at h
    · rename_i t y hx
      intro Q hq
      have : (execOp a.eval o).run P w = .halt (.panic (.iface t y)) w := by
        rw [hat.evalF]
        simp only [execOp, ho, hx]
        simp [Instr.panic, goPanic]
      unfold Oper.wp
      rw [this]
      exact hq _ w (Env.refl w) h
    · exact h.elim
  · rename_i f args argTypes ho
    simp only [evK_eq, evsK_eq, ← Array.toList_map] at h
    unfold callPK at h
    split at h
    · rename_i g first cap hg
      intro Q hq
      have e : (first.toList ++ (Array.map (evF fr) args).toList ++ cap.toList).toArray = first ++ Array.map (evF fr) args ++ cap := Array.ext' (by simp)
      have h' := h.out
      rw [e] at h'
      have h1 : (execOp a.eval o).run P w = (callFunc g (first ++ Array.map (evF fr) args ++ cap)).run P w := by
        rw [hat.evalF]
        simp only [execOp, ho, resolve, hg, Deferred.ofValue]
        simp [invoke]
      unfold Oper.wp
      rw [h1, (h' w rfl).1]
      refine (h' w rfl).2.mono ?_
      intro e w' ⟨henv, hk⟩
      cases e with
      | returned v => exact ⟨v, rfl, henv, hk⟩
      | panicked c =>
        obtain ⟨x, rfl, hx⟩ := hk
        exact hq x w' henv hx
      | outgrown => exact hk.elim
    · exact h.elim
  · exact op_any (opK_sound hat.bare h)

/-! ### regions -/
def guardPK (P : Program) (o : Oper) (want : Bool) (t : Nat) (fr : Fr) (H : Heap) (K : Fr → Heap → Prop) (E : Fr → Value → Heap → Prop) : Prop :=
  rdK fr t fun v => match v with
    | .bool b => VIte b
      (wrK fr t (.bool true) fun fr1 => match want with
        | true => opPK P o fr1 H (fun v H' => putK o.dst fr1 v fun fr' => apK K fr' H') E
        | false => putK o.dst fr1 undef fun fr' => apK K fr' H)
      (wrK fr t (.bool false) fun fr1 => match want with
        | false => opPK P o fr1 H (fun v H' => putK o.dst fr1 v fun fr' => apK K fr' H') E
        | true => putK o.dst fr1 undef fun fr' => apK K fr' H)
    | .tuple _ => putK o.dst fr undef fun fr' => apK K fr' H
    | _ => False
def opsPK (P : Program) (all : List Oper) (E : Fr → Value → Heap → Prop) (l : List Oper) : Fr → Heap → (Fr → Heap → Prop) → Prop :=
  List.rec (motive := fun _ => Fr → Heap → (Fr → Heap → Prop) → Prop) (fun fr H K => K fr H) (fun o _ ih fr H K =>
    match o.guard with
    | none => opPK P o fr H (fun v H' => putK o.dst fr v fun fr' => ih fr' H' K) E
    | some (j, want) => match (all[j]?).bind (·.dst) with
      | none => False
      | some t => guardPK P o want t fr H (fun fr' H' => ih fr' H' K) E) l
theorem opsPK_cons (P : Program) (all rest : List Oper) (o : Oper) (E : Fr → Value → Heap → Prop) (fr : Fr) (H : Heap) (K : Fr → Heap → Prop) : opsPK P all E (o :: rest) fr H K =
    (match o.guard with
    | none => opPK P o fr H (fun v H' => putK o.dst fr v fun fr' => opsPK P all E rest fr' H' K) E
    | some (j, want) => match (all[j]?).bind (·.dst) with
      | none => False
      | some t => guardPK P o want t fr H (fun fr' H' => opsPK P all E rest fr' H' K) E) := rfl
theorem yieldedX {ops : List Oper} {ds : List Deferred} {fr : Fr} {a : Act} (hat : AtX ds fr a) {j t : Nat} (hj : (ops[j]?).bind (·.dst) = some t) {b : Bool} (hv : rd fr t = .bool b) : yielded ops.toArray a.tmps j = some b :=
  yielded_at hat.bare hj hv
theorem yieldedX_no {ops : List Oper} {ds : List Deferred} {fr : Fr} {a : Act} (hat : AtX ds fr a) {j t : Nat} (hj : (ops[j]?).bind (·.dst) = some t) {vs : Array Value} (hv : rd fr t = .tuple vs) : yielded ops.toArray a.tmps j = none :=
  yielded_no hat.bare hj hv
theorem opsPK_sound {P : Program} {all : List Oper} {ds : List Deferred} {E : Fr → Value → Heap → Prop} {Q : Exit → Act → World → Prop} {w0 : World} (hp : ∀ x fr a' w', AtX ds fr a' → Env w0 w' → E fr x w'.heap → Q (.panic (pe x)) a' w') : ∀ (l : List Oper) (fr : Fr) (a : Act) (w : World) (K : Fr → Heap → Prop), AtX ds fr a → Env w0 w →
    (∀ fr' a' w', AtX ds fr' a' → Env w0 w' → K fr' w'.heap → Q .normal a' w') →
    opsPK P all E l fr w.heap K → wpList P all.toArray Q l a w
  | [], fr, a, w, K, hat, he, hq, h => hq fr a w hat he h
  | o :: l, fr, a, w, K, hat, he, hq, h => by
    have go : ∀ (want : Bool), (want = true → OpOkP P o a w (fun v H' => putK o.dst fr v fun fr' => opsPK P all E l fr' H' K) (E fr)) →
        (want = false → putK o.dst fr undef fun fr' => opsPK P all E l fr' w.heap K) →
        Region.wanted o (yielded all.toArray a.tmps) = want → wpList P all.toArray Q (o :: l) a w := by
      intro want h1 h2 hw
      unfold wpList
      rw [hw]
      cases want with
      | true =>
        refine .inl (Oper.wp_mono ?_ (h1 rfl _ fun x w' henv hx => hp x fr a w' hat (he.trans henv) hx))
        rintro a' w' ⟨v, rfl, henv, hk⟩
        rw [putK_eq] at hk
        exact opsPK_sound hp l _ _ _ K (hat.put o.dst v) (he.trans henv) hq hk
      | false =>
        have h3 := h2 rfl
        rw [putK_eq] at h3
        exact opsPK_sound hp l _ _ _ K (hat.put o.dst undef) he hq h3
    rw [opsPK_cons] at h
    split at h
    · rename_i hg
      exact go true (fun _ => opPK_sound hat h) (fun h => by cases h) (by simp [Region.wanted, hg])
    · rename_i j want hg
      split at h
      · exact h.elim
      · rename_i t ht
        unfold guardPK at h
        simp only [apK] at h
        rw [rdK_eq] at h
        split at h
        · rename_i b hb
          have hy := yieldedX hat ht hb
          have hs : fr.set t (.bool b) = fr := rd_set_self hb (by simp [undef])
          cases b <;> cases want <;> simp only [VIte, wrK_eq, hs] at h
          · exact go true (fun _ => opPK_sound hat h) (fun h => by cases h) (by simp [Region.wanted, hg, hy])
          · exact go false (fun h => by cases h) (fun _ => h) (by simp [Region.wanted, hg, hy])
          · exact go false (fun h => by cases h) (fun _ => h) (by simp [Region.wanted, hg, hy])
          · exact go true (fun _ => opPK_sound hat h) (fun h => by cases h) (by simp [Region.wanted, hg, hy])
        · rename_i vs hb
          exact go false (fun h => by cases h) (fun _ => h) (by simp [Region.wanted, hg, yieldedX_no hat ht hb])
        · exact h.elim

/-- What is asked of a panic doesn't look at what these operations write into the frame. -/
def Blind (E : Fr → Value → Heap → Prop) (l : List Oper) : Prop := ∀ o ∈ l, ∀ d, o.dst = some d → ∀ fr v x H, E (fr.set d v) x H → E fr x H
theorem blind_all (E : Value → Heap → Prop) (l : List Oper) : Blind (fun _ => E) l := fun _ _ _ _ _ _ _ _ h => h
/-- A region whose order is open. -/
structure VDrawP (P : Program) (ds : List Deferred) (l : List Oper) (fr : Fr) (H : Heap) (K : Fr → Heap → Prop) (E : Fr → Value → Heap → Prop) : Prop where
  in_ ::
  out_ : ∀ (id : Nat) (Q : Exit → Act → World → Prop) (a : Act) (w : World), AtX ds fr a → w.heap = H → (∀ x fr a' w', AtX ds fr a' → Env w w' → E fr x w'.heap → Q (.panic (pe x)) a' w') →
    (Blind E l → ∀ c, ∀ o ∈ l, ∀ v a w, Q (.panic c) (a.put o.dst v) w → Q (.panic c) a w) →
    (∀ fr' a' w', AtX ds fr' a' → Env w w' → K fr' w'.heap → Q .normal a' w') → (Code.region id l.toArray true).wp P Q a w
theorem VDrawP.of {P : Program} {l : List Oper} {fr : Fr} {H : Heap} {K : Fr → Heap → Prop} {E : Fr → Value → Heap → Prop} (h : VDraw P l fr H K) : VDrawP P [] l fr H K E := by
  refine ⟨fun id Q a w hat hw _ _ hq => ?_⟩
  refine Code.wp_mono (Q := fun e a w => Q e a w ∧ ∀ c, e ≠ .panic c) (fun e a w h => h.1) ?_
  exact h.out id _ a w hat.at_ hw (fun c a w h => h.2 c rfl) fun fr' a' w' h1 h2 h3 => ⟨hq fr' a' w' ⟨h1.tmps, h1.defers⟩ h2 h3, fun c => by simp⟩
/-- One operation of the order, carried out here. -/
def stepP (P : Program) (S : Nat → Prop) (Z : List Nat) (H0 : Heap) (all : List Oper) (E : Fr → Value → Heap → Prop) (i : Nat) (fr : Fr) (H : Heap) (next : Fr → Heap → Prop) : Prop :=
  match all[i]? with
  | none => False
  | some o => match o.guard with
    | some _ => False
    | none => match Z.contains i with
      | true => opPK P o fr H (fun v H' => putK o.dst fr v fun fr' => next fr' H') E
      | false => opPK P o fr H (fun v H' => Agr S H0 H' ∧ putK o.dst fr v fun fr' => next fr' H') E
def heldP (P : Program) (S : Nat → Prop) (Z : List Nat) (H0 : Heap) (all : List Oper) (E : Fr → Value → Heap → Prop) (s : Sch) : Fr → Heap → (Fr → Heap → Prop) → Prop :=
  Sch.rec (motive := fun _ => Fr → Heap → (Fr → Heap → Prop) → Prop) (fun fr H K => K fr H)
    (fun i _ ih fr H K => match all[i]? with
      | none => False
      | some o => match o.guard with
        | some _ => False
        | none => match isDet o && convDet P o with
          | true => detK P S o fr H fun v => putK o.dst fr v fun fr' => ih fr' H K
          | false => False)
    (fun i _ ih fr H K => stepP P S Z H0 all E i fr H fun fr' H' => ih fr' H' K)
    (fun i _ j _ ih ih' fr H K => (stepP P S Z H0 all E i fr H fun fr' H' => ih fr' H' K) ∧ stepP P S Z H0 all E j fr H fun fr' H' => ih' fr' H' K) s
theorem heldP_q (P : Program) (S : Nat → Prop) (Z : List Nat) (H0 : Heap) (all : List Oper) (E : Fr → Value → Heap → Prop) (i : Nat) (s : Sch) (fr : Fr) (H : Heap) (K : Fr → Heap → Prop) : heldP P S Z H0 all E (.q i s) fr H K =
    (match all[i]? with
      | none => False
      | some o => match o.guard with
        | some _ => False
        | none => match isDet o && convDet P o with
          | true => detK P S o fr H fun v => putK o.dst fr v fun fr' => heldP P S Z H0 all E s fr' H K
          | false => False) := rfl
theorem stepP_sound {P : Program} {S : Nat → Prop} {Z : List Nat} {w0 : World} {all : List Oper} {ds : List Deferred} {E : Fr → Value → Heap → Prop} {Q : Exit → Act → World → Prop} (hp : ∀ x fr a' w', AtX ds fr a' → Env w0 w' → E fr x w'.heap → Q (.panic (pe x)) a' w') {i : Nat} {fr : Fr} {a : Act} {w : World} {next : Fr → Heap → Prop} {N : Act → World → Prop}
    (hat : AtX ds fr a) (hc : Env w0 w) (h : stepP P S Z w0.heap all E i fr w.heap next)
    (hn : ∀ fr' a' w', AtX ds fr' a' → Env w0 w' → (Z.contains i = false → Cls w0 S w') → next fr' w'.heap → N a' w') : wpOp P all.toArray Q i N a w := by
  unfold stepP at h
  split at h
  · exact h.elim
  · rename_i o ho
    have ho' : all.toArray[i]? = some o := by simpa using ho
    split at h
    · exact h.elim
    · rename_i hg
      have hwant : Region.wanted o (yielded all.toArray a.tmps) = true := by simp [Region.wanted, hg]
      unfold wpOp
      rw [ho']
      dsimp only
      rw [if_pos hwant]
      split at h
      · rename_i hz
        refine .inl (Oper.wp_mono ?_ (opPK_sound hat h _ fun x w' henv hx => hp x fr a w' hat (hc.trans henv) hx))
        rintro a' w' ⟨v, rfl, henv, hk⟩
        rw [putK_eq] at hk
        exact hn _ _ _ (hat.put o.dst v) (hc.trans henv) (fun hne => by rw [hz] at hne; cases hne) hk
      · refine .inl (Oper.wp_mono ?_ (opPK_sound hat h _ fun x w' henv hx => hp x fr a w' hat (hc.trans henv) hx))
        rintro a' w' ⟨v, rfl, henv, hagr, hk⟩
        rw [putK_eq] at hk
        exact hn _ _ _ (hat.put o.dst v) (hc.trans henv) (fun _ => ⟨hc.trans henv, hagr⟩) hk
theorem put_defers (a : Act) (dst : Option Tmp) (v : Value) : (a.put dst v).defers = a.defers := by cases dst <;> rfl
theorem heldP_sound {P : Program} {S : Nat → Prop} {Z : List Nat} {w0 : World} {all : List Oper} {ds : List Deferred} {E : Fr → Value → Heap → Prop} {Q : Exit → Act → World → Prop} (hs : Region.noSelect all.toArray = true)
    (hp : ∀ x fr a' w', AtX ds fr a' → Env w0 w' → E fr x w'.heap → Q (.panic (pe x)) a' w') (hp2 : ∀ c, ∀ o ∈ all, ∀ v a w, Q (.panic c) (a.put o.dst v) w → Q (.panic c) a w) : ∀ (l : Sch) (listed : Array Bool) (fr : Fr) (a : Act) (w : World) (K : Fr → Heap → Prop), AtX ds fr a → Env w0 w → (zAll Z l = false → Cls w0 S w) → Shut all.toArray listed →
    (∀ fr' a' w', AtX ds fr' a' → Env w0 w' → K fr' w'.heap → Q .normal a' w') → heldBZ all.toArray Z l listed = true → l.even = true →
    heldP P S Z w0.heap all E l fr w.heap K → wpAnyZ P all.toArray Q (Cls w0 S) Z l.len listed a w
  | .e, listed, fr, a, w, K, hat, he, _, _, hq, hB, _, h => ⟨by simpa [heldBZ] using hB, hq fr a w hat he h⟩
  | .q i s, listed, fr, a, w, K, hat, he, hc, hsh, hq, hB, hev, h => by
    have hc := hc rfl
    simp only [heldBZ, Bool.and_eq_true, Bool.not_eq_true', List.all_eq_true] at hB
    obtain ⟨⟨⟨⟨b1, b2⟩, b3⟩, b4⟩, hB2⟩ := hB
    rw [heldP_q] at h
    split at h
    · exact h.elim
    · rename_i o ho
      have ho' : all.toArray[i]? = some o := by simpa using ho
      have hri : i ∈ Region.ready .any all.toArray listed := by simpa using b1
      split at h
      · exact h.elim
      · rename_i hg
        have hwant : Region.wanted o (yielded all.toArray a.tmps) = true := by simp [Region.wanted, hg]
        split at h
        · obtain ⟨v, hv, hk⟩ := detK_sound h
          rw [putK_eq] at hk
          refine wpAnyZ_first (v := v) (f := all.toArray.size) ho' (Region.noSelect_spec hs) (fun c a' w' hh => hp2 c o (List.mem_of_getElem? ho) v a' w' hh) b3 (fun j hj => b4 j (by simpa using hj)) s.len listed a w hsh (Region.free_spec ho' b2) hri
            (.inl ⟨hwant, fun w' hw' => ?_⟩) hc ?_
          · rw [hat.evalF]
            exact hv w' fun k hk => (hw'.2 k hk).trans (hc.2 k hk).symm
          · exact heldP_sound hs hp hp2 s _ _ _ w K (hat.put o.dst v) he (fun _ => hc) (hsh.put hri) hq hB2 hev hk
        · exact h.elim
  | .f i s, listed, fr, a, w, K, hat, he, hc, hsh, hq, hB, hev, h => by
    simp only [heldBZ, Bool.and_eq_true, Bool.or_eq_true, Bool.not_eq_true', beq_iff_eq] at hB
    obtain ⟨⟨b1, b2⟩, hB2⟩ := hB
    refine ⟨(fun h0 => by rw [b1] at h0; cases h0), fun j hj => ?_⟩
    have hj0 := hj
    rw [b1] at hj
    obtain rfl : j = i := by simpa using hj
    refine stepP_sound hp hat he h fun fr' a' w' h1 h2 h3 h4 => ⟨h3, heldP_sound hs hp hp2 s _ _ _ w' K h1 h2 (fun hz => ?_) (hsh.put hj0) hq hB2 hev h4⟩
    rcases b2 with b2 | b2
    · exact h3 b2
    · rw [b2] at hz; cases hz
  | .b i s j s', listed, fr, a, w, K, hat, he, hc, hsh, hq, hB, hev, h => by
    simp only [heldBZ, Bool.and_eq_true, Bool.or_eq_true, Bool.not_eq_true', beq_iff_eq] at hB
    obtain ⟨⟨⟨b1, b2⟩, hB2⟩, hB3⟩ := hB
    simp only [Sch.even, Bool.and_eq_true, beq_iff_eq] at hev
    obtain ⟨⟨e1, e2⟩, e3⟩ := hev
    refine ⟨(fun h0 => by rw [b1] at h0; cases h0), fun k hk => ?_⟩
    have hk0 := hk
    rw [b1] at hk
    rcases List.mem_cons.1 hk with rfl | hk
    · refine stepP_sound hp hat he h.1 fun fr' a' w' h1 h2 h3 h4 => ⟨h3, heldP_sound hs hp hp2 s _ _ _ w' K h1 h2 (fun hz => ?_) (hsh.put hk0) hq hB2 e1 h4⟩
      rcases b2 with b2 | b2
      · exact h3 b2.1
      · rw [b2.1] at hz; cases hz
    · obtain rfl : k = j := by simpa using hk
      rw [e3]
      refine stepP_sound hp hat he h.2 fun fr' a' w' h1 h2 h3 h4 => ⟨h3, heldP_sound hs hp hp2 s' _ _ _ w' K h1 h2 (fun hz => ?_) (hsh.put hk0) hq hB3 e2 h4⟩
      rcases b2 with b2 | b2
      · exact h3 b2.2
      · rw [b2.2] at hz; cases hz
theorem VDrawP.held {P : Program} {ds : List Deferred} {l : List Oper} {fr : Fr} {H : Heap} {K : Fr → Heap → Prop} {E : Fr → Value → Heap → Prop} (S : Nat → Prop) (Z : List Nat) (sched : Sch) (hbl : Blind E l) (hm : P.follows .mixedOrders = true)
    (hB : (Region.noSelect l.toArray && (sched.len == l.length) && sched.even && heldBZ l.toArray Z sched (Array.replicate l.length false)) = true)
    (h : heldP P S Z H l E sched fr H K) : VDrawP P ds l fr H K E := by
  refine ⟨?_⟩
  intro id Q a w hat hw hp hp2 hq
  subst hw
  simp only [Bool.and_eq_true, beq_iff_eq] at hB
  refine wp_region_any hm (wpAny_of_Z (S := Cls w S) (Z := Z) _ _ _ _ ?_)
  have hsh : Shut l.toArray (Array.replicate l.length false) := fun j o _ hj => by
    rw [Array.getD_eq_getD_getElem?, Array.getElem?_replicate] at hj
    split at hj <;> simp at hj
  have := heldP_sound (P := P) (S := S) (Z := Z) (w0 := w) (Q := Q) hB.1.1.1 hp (hp2 hbl) sched (Array.replicate l.length false) fr a { w with drawn := w.drawn + 1 } K hat ⟨rfl, rfl, rfl⟩ (fun _ => ⟨⟨rfl, rfl, rfl⟩, Agr.refl _ _⟩) hsh hq hB.2 hB.1.2 h
  rw [hB.1.1.2] at this
  simpa using this

/-! ### code -/
def LiftP (ds : List Deferred) (w0 : World) (E : Fr → Value → Heap → Prop) (Q : Exit → Fr → Heap → Prop) : Exit → Act → World → Prop
  | .panic c, a, w => ∃ fr, AtX ds fr a ∧ Env w0 w ∧ ∃ x, c = pe x ∧ E fr x w.heap
  | .outgrown, _, _ => False
  | e, a, w => ∃ fr, AtX ds fr a ∧ Env w0 w ∧ Q e fr w.heap
/-- A loop. -/
structure VLoopP (P : Program) (ds : List Deferred) (E : Fr → Value → Heap → Prop) (c : Code) (fr : Fr) (H : Heap) (X : List (Nat × (Fr → Heap → Prop))) (kr : Fr → Heap → Prop) : Prop where
  in_ ::
  out_ : ∀ (a : Act) (w : World), AtX ds fr a → w.heap = H → (Code.loop c).wp P (LiftP ds w E (Qx (fun _ _ => False) X kr)) a w
/-- Two pieces of code of which the first parts and meets again. -/
structure VSeqP (P : Program) (ds : List Deferred) (E : Fr → Value → Heap → Prop) (x y : Code) (fr : Fr) (H : Heap) (kn : Fr → Heap → Prop) (X : List (Nat × (Fr → Heap → Prop))) (kr : Fr → Heap → Prop) : Prop where
  in_ ::
  out_ : ∀ (a : Act) (w : World), AtX ds fr a → w.heap = H → (Code.seq x y).wp P (LiftP ds w E (Qx kn X kr)) a w
def vcP (P : Program) (ds : List Deferred) (E : Fr → Value → Heap → Prop) (c : Code) : Fr → Heap → (Fr → Heap → Prop) → List (Nat × (Fr → Heap → Prop)) → (Fr → Heap → Prop) → Prop :=
  Code.rec (motive := fun _ => Fr → Heap → (Fr → Heap → Prop) → List (Nat × (Fr → Heap → Prop)) → (Fr → Heap → Prop) → Prop)
    (fun fr H kn _ _ => kn fr H)
    (fun _ ops draw fr H kn _ _ => match draw with
      | false => opsPK P ops.toList E ops.toList fr H kn
      | true => VDrawP P ds ops.toList fr H kn E)
    (fun a b iha ihb fr H kn X kr => match joinsC a with
      | true => VSeqP P ds E a b fr H kn X kr
      | false => iha fr H (fun fr' H' => ihb fr' H' kn X kr) X kr)
    (fun c _ _ ihx ihy fr H kn X kr => match c with
      | .tmp t => rdK fr t fun v => match v with
        | .bool b => VIte b (wrK fr t (.bool true) fun fr1 => ihx fr1 H kn X kr) (wrK fr t (.bool false) fun fr1 => ihy fr1 H kn X kr)
        | _ => False
      | .const (.bool b) => VIte b (ihx fr H kn X kr) (ihy fr H kn X kr)
      | _ => False)
    (fun id _ ih fr H kn X kr => ih fr H kn ((id, kn) :: X) kr)
    (fun c _ fr H _ X kr => VLoopP P ds E c fr H X kr)
    (fun _ _ _ _ _ _ _ _ _ _ _ => False)
    (fun id fr H _ X _ => exitK X id fr H)
    (fun _ _ _ _ _ _ _ => False)
    (fun _ _ _ _ _ _ => False)
    (fun _ _ _ _ _ _ => False)
    (fun fr H _ _ kr => kr fr H)
    (fun _ _ _ _ _ _ => False) c
section
variable (P : Program) (ds : List Deferred) (E : Fr → Value → Heap → Prop) (a b : Code) (fr : Fr) (H : Heap) (kn : Fr → Heap → Prop) (X : List (Nat × (Fr → Heap → Prop))) (kr : Fr → Heap → Prop)
theorem vcP_region (id : Nat) (ops : Array Oper) (draw : Bool) : vcP P ds E (.region id ops draw) fr H kn X kr = (match draw with
      | false => opsPK P ops.toList E ops.toList fr H kn
      | true => VDrawP P ds ops.toList fr H kn E) := rfl
theorem vcP_seq : vcP P ds E (.seq a b) fr H kn X kr = (match joinsC a with
      | true => VSeqP P ds E a b fr H kn X kr
      | false => vcP P ds E a fr H (fun fr' H' => vcP P ds E b fr' H' kn X kr) X kr) := rfl
theorem vcP_cond (c : Operand) : vcP P ds E (.cond c a b) fr H kn X kr = (match c with
      | .tmp t => rdK fr t fun v => match v with
        | .bool x => VIte x (wrK fr t (.bool true) fun fr1 => vcP P ds E a fr1 H kn X kr) (wrK fr t (.bool false) fun fr1 => vcP P ds E b fr1 H kn X kr)
        | _ => False
      | .const (.bool x) => VIte x (vcP P ds E a fr H kn X kr) (vcP P ds E b fr H kn X kr)
      | _ => False) := rfl
theorem vcP_block (id : Nat) : vcP P ds E (.block id a) fr H kn X kr = vcP P ds E a fr H kn ((id, kn) :: X) kr := rfl
end
theorem VLoopP.out {P : Program} {ds : List Deferred} {E : Fr → Value → Heap → Prop} {c : Code} {fr : Fr} {H : Heap} {X : List (Nat × (Fr → Heap → Prop))} {kr : Fr → Heap → Prop} (h : VLoopP P ds E c fr H X kr) :
    ∀ (a : Act) (w : World), AtX ds fr a → w.heap = H → (Code.loop c).wp P (LiftP ds w E (Qx (fun _ _ => False) X kr)) a w := by exact h.out_
theorem VSeqP.out {P : Program} {ds : List Deferred} {E : Fr → Value → Heap → Prop} {x y : Code} {fr : Fr} {H : Heap} {kn : Fr → Heap → Prop} {X : List (Nat × (Fr → Heap → Prop))} {kr : Fr → Heap → Prop} (h : VSeqP P ds E x y fr H kn X kr) :
    ∀ (a : Act) (w : World), AtX ds fr a → w.heap = H → (Code.seq x y).wp P (LiftP ds w E (Qx kn X kr)) a w := by exact h.out_
theorem LiftP.env {ds : List Deferred} {w0 w1 : World} {E : Fr → Value → Heap → Prop} {Q : Exit → Fr → Heap → Prop} (henv : Env w0 w1) : ∀ {e : Exit} {a : Act} {w : World}, LiftP ds w1 E Q e a w → LiftP ds w0 E Q e a w
  | .normal, _, _, ⟨fr, h1, h2, h3⟩ | .exit _, _, _, ⟨fr, h1, h2, h3⟩ | .goto _, _, _, ⟨fr, h1, h2, h3⟩ | .ret, _, _, ⟨fr, h1, h2, h3⟩ => ⟨fr, h1, henv.trans h2, h3⟩
  | .panic c, _, _, ⟨fr, h1, h2, h3⟩ => ⟨fr, h1, henv.trans h2, h3⟩
theorem LiftP.mono {ds : List Deferred} {w0 : World} {E : Fr → Value → Heap → Prop} {Q Q' : Exit → Fr → Heap → Prop} (hq : ∀ e fr H, Q e fr H → Q' e fr H) : ∀ {e : Exit} {a : Act} {w : World}, LiftP ds w0 E Q e a w → LiftP ds w0 E Q' e a w
  | .normal, _, _, ⟨fr, h1, h2, h3⟩ | .exit _, _, _, ⟨fr, h1, h2, h3⟩ | .goto _, _, _, ⟨fr, h1, h2, h3⟩ | .ret, _, _, ⟨fr, h1, h2, h3⟩ => ⟨fr, h1, h2, hq _ _ _ h3⟩
  | .panic c, _, _, h => h
theorem seq_liftP {P : Program} {ds : List Deferred} {E : Fr → Value → Heap → Prop} {x y : Code} {kn k1 : Fr → Heap → Prop} {X : List (Nat × (Fr → Heap → Prop))} {kr : Fr → Heap → Prop} {a : Act} {w : World}
    (hx : x.wp P (LiftP ds w E (Qx k1 X kr)) a w)
    (hy : ∀ fr a' w', AtX ds fr a' → Env w w' → k1 fr w'.heap → y.wp P (LiftP ds w' E (Qx kn X kr)) a' w') : (Code.seq x y).wp P (LiftP ds w E (Qx kn X kr)) a w := by
  refine wp_seq (Code.wp_mono ?_ hx)
  intro e a' w' h
  cases e with
  | normal =>
    obtain ⟨fr, h1, h2, h3⟩ := h
    exact Code.wp_mono (fun e a w h => LiftP.env h2 h) (hy fr a' w' h1 h2 h3)
  | exit id => exact h
  | goto l => exact h
  | ret => exact h
  | panic c => exact h
  | outgrown => exact h
theorem vcP_sound {P : Program} {ds : List Deferred} {E : Fr → Value → Heap → Prop} : ∀ (c : Code) (fr : Fr) (kn : Fr → Heap → Prop) (X : List (Nat × (Fr → Heap → Prop))) (kr : Fr → Heap → Prop) (a : Act) (w : World), AtX ds fr a →
    vcP P ds E c fr w.heap kn X kr → c.wp P (LiftP ds w E (Qx kn X kr)) a w
  | .skip, fr, kn, X, kr, a, w, hat, h => wp_skip ⟨fr, hat, Env.refl w, h⟩
  | .region id ops draw, fr, kn, X, kr, a, w, hat, h => by
    rw [vcP_region] at h
    cases draw with
    | false =>
      have := wp_region_lit (P := P) (id := id) (l := ops.toList) (opsPK_sound (P := P) (all := ops.toList) (ds := ds) (E := E) (Q := LiftP ds w E (Qx kn X kr)) (w0 := w) (fun x fr a' w' h1 h2 h3 => ⟨fr, h1, h2, x, rfl, h3⟩) ops.toList fr a w kn hat (Env.refl w) (fun fr' a' w' h1 h2 h3 => ⟨fr', h1, h2, h3⟩) h)
      simpa using this
    | true =>
      have := h.out_ id (LiftP ds w E (Qx kn X kr)) a w hat rfl (fun x fr a' w' h1 h2 h3 => ⟨fr, h1, h2, x, rfl, h3⟩) (fun hbl c o ho v a w' h => by
        obtain ⟨fr2, h1, h2, x, h3, h4⟩ := h
        obtain ⟨h5, h6⟩ := h1
        rw [put_defers] at h6
        refine ⟨a.tmps.toList, ⟨rfl, h6⟩, h2, x, h3, ?_⟩
        cases hd : o.dst with
        | none => rw [hd] at h5; rw [← h5] at h4; exact h4
        | some d =>
          rw [hd] at h5
          refine hbl o ho d hd _ v x _ ?_
          rw [← h5] at h4
          simpa [Act.put] using h4) (fun fr' a' w' h1 h2 h3 => ⟨fr', h1, h2, h3⟩)
      simpa using this
  | .seq x y, fr, kn, X, kr, a, w, hat, h => by
    rw [vcP_seq] at h
    split at h
    · exact h.out a w hat rfl
    · exact seq_liftP (vcP_sound x fr _ X kr a w hat h) fun fr' a' w' h1 _ h3 => vcP_sound y fr' kn X kr a' w' h1 h3
  | .cond c x y, fr, kn, X, kr, a, w, hat, h => by
    rw [vcP_cond] at h
    split at h
    · rename_i t
      rw [rdK_eq] at h
      split at h
      · rename_i b hb
        have hs : fr.set t (.bool b) = fr := rd_set_self hb (by simp [undef])
        have he : a.eval (.tmp t) = .bool b := by rw [hat.evalF]; exact hb
        cases b <;> simp only [VIte, wrK_eq, hs] at h
        · exact wp_cond_false he (vcP_sound y fr kn X kr a w hat h)
        · exact wp_cond_true he (vcP_sound x fr kn X kr a w hat h)
      · exact h.elim
    · rename_i b
      cases b <;> simp only [VIte] at h
      · exact wp_cond_false rfl (vcP_sound y fr kn X kr a w hat h)
      · exact wp_cond_true rfl (vcP_sound x fr kn X kr a w hat h)
    · exact h.elim
  | .block id c, fr, kn, X, kr, a, w, hat, h => by
    rw [vcP_block] at h
    refine wp_block (Code.wp_mono ?_ (vcP_sound c fr kn _ kr a w hat h))
    intro e a' w' h
    cases e with
    | exit id' =>
      obtain ⟨fr', h1, h2, h3⟩ := h
      simp only [Qx, exitK] at h3
      simp only [Exit.inBlock]
      split at h3
      · rename_i hid
        have := Nat.eq_of_beq_eq_true hid
        rw [if_pos this.symm]
        exact ⟨fr', h1, h2, h3⟩
      · rename_i hid
        have : id ≠ id' := Nat.ne_of_beq_eq_false hid
        rw [if_neg (Ne.symm this)]
        exact ⟨fr', h1, h2, h3⟩
    | normal => exact h
    | goto l => exact h
    | ret => exact h
    | panic c => exact h
    | outgrown => exact h
  | .loop c, fr, kn, X, kr, a, w, hat, h => Code.wp_mono (fun e a w => LiftP.mono fun e fr H hq => by
      cases e <;> first | exact hq | exact hq.elim) (h.out a w hat rfl)
  | .exit id, fr, kn, X, kr, a, w, hat, h => wp_exit ⟨fr, hat, Env.refl w, h⟩
  | .ret, fr, kn, X, kr, a, w, hat, h => wp_ret ⟨fr, hat, Env.refl w, h⟩
  | .rangeFunc .., _, _, _, _, _, _, _, h => h.elim
  | .scope _, _, _, _, _, _, _, _, h => h.elim
  | .label _, _, _, _, _, _, _, _, h => h.elim
  | .goto _, _, _, _, _, _, _, _, h => h.elim
  | .refuse _, _, _, _, _, _, _, _, h => h.elim
theorem VLoopP.mk {P : Program} {ds : List Deferred} {E : Fr → Value → Heap → Prop} {c : Code} {fr : Fr} {H : Heap} {X : List (Nat × (Fr → Heap → Prop))} {kr : Fr → Heap → Prop} {α : Type} (ts : List Nat) (enc : α → List Value) (I : α → Heap → Prop) (m : α → Heap → Nat)
    (h0 : rdsK fr ts fun vs => ∃ x, vs = enc x ∧ I x H)
    (hr : ∀ (x : α) (H1 : Heap) (junk : Nat → Value), I x H1 → havocK junk fr (wset c []) fun fr0 => wrsK fr0 ts (enc x) fun fr1 =>
      vcP P ds E c fr1 H1 (fun fr' H' => keptK (wset c []) fr fr' (rdsK fr' ts fun vs => ∃ y, vs = enc y ∧ I y H' ∧ m y H' < m x H1)) X kr) : VLoopP P ds E c fr H X kr := by
  generalize wset c [] = ws at hr
  refine ⟨?_⟩
  intro a w hat hw
  subst hw
  have h0' := h0
  rw [rdsK_eq] at h0'
  obtain ⟨x0, hx0, hi0⟩ := h0'
  let J (n : Nat) (a' : Act) (w' : World) : Prop := ∃ fr' x, AtX ds fr' a' ∧ Env w w' ∧ havoc (fun _ => undef) fr' ws = havoc (fun _ => undef) fr ws ∧ ts.map (rd fr') = enc x ∧ I x w'.heap ∧ m x w'.heap = n
  refine wp_loop_rel J ?_ _ a w ⟨fr, x0, hat, Env.refl w, rfl, hx0, hi0, rfl⟩
  rintro n a1 w1 ⟨fr1, x1, hat1, henv1, hk1, hx1, hi1, rfl⟩
  have h := hr x1 w1.heap (rd fr1) hi1
  rw [havocK_eq, wrsK_eq, havoc_of_blank hk1, ← hx1, wrs_self ts fr1] at h
  refine Code.wp_mono ?_ (vcP_sound c fr1 _ X kr a1 w1 hat1 h)
  intro e a2 w2 h2
  cases e with
  | normal =>
    obtain ⟨fr2, hat2, henv2, h2⟩ := h2
    simp only [Qx, keptK, havocK_eq, rdsK_eq] at h2
    obtain ⟨hk2, y, hy, hiy, hm⟩ := h2
    exact ⟨m y w2.heap, hm, fr2, y, hat2, henv1.trans henv2, hk2, hy, hiy, rfl⟩
  | exit id => exact LiftP.env henv1 h2
  | goto l => exact LiftP.env henv1 h2
  | ret => exact LiftP.env henv1 h2
  | panic c => exact LiftP.env henv1 h2
  | outgrown => exact h2
theorem VSeqP.run {P : Program} {ds : List Deferred} {E : Fr → Value → Heap → Prop} {x y : Code} {fr : Fr} {H : Heap} {kn : Fr → Heap → Prop} {X : List (Nat × (Fr → Heap → Prop))} {kr : Fr → Heap → Prop}
    (h : vcP P ds E x fr H (fun fr' H' => vcP P ds E y fr' H' kn X kr) X kr) : VSeqP P ds E x y fr H kn X kr := by
  refine ⟨?_⟩
  intro a w hat hw
  subst hw
  exact seq_liftP (vcP_sound x fr _ X kr a w hat h) fun fr' a' w' h1 _ h3 => vcP_sound y fr' kn X kr a' w' h1 h3
theorem VSeqP.cut {P : Program} {ds : List Deferred} {E : Fr → Value → Heap → Prop} {x y : Code} {fr : Fr} {H : Heap} {kn : Fr → Heap → Prop} {X : List (Nat × (Fr → Heap → Prop))} {kr : Fr → Heap → Prop} {α : Type} (ts : List Nat) (enc : α → List Value) (I : α → Heap → Prop)
    (h : vcP P ds E x fr H (fun fr' H' => keptK (wset x []) fr fr' (rdsK fr' ts fun vs => ∃ y, vs = enc y ∧ I y H')) X kr)
    (k : ∀ (z : α) (H1 : Heap) (junk : Nat → Value), I z H1 → havocK junk fr (wset x []) fun fr0 => wrsK fr0 ts (enc z) fun fr1 => vcP P ds E y fr1 H1 kn X kr) : VSeqP P ds E x y fr H kn X kr := by
  generalize wset x [] = ws at h k
  refine ⟨?_⟩
  intro a w hat hw
  subst hw
  refine seq_liftP (vcP_sound x fr _ X kr a w hat h) fun fr1 a1 w1 h1 _ h3 => ?_
  simp only [keptK, havocK_eq, rdsK_eq] at h3
  obtain ⟨hk, z, hz, hi⟩ := h3
  have h := k z w1.heap (rd fr1) hi
  rw [havocK_eq, wrsK_eq, havoc_of_blank hk, ← hz, wrs_self ts fr1] at h
  exact vcP_sound y fr1 kn X kr a1 w1 h1 h

/-! ### functions -/
theorem resX_sound {P : Program} {fn : Func} {ds : List Deferred} {fr : Fr} {a : Act} {w : World} {R : Value → Heap → Prop} (hat : AtX ds fr a) (h : resK P fn.results.toList fr w.heap R) :
    ∃ v, (results fn a.tmps).run P w = .ok v w ∧ R v w.heap := resK_sound (a := { tmps := a.tmps, defers := [] }) hat.bare h
theorem FnOkP.of_vc {P : Program} {f : FuncId} {fn : Func} {c : Code} {args : Array Value} {H : Heap} {R E : Value → Heap → Prop} (hf : P.funcs[f]? = some fn) (hb : fn.body = some c)
    (hcall : ∀ w : World, (callFunc f args).run P w = .ok (.enter f args) w)
    (h : normK (args.toList ++ List.replicate (fn.ntmps - args.size) undef) fun fr => vcP P [] (fun _ => E) c fr H (fun fr' H' => resK P fn.results.toList fr' H' R) [] (fun fr' H' => resK P fn.results.toList fr' H' R)) :
    FnOkP P f args H R E := by
  intro w hw
  subst hw
  refine ⟨hcall w, ?_⟩
  refine calls_of_wp hf hb ?_
  rw [normK_eq] at h
  have hat : AtX [] (args.toList ++ List.replicate (fn.ntmps - args.size) undef) { tmps := args ++ Array.replicate (fn.ntmps - args.size) undef, defers := [] } := ⟨by simp, rfl⟩
  refine Code.wp_mono ?_ (vcP_sound c _ _ _ _ _ w hat h)
  intro e a' w' h2
  have fin : ∀ fr, AtX [] fr a' → Env w w' → resK P fn.results.toList fr w'.heap R → a'.defers = [] ∧ ∃ v, (results fn a'.tmps).run P w' = .ok v w' ∧ Env w w' ∧ R v w'.heap := by
    intro fr h1 h2 h3
    obtain ⟨v, hv, hR⟩ := resX_sound h1 h3
    exact ⟨h1.defers, v, hv, h2, hR⟩
  cases e with
  | normal => obtain ⟨fr, h1, h2, h3⟩ := h2; exact fin fr h1 h2 h3
  | ret => obtain ⟨fr, h1, h2, h3⟩ := h2; exact fin fr h1 h2 h3
  | exit id => obtain ⟨fr, h1, h2, h3⟩ := h2; exact h3.elim
  | goto l => obtain ⟨fr, h1, h2, h3⟩ := h2; exact h3.elim
  | panic c => obtain ⟨fr, h1, h3, x, h4, h5⟩ := h2; exact ⟨h1.defers, h3, x, h4, h5⟩
  | outgrown => exact h2.elim
end Go.VC
/- Functions that defer a closure which recovers; results that lie in cells. -/
set_option linter.unusedVariables false
set_option linter.unusedSimpArgs false
namespace Go.VC
/-! ### results, whatever they are -/
def resL (P : Program) (rs : List ResultVar) (fr : Fr) (H : Heap) : (List Value → Prop) → Prop :=
  List.rec (motive := fun _ => (List Value → Prop) → Prop) (fun R => R []) (fun r _ ih R => match r with
    | .tmp t => rdK fr t fun v => ih fun vs => R (v :: vs)
    | .cell a t => rdK fr a fun p => ldK P t p H fun v => ih fun vs => R (v :: vs)) rs
def resV (vs : List Value) : Value := match vs with
  | [v] => v
  | vs => .tuple vs.toArray
def resOne (tmps : Array Value) (r : ResultVar) : Sem Value := match r with
  | .tmp t => pure (tmps.getD t undef)
  | .cell a t => do loadVar t (← asAddr (tmps.getD a undef))
theorem resL_sound {P : Program} {fr : Fr} {a : Act} {w : World} (hat : At fr a) : ∀ (rs : List ResultVar) (R : List Value → Prop), resL P rs fr w.heap R →
    ∃ vs : List Value, (rs.mapM (resOne a.tmps)).run P w = .ok vs w ∧ R vs
  | [], R, h => ⟨[], by simp, h⟩
  | .tmp t :: rs, R, h => by
    have h' : rdK fr t (fun v => resL P rs fr w.heap fun vs => R (v :: vs)) := h
    rw [rdK_eq] at h'
    obtain ⟨vs, h1, h2⟩ := resL_sound hat rs _ h'
    have hrd : a.tmps.getD t undef = rd fr t := hat.eval (.tmp t)
    have h0 : (resOne a.tmps (.tmp t)).run P w = .ok (rd fr t) w := by simp [resOne, hrd]
    refine ⟨rd fr t :: vs, ?_, h2⟩
    rw [List.mapM_cons, Sem.run_bind, h0]
    simp only [Result.andThen_ok, Sem.run_bind, h1, Sem.run_pure]
  | .cell x t :: rs, R, h => by
    have h' : rdK fr x (fun p => ldK P t p w.heap fun v => resL P rs fr w.heap fun vs => R (v :: vs)) := h
    rw [rdK_eq] at h'
    obtain ⟨p, v, hp, hv, h2⟩ := ldK_sound h'
    obtain ⟨vs, h3, h4⟩ := resL_sound hat rs _ h2
    have hrd : a.tmps.getD x undef = rd fr x := hat.eval (.tmp x)
    have h0 : (resOne a.tmps (.cell x t)).run P w = .ok v w := by simp [resOne, hrd, hp, asAddr, hv]
    refine ⟨v :: vs, ?_, h4⟩
    rw [List.mapM_cons, Sem.run_bind, h0]
    simp only [Result.andThen_ok, Sem.run_bind, h3, Sem.run_pure]
theorem results_sound {P : Program} {fn : Func} {ds : List Deferred} {fr : Fr} {a : Act} {w : World} {R : Value → Prop} (hat : AtX ds fr a) (h : resL P fn.results.toList fr w.heap fun vs => R (resV vs)) :
    ∃ v, (results fn a.tmps).run P w = .ok v w ∧ R v := by
  obtain ⟨vs, h1, h2⟩ := resL_sound (a := { tmps := a.tmps, defers := [] }) hat.bare _ _ h
  refine ⟨resV vs, ?_, h2⟩
  have e : results fn a.tmps = (do
    let vs ← fn.results.mapM (resOne a.tmps)
    pure (if h : vs.size = 1 then vs[0] else .tuple vs)) := rfl
  have e2 : (fn.results.mapM (resOne a.tmps)).run P w = .ok vs.toArray w := by
    rw [Array.mapM_eq_mapM_toList]
    have e3 : (List.toArray <$> fn.results.toList.mapM (resOne a.tmps)) = (fn.results.toList.mapM (resOne a.tmps) >>= fun l => pure l.toArray) := rfl
    rw [e3, Sem.run_bind, h1]
    simp
  rw [e, Sem.run_bind, e2]
  simp only [Result.andThen_ok, Sem.run_pure]
  match vs with
  | [] => rfl
  | [v] => rfl
  | _ :: _ :: _ => rfl

/-! ### a closure that recovers -/
def recB (o0 o1 : Oper) (t0 t1 : Nat) : Prop := (∃ ats, o0.op = .call { callee := .builtin .recover, args := #[], argTypes := ats }) ∧ o0.guard = none ∧ o0.dst = some t0 ∧ o1.op = .assign (.tmp t0) ∧ o1.guard = none ∧ o1.dst = some t1
inductive RecU : FrameMode → FrameMode → Value → Prop
  | ret : RecU .returning .returning .nilIface
  | pan (x : Value) : RecU (.panicking (pe x)) (.panicking [{ v := x, recovered := true }]) x
theorem callsD_rec {P : Program} {g : FuncId} {fn : Func} {id0 : Nat} {o0 o1 : Oper} {t0 t1 : Nat} {rest : Code} {args : Array Value} {u u' : FrameMode} {rv : Value} {H : Heap} {R : Heap → Prop} (hf : P.funcs[g]? = some fn) (hb : fn.body = some (.seq (.region id0 #[o0, o1] false) rest))
    (hB : recB o0 o1 t0 t1) (hu : RecU u u' rv) (hres : fn.results = #[])
    (h : normK (args.toList ++ List.replicate (fn.ntmps - args.size) undef) fun fr => rdK fr t0 fun _ => rdK (fr.set t0 rv) t0 fun v => v = rv ∧ wrK fr t0 rv fun fr1 => wrK fr1 t1 rv fun fr2 => vc P rest fr2 H (fun _ H' => R H') [] (fun _ H' => R H')) :
    ∀ w : World, w.heap = H → CallsD P g args u w fun e u2 w' => e = .returned (.tuple #[]) ∧ u2 = u' ∧ Env w w' ∧ R w'.heap := by
  intro w hw
  subst hw
  rw [normK_eq] at h
  simp only [rdK_eq, wrK_eq] at h
  obtain ⟨hrv, h⟩ := h
  obtain ⟨⟨ats, b0⟩, b1, b2, b3, b4, b5⟩ := hB
  refine callsD_of_wpS hf hb ?_
  intro c₀ cs hc
  let a0 : Act := { tmps := args ++ Array.replicate (fn.ntmps - args.size) undef, defers := [] }
  have hat0 : At (args.toList ++ List.replicate (fn.ntmps - args.size) undef) a0 := ⟨by simp [a0], rfl⟩
  refine wpS_seq (wpS_region ?_)
  have hrun0 : (execOp a0.eval o0).run P w = .ok .recover w := by
    simp only [execOp, b0, resolve]
    simp [invoke, builtin]
  have key : ∀ (c' : Frame), { c₀ with mode := u' } = c' → wpOpsS P #[o0, o1] (Exit.thenS (rest.wpS P (bodyPostS P fn c₀ cs fun e u2 w' => e = .returned (.tuple #[]) ∧ u2 = u' ∧ Env w w' ∧ R w'.heap)) (bodyPostS P fn c₀ cs fun e u2 w' => e = .returned (.tuple #[]) ∧ u2 = u' ∧ Env w w' ∧ R w'.heap)) [1] (a0.put o0.dst rv) (c' :: cs) w := by
    intro c' hc'
    have hat1 := hat0.put o0.dst rv
    have hrun1 : (execOp (a0.put o0.dst rv).eval o1).run P w = .ok (.value rv) w := by
      rw [hat1.evalF, b2]
      simp only [execOp, b3]
      have : evF ((args.toList ++ List.replicate (fn.ntmps - args.size) undef).set t0 rv) (.tmp t0) = rv := hrv
      simp [this]
    have hw1 : Region.wanted o1 (yielded #[o0, o1] (a0.put o0.dst rv).tmps) = true := by simp [Region.wanted, b4]
    unfold wpOpsS
    have g1 : (#[o0, o1] : Array Oper)[1]? = some o1 := rfl
    rw [g1]
    simp only [hw1, if_true, hrun1]
    simp only [Oper.upon, wpOpsS, Exit.thenS]
    refine wpS_of_wp ?_
    have hat2 := hat1.put o1.dst rv
    rw [b2, b5] at hat2
    rw [b2, b5]
    refine Code.wp_mono ?_ (vc_sound rest _ _ _ _ _ w hat2 h)
    intro e a' w' h2
    have fin : ∀ fr, At fr a' → Env w w' → R w'.heap → a'.defers = [] ∧ ∃ u2, c' :: cs = { c₀ with mode := u2 } :: cs ∧ ∃ v, (results fn a'.tmps).run P w' = .ok v w' ∧ Ending.returned v = .returned (.tuple #[]) ∧ u2 = u' ∧ Env w w' ∧ R w'.heap := by
      intro fr h1 h2 h3
      refine ⟨h1.defers, u', by rw [hc'], .tuple #[], ?_, rfl, rfl, h2, h3⟩
      simp [results, hres]
    cases e with
    | normal => obtain ⟨fr, h1, h2, h3⟩ := h2; exact fin fr h1 h2 h3
    | ret => obtain ⟨fr, h1, h2, h3⟩ := h2; exact fin fr h1 h2 h3
    | exit id => obtain ⟨fr, h1, h2, h3⟩ := h2; exact h3.elim
    | goto l => obtain ⟨fr, h1, h2, h3⟩ := h2; exact h3.elim
    | panic c => exact h2.elim
    | outgrown => exact h2.elim
  have hw0 : Region.wanted o0 (yielded #[o0, o1] a0.tmps) = true := by simp [Region.wanted, b1]
  show wpOpsS P #[o0, o1] _ [0, 1] a0 (c₀ :: cs) w
  unfold wpOpsS
  have g0 : (#[o0, o1] : Array Oper)[0]? = some o0 := rfl
  rw [g0]
  simp only [hw0, if_true, hrun0]
  cases hu with
  | ret =>
    have : recoverD (c₀ :: cs) = none := by simp [recoverD, hc]
    rw [this]
    exact key c₀ (by rw [← hc])
  | pan =>
    have : recoverD (c₀ :: cs) = some (rv, { c₀ with mode := .panicking [{ v := rv, recovered := true }] } :: cs) := by simp [recoverD, hc]
    rw [this]
    exact key _ rfl

/-- The deferred closure g is run in mode u, and leaves mode u'. -/
structure VClos (P : Program) (g : FuncId) (args : Array Value) (u u' : FrameMode) (H : Heap) (K : Heap → Prop) : Prop where
  in_ ::
  out_ : ∀ w : World, w.heap = H → CallsD P g args u w fun e u2 w' => e = .returned (.tuple #[]) ∧ u2 = u' ∧ Env w w' ∧ K w'.heap
theorem VClos.mk {P : Program} {g : FuncId} {args : Array Value} {u u' : FrameMode} {H : Heap} {K R : Heap → Prop} (h : ∀ w : World, w.heap = H → CallsD P g args u w fun e u2 w' => e = .returned (.tuple #[]) ∧ u2 = u' ∧ Env w w' ∧ R w'.heap) (k : ∀ H', R H' → K H') : VClos P g args u u' H K :=
  ⟨fun w hw => (h w hw).mono fun e u2 w' ⟨h1, h2, h3, h4⟩ => ⟨h1, h2, h3, k _ h4⟩⟩
def defB (o1 o2 : Oper) (tc : Nat) (g : FuncId) (cap : Array Operand) : Prop :=
  o1.op = .makeFunc (.func g) #[] cap ∧ o1.guard = none ∧ o1.dst = some tc ∧ (∃ ats, o2.op = .defer { callee := .value (.tmp tc), args := #[], argTypes := ats }) ∧ o2.guard = none ∧ o2.dst = none
abbrev dfr (g : FuncId) (vs : List Value) : Deferred := { target := .fn (.func g) vs.toArray, args := #[] }
theorem FnOk.of_defer {P : Program} {f : FuncId} {fn : Func} {r0 A B : Code} {idD : Nat} {o1 o2 : Oper} {tc : Nat} {g : FuncId} {cap : Array Operand} {args : Array Value} {H : Heap} {R : Value → Heap → Prop} (hf : P.funcs[f]? = some fn)
    (hb : fn.body = some (.seq r0 (.seq A (.seq (.region idD #[o1, o2] false) B)))) (hcall : ∀ w : World, (callFunc f args).run P w = .ok (.enter f args) w) (hD : defB o1 o2 tc g cap) (hg : ∀ (vs : Array Value) (w : World), (callFunc g vs).run P w = .ok (.enter g vs) w)
    (h : normK (args.toList ++ List.replicate (fn.ntmps - args.size) undef) fun fr =>
      vc P r0 fr H (fun fr1 H1 => vc P A fr1 H1 (fun fr2 H2 => evsK fr2 cap.toList fun vs => wrK fr2 tc (.func (.func g) #[] vs.toArray) fun fr3 => rdK fr3 tc fun fv => fv = .func (.func g) #[] vs.toArray ∧
        vcP P [dfr g vs] (fun fr4 x H4 => VClos P g vs.toArray (.panicking (pe x)) (.panicking [{ v := x, recovered := true }]) H4 fun H5 => resL P fn.results.toList fr4 H5 fun us => R (resV us) H5) B fr3 H2
          (fun fr4 H4 => VClos P g vs.toArray .returning .returning H4 fun H5 => resL P fn.results.toList fr4 H5 fun us => R (resV us) H5) []
          (fun fr4 H4 => VClos P g vs.toArray .returning .returning H4 fun H5 => resL P fn.results.toList fr4 H5 fun us => R (resV us) H5))
        [] (fun fr4 H4 => resL P fn.results.toList fr4 H4 fun us => R (resV us) H4)) [] (fun fr4 H4 => resL P fn.results.toList fr4 H4 fun us => R (resV us) H4)) :
    FnOk P f args H R := by
  intro w hw
  subst hw
  refine ⟨hcall w, ?_⟩
  rw [normK_eq] at h
  obtain ⟨d1, d2, d3, ⟨ats, d4⟩, d5, d6⟩ := hD
  refine calls_of_wp_defers hf hb ?_
  let a0 : Act := { tmps := args ++ Array.replicate (fn.ntmps - args.size) undef, defers := [] }
  have hat0 : At (args.toList ++ List.replicate (fn.ntmps - args.size) undef) a0 := ⟨by simp [a0], rfl⟩
  have early : ∀ (fr : Fr) (a' : Act) (w' : World), At fr a' → Env w w' → (resL P fn.results.toList fr w'.heap fun us => R (resV us) w'.heap) → Leaves P fn a'.tmps (fun e w' => ∃ v, e = .returned v ∧ Env w w' ∧ R v w'.heap) a'.defers .returning w' := by
    intro fr a' w' h1 h2 h3
    rw [h1.defers]
    obtain ⟨v, e1, e2⟩ := results_sound (fn := fn) (ds := []) (R := fun v => R v w'.heap) ⟨h1.tmps, h1.defers⟩ h3
    exact ⟨v, e1, v, rfl, h2, e2⟩
  refine wp_seq (Code.wp_mono ?_ (vc_sound r0 _ _ _ _ a0 w hat0 h))
  intro e a1 w1 h1
  cases e with
  | ret => obtain ⟨fr, k1, k2, k3⟩ := h1; exact early fr a1 w1 k1 k2 k3
  | exit id => obtain ⟨fr, k1, k2, k3⟩ := h1; exact k3.elim
  | goto l => obtain ⟨fr, k1, k2, k3⟩ := h1; exact k3.elim
  | panic c => exact h1.elim
  | outgrown => exact h1.elim
  | normal =>
  obtain ⟨fr1, k1, k2, k3⟩ := h1
  refine wp_seq (Code.wp_mono ?_ (vc_sound A _ _ _ _ a1 w1 k1 k3))
  intro e a2 w2 h2
  cases e with
  | ret => obtain ⟨fr, m1, m2, m3⟩ := h2; exact early fr a2 w2 m1 (k2.trans m2) m3
  | exit id => obtain ⟨fr, m1, m2, m3⟩ := h2; exact m3.elim
  | goto l => obtain ⟨fr, m1, m2, m3⟩ := h2; exact m3.elim
  | panic c => exact h2.elim
  | outgrown => exact h2.elim
  | normal =>
  obtain ⟨fr2, m1, m2, m3⟩ := h2
  have m3 : evsK fr2 cap.toList _ := m3
  rw [evsK_eq] at m3
  simp only [wrK_eq, rdK_eq] at m3
  obtain ⟨m4, m5⟩ := m3
  have he2 := k2.trans m2
  have hr1 : (execOp a2.eval o1).run P w2 = .ok (.value (.func (.func g) #[] (cap.toList.map (evF fr2)).toArray)) w2 := by
    rw [m1.evalF]
    simp only [execOp, d1]
    simp only [← Array.toList_map, Array.toArray_toList]
    simp [Instr.makeFunc]
  have hat3 := m1.put o1.dst (.func (.func g) #[] (cap.toList.map (evF fr2)).toArray)
  rw [d3] at hat3
  have hr2 : (execOp (a2.put o1.dst (.func (.func g) #[] (cap.toList.map (evF fr2)).toArray)).eval o2).run P w2 = .ok (.defer (dfr g (cap.toList.map (evF fr2)))) w2 := by
    rw [d3, hat3.evalF]
    simp only [execOp, d4, resolve]
    have : evF (fr2.set tc (.func (.func g) #[] (cap.toList.map (evF fr2)).toArray)) (.tmp tc) = .func (.func g) #[] (cap.toList.map (evF fr2)).toArray := m4
    simp [this, Deferred.ofValue]
  refine wp_seq ?_
  refine wp_region_lit (l := [o1, o2]) ?_
  have w1 : Region.wanted o1 (yielded #[o1, o2] a2.tmps) = true := by simp [Region.wanted, d2]
  have w2' : ∀ tm, Region.wanted o2 (yielded #[o1, o2] tm) = true := fun tm => by simp [Region.wanted, d5]
  unfold wpList
  simp only [w1, if_true]
  refine .inl ?_
  unfold Oper.wp
  rw [hr1]
  simp only [Oper.upon]
  unfold wpList
  simp only [w2', if_true]
  refine .inl ?_
  unfold Oper.wp
  rw [hr2]
  simp only [Oper.upon, wpList, Exit.then]
  rw [d3]
  have hat4 : AtX [dfr g (cap.toList.map (evF fr2))] (fr2.set tc (.func (.func g) #[] (cap.toList.map (evF fr2)).toArray)) ({ (a2.put (some tc) (.func (.func g) #[] (cap.toList.map (evF fr2)).toArray)) with defers := dfr g (cap.toList.map (evF fr2)) :: (a2.put (some tc) (.func (.func g) #[] (cap.toList.map (evF fr2)).toArray)).defers }.put o2.dst undef) := by
    rw [d6]
    exact ⟨hat3.tmps, by show _ :: _ = _; rw [hat3.defers]⟩
  refine Code.wp_mono ?_ (vcP_sound B _ _ _ _ _ w2 hat4 m5)
  intro e a5 w5 h5
  have inv : ∀ w : World, (invoke (.fn (.func g) (cap.toList.map (evF fr2)).toArray) #[]).run P w = .ok (.enter g (cap.toList.map (evF fr2)).toArray) w := fun w => by
    simp only [invoke]
    rw [Array.empty_append]
    exact hg _ w
  have fin : ∀ fr, AtX [dfr g (cap.toList.map (evF fr2))] fr a5 → Env w2 w5 → (VClos P g (cap.toList.map (evF fr2)).toArray .returning .returning w5.heap fun H5 => resL P fn.results.toList fr H5 fun us => R (resV us) H5) →
      Leaves P fn a5.tmps (fun e w' => ∃ v, e = .returned v ∧ Env w w' ∧ R v w'.heap) a5.defers .returning w5 := by
    intro fr n1 n2 n3
    rw [n1.defers]
    refine leaves_cons (fun h => by cases h) (inv w5) ((n3.out_ w5 rfl).mono ?_)
    rintro e u w6 ⟨rfl, rfl, q1, q2⟩
    obtain ⟨v, e1, e2⟩ := results_sound (fn := fn) (R := fun v => R v w6.heap) n1 q2
    exact ⟨v, e1, v, rfl, (he2.trans n2).trans q1, e2⟩
  cases e with
  | normal => obtain ⟨fr, n1, n2, n3⟩ := h5; exact fin fr n1 n2 n3
  | ret => obtain ⟨fr, n1, n2, n3⟩ := h5; exact fin fr n1 n2 n3
  | exit id => obtain ⟨fr, n1, n2, n3⟩ := h5; exact n3.elim
  | goto l => obtain ⟨fr, n1, n2, n3⟩ := h5; exact n3.elim
  | outgrown => exact h5.elim
  | panic c =>
    obtain ⟨fr, n1, n2, x, rfl, n3⟩ := h5
    show Leaves P fn a5.tmps _ a5.defers (.panicking (pe x)) w5
    rw [n1.defers]
    refine leaves_cons (fun h => by cases h) (inv w5) ((n3.out_ w5 rfl).mono ?_)
    rintro e u w6 ⟨rfl, rfl, q1, q2⟩
    obtain ⟨v, e1, e2⟩ := results_sound (fn := fn) (R := fun v => R v w6.heap) n1 q2
    exact ⟨v, e1, v, rfl, (he2.trans n2).trans q1, e2⟩
def slotOf : ResultVar → Nat
  | .tmp t => t
  | .cell a _ => a
theorem rd_set_ne {fr : Fr} {d t : Nat} {v : Value} (h : d ≠ t) : rd (fr.set d v) t = rd fr t := by
  unfold rd
  rw [List.getD_eq_getElem?_getD, List.getD_eq_getElem?_getD, List.getElem?_set_ne h]
theorem resL_set {P : Program} {fr : Fr} {d : Nat} {v : Value} {H : Heap} : ∀ {rs : List ResultVar} {R : List Value → Prop}, (∀ r ∈ rs, d ≠ slotOf r) → resL P rs (fr.set d v) H R → resL P rs fr H R
  | [], R, _, h => h
  | .tmp t :: rs, R, hd, h => by
    have h' : rdK (fr.set d v) t (fun v' => resL P rs (fr.set d v) H fun vs => R (v' :: vs)) := h
    show rdK fr t (fun v' => resL P rs fr H fun vs => R (v' :: vs))
    rw [rdK_eq] at h' ⊢
    have hne : d ≠ t := hd _ List.mem_cons_self
    rw [rd_set_ne hne] at h'
    exact resL_set (fun r hr => hd r (List.mem_cons_of_mem _ hr)) h'
  | .cell x t :: rs, R, hd, h => by
    have h' : rdK (fr.set d v) x (fun p => ldK P t p H fun v' => resL P rs (fr.set d v) H fun vs => R (v' :: vs)) := h
    show rdK fr x (fun p => ldK P t p H fun v' => resL P rs fr H fun vs => R (v' :: vs))
    rw [rdK_eq] at h' ⊢
    have hne : d ≠ x := hd _ List.mem_cons_self
    rw [rd_set_ne hne] at h'
    have e : (fun v' => resL P rs (fr.set d v) H fun vs => R (v' :: vs)) = fun v' => resL P rs (fr.set d v) H fun vs => R (v' :: vs) := rfl
    revert h'
    unfold ldK
    generalize rd fr x = p
    intro h'
    split at h'
    · obtain ⟨v', e1, e2⟩ := h'.out_
      exact ⟨⟨v', e1, resL_set (fun r hr => hd r (List.mem_cons_of_mem _ hr)) e2⟩⟩
    · exact h'.elim
theorem blind_clos {P : Program} {g : FuncId} {vs : Array Value} {rs : List ResultVar} {R : Value → Heap → Prop} {l : List Oper} (hb : (l.all fun o => match o.dst with | none => true | some d => rs.all fun r => !(d == slotOf r)) = true) :
    Blind (fun fr4 x H4 => VClos P g vs (.panicking (pe x)) (.panicking [{ v := x, recovered := true }]) H4 fun H5 => resL P rs fr4 H5 fun us => R (resV us) H5) l := by
  intro o ho d hd fr v x H h
  have h1 := List.all_eq_true.1 hb o ho
  rw [hd] at h1
  refine VClos.mk h.out_ fun H' h2 => resL_set (fun r hr => ?_) h2
  have := List.all_eq_true.1 h1 r hr
  simpa using this
/-- A function that neither panics nor defers, whatever its results. -/
theorem FnOk.of_vcL {P : Program} {f : FuncId} {fn : Func} {c : Code} {args : Array Value} {H : Heap} {R : Value → Heap → Prop} (hf : P.funcs[f]? = some fn) (hb : fn.body = some c)
    (hcall : ∀ w : World, (callFunc f args).run P w = .ok (.enter f args) w)
    (h : normK (args.toList ++ List.replicate (fn.ntmps - args.size) undef) fun fr => vc P c fr H (fun fr' H' => resL P fn.results.toList fr' H' fun us => R (resV us) H') [] (fun fr' H' => resL P fn.results.toList fr' H' fun us => R (resV us) H')) :
    FnOk P f args H R := by
  intro w hw
  subst hw
  refine ⟨hcall w, ?_⟩
  refine calls_of_wp hf hb ?_
  rw [normK_eq] at h
  have hat : At (args.toList ++ List.replicate (fn.ntmps - args.size) undef) { tmps := args ++ Array.replicate (fn.ntmps - args.size) undef, defers := [] } := ⟨by simp, rfl⟩
  refine Code.wp_mono ?_ (vc_sound c _ _ _ _ _ w hat h)
  intro e a' w' h2
  have fin : ∀ fr, At fr a' → Env w w' → (resL P fn.results.toList fr w'.heap fun us => R (resV us) w'.heap) → a'.defers = [] ∧ ∃ v, (results fn a'.tmps).run P w' = .ok v w' ∧ ∃ v', Ending.returned v = .returned v' ∧ Env w w' ∧ R v' w'.heap := by
    intro fr h1 h2 h3
    obtain ⟨v, hv, hR⟩ := results_sound (fn := fn) (ds := []) (R := fun v => R v w'.heap) ⟨h1.tmps, h1.defers⟩ h3
    exact ⟨h1.defers, v, hv, v, rfl, h2, hR⟩
  cases e with
  | normal => obtain ⟨fr, h1, h2, h3⟩ := h2; exact fin fr h1 h2 h3
  | ret => obtain ⟨fr, h1, h2, h3⟩ := h2; exact fin fr h1 h2 h3
  | exit id => obtain ⟨fr, h1, h2, h3⟩ := h2; exact h3.elim
  | goto l => obtain ⟨fr, h1, h2, h3⟩ := h2; exact h3.elim
  | panic c => exact h2.elim
  | outgrown => exact h2.elim
end Go.VC
/- Pieces at the ends of lists; storing with what stays. -/
set_option linter.unusedVariables false
set_option linter.unusedSimpArgs false
namespace Go.VC
section
variable {α : Type} {ps qs l : List α} {i j : Nat} {p q : α}
theorem lgL (h : ps[i]? = some p) : (ps ++ qs)[i]? = some p := by rw [List.getElem?_append_left (List.getElem?_eq_some_iff.1 h).1]; exact h
theorem lsL (h : ps[i]? = some p) : (ps ++ qs).set i q = ps.set i q ++ qs := List.set_append_left _ _ (List.getElem?_eq_some_iff.1 h).1
theorem lgR (ps l : List α) (j : Nat) : (ps ++ l)[ps.length + j]? = l[j]? := by
  rw [List.getElem?_append_right (Nat.le_add_right _ _)]; congr 1; omega
theorem lsR (ps l : List α) (j : Nat) (x : α) : (ps ++ l).set (ps.length + j) x = ps ++ l.set j x := by
  rw [List.set_append_right _ _ (Nat.le_add_right _ _)]; congr 2; omega
theorem lgS (h : ps[i]? = some p) : (ps.set i q)[i]? = some q := List.getElem?_set_self (List.getElem?_eq_some_iff.1 h).1
theorem lset (h : ps[i]? = some p) : ps.set i p = ps := by
  refine List.ext_getElem? fun j => ?_
  by_cases hj : i = j
  · subst hj; rw [lgS h, h]
  · rw [List.getElem?_set_ne hj]
theorem lgR0 (ps l : List α) : (ps ++ l)[ps.length]? = l[0]? := lgR ps l 0
theorem lsR0 (ps l : List α) (x : α) : (ps ++ l).set ps.length x = ps ++ l.set 0 x := lsR ps l 0 x
end
section
variable {B : Nat → Prop} {H0 H : Heap} {ps qs : List Pc} {e : TypeId} {b : Nat} {l : List Value}
theorem StB.lft (st : StB B H0 H (ps ++ qs)) : StB B H0 H ps :=
  ⟨st.old, st.lt0, st.size, fun p hp => st.oks p (List.mem_append_left _ hp), fun p hp => st.rng p (List.mem_append_left _ hp), (List.pairwise_append.1 st.dis).1⟩
theorem StB.subl (st : StB B H0 H ps) (h : List.Sublist qs ps) : StB B H0 H qs :=
  ⟨st.old, st.lt0, st.size, fun p hp => st.oks p (h.subset hp), fun p hp => st.rng p (h.subset hp), st.dis.sublist h⟩
theorem stNBa {P : Program} {t o : Nat} {cs : List Value} {K : Heap → Prop} (st : StB B H0 H ps) (i : Nat) (ht : (P.info? t).map (·.size) = some cs.length) (hp : ps[i]? = some (pB e b l)) (ho : o + cs.length ≤ l.length) (hv : cs.all (·.oneCell') = true)
    (k : ∀ H', StB B H0 H' (ps.set i (pB e b (splice l o cs))) → Agr (fun k => k ≠ b) H H' → H'.size = H.size → K H') : VEffU P (Instr.storeAt t (.pointer (some ⟨b, o, none⟩)) (.agg cs.toArray)) H K := by
  refine VC.stN ht (st.at_ i hp) ho hv ?_
  intro H' hb' ha' hs'
  exact k H' (st.upd i hp (ha'.mono fun k hk hkb => hk.2 hkb) _ hb' (fun k hk => .inl hk) (fun k hk => by rw [hs']; exact (st.in_ i hp hk).2) (by omega)) ha' hs'
theorem st1Ba {P : Program} {t o : Nat} {v : Value} {K : Heap → Prop} (st : StB B H0 H ps) (i : Nat) (ht : CellT P t) (hp : ps[i]? = some (pB e b l)) (ho : o < l.length) (hv : v.oneCell' = true)
    (k : ∀ H', StB B H0 H' (ps.set i (pB e b (l.set o v))) → Agr (fun k => k ≠ b) H H' → H'.size = H.size → K H') : VEffU P (Instr.storeAt t (.pointer (some ⟨b, o, none⟩)) v) H K := by
  refine VC.st1 ht (st.at_ i hp) ho hv ?_
  intro H' hb' ha' hs'
  exact k H' (st.upd i hp (ha'.mono fun k hk hkb => hk.2 hkb) _ hb' (fun k hk => .inl hk) (fun k hk => by rw [hs']; exact (st.in_ i hp hk).2) (by omega)) ha' hs'
theorem splAll {l cs : List Value} (h : cs.length = l.length) : splice l 0 cs = cs := by unfold splice; simp [h]
end
end Go.VC
/- How a class is read: the plain law; class.reader's methods: the walks. -/
set_option linter.unusedVariables false
set_option linter.unusedSimpArgs false
set_option maxRecDepth 100000
namespace Go.Proofs.YtlnmhfhdjnenoaaGreatDoor
open Go.VC Go.Lib
/-! ### the plain law -/
/-- The byte at i; 256 behind the end. -/
def bt (t : ByteArray) (i : Nat) : Nat := match t.data[i]? with
  | some b => b.toNat
  | none => 256
theorem bt_in {t : ByteArray} {i : Nat} (h : i < t.size) : ∃ b, t.data[i]? = some b ∧ bt t i = b.toNat ∧ bt t i < 256 := by
  have hl : i < t.data.size := h
  refine ⟨t.data[i], Array.getElem?_eq_getElem hl, ?_, ?_⟩
  · unfold bt; rw [Array.getElem?_eq_getElem hl]
  · unfold bt; rw [Array.getElem?_eq_getElem hl]; exact UInt8.toNat_lt _
theorem bt_out {t : ByteArray} {i : Nat} (h : ¬ i < t.size) : bt t i = 256 := by
  have hl : ¬ i < t.data.size := h
  unfold bt; rw [Array.getElem?_eq_none (by omega)]
theorem bt_lt {t : ByteArray} {i : Nat} (h : bt t i ≠ 256) : i < t.size := by
  apply Classical.byContradiction
  intro hn
  exact h (bt_out hn)
def hexM (c : Nat) : Option Nat := if 48 ≤ c ∧ c ≤ 57 then some (c - 48) else if 97 ≤ c ∧ c ≤ 102 then some (c - 87) else none
theorem hexM_lt {c v : Nat} (h : hexM c = some v) : v < 16 := by
  unfold hexM at h
  split at h
  · cases h; omega
  · split at h
    · cases h; omega
    · cases h
def hexS : ByteArray := ⟨#[48, 49, 50, 51, 52, 53, 54, 55, 56, 57, 97, 98, 99, 100, 101, 102]⟩
theorem hexM_index (c : Nat) (hc : c < 256) : indexByte hexS.data.toList (UInt8.ofNat c) = match hexM c with | some v => (v : Int) | none => -1 := by
  have : ∀ c : Fin 256, indexByte hexS.data.toList (UInt8.ofNat c.1) = match hexM c.1 with | some v => (v : Int) | none => -1 := by decide +kernel
  exact this ⟨c, hc⟩
/-- What stands behind a stroke: the place of the fault, or the byte and the place behind it. -/
def escM (t : ByteArray) (i : Nat) : Sum Nat (Nat × Nat) :=
  if bt t i = 256 then .inl i else if bt t i = 110 then .inr (10, i + 1) else if bt t i = 114 then .inr (13, i + 1) else if bt t i = 116 then .inr (9, i + 1)
  else if bt t i = 120 then match hexM (bt t (i + 1)) with
    | none => .inl (i + 1)
    | some a => match hexM (bt t (i + 2)) with
      | none => .inl (i + 2)
      | some b => .inr (16 * a + b, i + 3)
  else if bt t i < 32 ∨ 126 < bt t i ∨ (48 ≤ bt t i ∧ bt t i ≤ 57) ∨ (97 ≤ bt t i ∧ bt t i ≤ 122) ∨ (65 ≤ bt t i ∧ bt t i ≤ 90) then .inl i else .inr (bt t i, i + 1)
/-- A single, where the bytes of s are barred. -/
def oneM (t s : ByteArray) (i : Nat) : Sum Nat (Nat × Nat) :=
  if bt t i = 92 then escM t (i + 1) else if bt t i < 32 ∨ 126 < bt t i ∨ spB s (bt t i) = true then .inl i else .inr (bt t i, i + 1)
def dashM (t : ByteArray) (lo j : Nat) (x : BitVec 256) (f : Nat → BitVec 256 → Sum Nat (BitVec 256 × Nat)) : Sum Nat (BitVec 256 × Nat) :=
  if bt t j = 45 then (match oneM t innS (j + 1) with
    | .inl e => .inl e
    | .inr (hi, k) => if hi < lo then .inl (j + 1) else f k (x ||| spanS lo hi))
  else f j (x ||| spanS lo lo)
/-- The inside of brackets. -/
def memM (t : ByteArray) : Nat → Nat → BitVec 256 → Sum Nat (BitVec 256 × Nat)
  | 0, i, _ => .inl i
  | n + 1, i, x => if bt t i = 93 then .inr (x, i + 1) else match oneM t innS i with
    | .inl e => .inl e
    | .inr (lo, j) => dashM t lo j x (memM t n)
def bracM (t : ByteArray) (i : Nat) : Sum Nat (BitVec 256 × Nat) :=
  match memM t (t.size + 1) (if bt t i = 94 then i + 1 else i) 0#256 with
  | .inl e => .inl e
  | .inr (x, k) => .inr (if bt t i = 94 then ~~~x else x, k)
/-- The set that is written at i, and the place behind it. -/
def readSet (t : ByteArray) (i : Nat) : Sum Nat (BitVec 256 × Nat) :=
  if bt t i = 46 then .inr (~~~(spanS 10 10), i + 1) else if bt t i = 91 then bracM t (i + 1) else match oneM t specS i with
  | .inl e => .inl e
  | .inr (b, k) => .inr (spanS b b, k)
theorem escM_ok {t : ByteArray} {i : Nat} {c j : Nat} (h : escM t i = .inr (c, j)) : c < 256 ∧ i < j ∧ j ≤ t.size := by
  unfold escM at h
  split at h
  · cases h
  · rename_i h0
    have hi := bt_lt h0
    obtain ⟨b, -, -, hb⟩ := bt_in hi
    split at h
    · cases h; omega
    · split at h
      · cases h; omega
      · split at h
        · cases h; omega
        · split at h
          · split at h
            · cases h
            · rename_i a ha
              split at h
              · cases h
              · rename_i b2 hb2
                cases h
                have h1 := hexM_lt ha
                have h2 := hexM_lt hb2
                have h3 : i + 2 < t.size := bt_lt fun e => by rw [e] at hb2; cases hb2
                omega
          · split at h
            · cases h
            · cases h; omega
theorem oneM_ok {t s : ByteArray} {i : Nat} {c j : Nat} (h : oneM t s i = .inr (c, j)) : c < 256 ∧ i < j ∧ j ≤ t.size := by
  unfold oneM at h
  split at h
  · have := escM_ok h; omega
  · split at h
    · cases h
    · rename_i h1
      cases h
      have hi : i < t.size := bt_lt fun e => h1 (.inr (.inl (by omega)))
      obtain ⟨b, -, -, hb⟩ := bt_in hi
      omega
theorem memM_ok {t : ByteArray} : ∀ {n i : Nat} {x y : BitVec 256} {k : Nat}, memM t n i x = .inr (y, k) → i < k ∧ k ≤ t.size
  | 0, i, x, y, k, h => by cases h
  | n + 1, i, x, y, k, h => by
    unfold memM at h
    split at h
    · rename_i h0
      cases h
      have hi : i < t.size := bt_lt fun e => by omega
      omega
    · split at h
      · cases h
      · rename_i lo j h1
        have := oneM_ok h1
        unfold dashM at h
        split at h
        · split at h
          · cases h
          · rename_i hi k2 h2
            have := oneM_ok h2
            split at h
            · cases h
            · have := memM_ok h; omega
        · have := memM_ok h; omega
theorem readSet_ok {t : ByteArray} {i : Nat} {y : BitVec 256} {k : Nat} (h : readSet t i = .inr (y, k)) : i < k ∧ k ≤ t.size := by
  unfold readSet at h
  split at h
  · rename_i h0
    cases h
    have hi : i < t.size := bt_lt fun e => by omega
    omega
  · split at h
    · unfold bracM at h
      split at h
      · cases h
      · rename_i x k2 h1
        cases h
        have := memM_ok h1
        split at this <;> omega
    · split at h
      · cases h
      · rename_i b k2 h1
        cases h
        have := oneM_ok h1
        omega
/-! ### the walks -/
theorem rstrT : Tryz.prog.underlying 9 = some .string := rfl
abbrev rdL (t : ByteArray) (i : Nat) : List Value := [.string t, .int .i64 (i : Int)]
abbrev pRd (r : Nat) (t : ByteArray) (i : Nat) : Pc := pB 206 r (rdL t i)
def faultV (c i : Nat) : Value := .iface 27 (.agg #[.int .i64 (c : Int), .int .i64 (i : Int), .string ⟨#[]⟩])
set_option maxHeartbeats 4000000 in
theorem peek_p {H : Heap} {r i : Nat} {t : ByteArray} (hb : Blk H r 206 (rdL t i)) : Pure Tryz.prog 139 #[.pointer (some ⟨r, 0, none⟩)] H (.tuple #[.int .u8 (if bt t i = 256 then 0 else (bt t i : Int)), .bool (decide (bt t i ≠ 256))]) := by
  refine FnOk.of_vc Tryz.func139 rfl (Tryz.call139 _) ?_
  (conv => whnf); refine VDraw.lex rfl (by kernel_rfl) ?_
  (conv => whnf); refine VC.fa fl206_1 ?_
  (conv => whnf); refine ld1 (v := .int .i64 (i : Int)) ct3 (by rw [hb.cell]; rfl) trivial ?_
  (conv => whnf); refine VC.fa fl206_0 ?_
  (conv => whnf); refine ld1 (v := .string t) ct9 (by rw [hb.cell]; rfl) trivial ?_
  by_cases hi : i < t.size
  · obtain ⟨b, h1, h2, h3⟩ := bt_in hi
    have d1 : decide ((i : Int) < (t.size : Int)) = true := decide_eq_true (by omega)
    (conv => whnf); rw [d1]
    (conv => whnf); refine VDraw.lex rfl (by kernel_rfl) ?_
    (conv => whnf); refine VC.fa fl206_0 ?_
    (conv => whnf); refine ld1 (v := .string t) ct9 (by rw [hb.cell]; rfl) trivial ?_
    (conv => whnf); refine VC.fa fl206_1 ?_
    (conv => whnf); refine ld1 (v := .int .i64 (i : Int)) ct3 (by rw [hb.cell]; rfl) trivial ?_
    (conv => whnf); refine vidxs rstrT rfl h1 ?_
    (conv => whnf)
    refine ⟨?_, Agr.refl _ _⟩
    rw [if_neg (by omega), decide_eq_true (by omega), h2]
  · have h2 := bt_out hi
    have d1 : decide ((i : Int) < (t.size : Int)) = false := decide_eq_false (by omega)
    (conv => whnf); rw [d1]
    (conv => whnf)
    refine ⟨?_, Agr.refl _ _⟩
    rw [if_pos h2, decide_eq_false (by omega)]
theorem rfail_p {H : Heap} {r : Nat} {e : Nat} : FnOkP Tryz.prog 140 #[.pointer (some ⟨r, 0, none⟩), .int .i64 (e : Int)] H (fun _ _ => False) (fun x H' => x = faultV 10 e ∧ H' = H) := by
  refine FnOkP.of_vc Tryz.func140 rfl (Tryz.call140 _) ?_
  (conv => whnf); refine vbuildS Tryz.underlying27 rfl _ rfl [.int .i64 10, .int .i64 (e : Int), .string ⟨#[]⟩] rfl ?_
  (conv => whnf)
  exact ⟨rfl, rfl⟩
theorem set_self {α : Type} {ps : List α} {i : Nat} {p : α} (h : ps[i]? = some p) : ps.set i p = ps := by
  refine List.ext_getElem? fun j => ?_
  by_cases hj : i = j
  · subst hj
    rw [List.getElem?_set_self (List.getElem?_eq_some_iff.1 h).1, h]
  · rw [List.getElem?_set_ne hj]
theorem set_get {α : Type} {ps : List α} {i : Nat} {p q : α} (h : ps[i]? = some p) : (ps.set i q)[i]? = some q := List.getElem?_set_self (List.getElem?_eq_some_iff.1 h).1
set_option maxHeartbeats 4000000 in
theorem hex_p {B : Nat → Prop} {H0 H : Heap} {ps : List Pc} {k r i : Nat} {t : ByteArray} (ht : t.size ≤ 1152921504606846976) (st : StB B H0 H ps) (hp : ps[k]? = some (pRd r t i)) :
    FnOkP Tryz.prog 143 #[.pointer (some ⟨r, 0, none⟩)] H (fun v H' => ∃ c : Nat, hexM (bt t i) = some c ∧ v = .int .u8 (c : Int) ∧ StB B H0 H' (ps.set k (pRd r t (i + 1))))
      (fun x H' => hexM (bt t i) = none ∧ x = faultV 10 i ∧ StB B H0 H' (ps.set k (pRd r t i))) := by
  refine FnOkP.of_vc Tryz.func143 rfl (Tryz.call143 _) ?_
  (conv => whnf); refine VCallP.of (pures (peek_p (st.blk k hp)) fun H1 ha1 => ?_)
  have st1 := st.call ha1
  by_cases h0 : bt t i = 256
  · rw [if_pos h0, decide_eq_false (by omega)]
    (conv => whnf); refine VCallP.of (pures (index_p hexS 0 H1) fun H2 ha2 => ?_)
    have st2 := st1.call ha2
    (conv => whnf); refine VSeqP.run ?_
    (conv => whnf); refine VC.fa fl206_1 ?_
    (conv => whnf); refine ld1 (v := .int .i64 ((i : Nat) : Int)) ct3 (by rw [(st2.blk k hp).cell]; rfl) trivial ?_
    (conv => whnf); refine VCallP.mk rfail_p (fun _ _ h => h.elim) ?_
    rintro _ _ ⟨rfl, rfl⟩
    exact ⟨by rw [h0]; rfl, rfl, by rw [set_self hp]; exact st2⟩
  · have hi := bt_lt h0
    obtain ⟨b, hb1, hb2, hb3⟩ := bt_in hi
    rw [if_neg h0, decide_eq_true (by omega)]
    (conv => whnf); refine VCallP.of (pures (index_p hexS (bt t i) H1) fun H2 ha2 => ?_)
    have st2 := st1.call ha2
    rw [hexM_index _ hb3]
    cases hx : hexM (bt t i) with
    | none =>
      (conv => whnf); refine VSeqP.run ?_
      (conv => whnf); refine VC.fa fl206_1 ?_
      (conv => whnf); refine ld1 (v := .int .i64 ((i : Nat) : Int)) ct3 (by rw [(st2.blk k hp).cell]; rfl) trivial ?_
      (conv => whnf); refine VCallP.mk rfail_p (fun _ _ h => h.elim) ?_
      rintro _ _ ⟨rfl, rfl⟩
      exact ⟨rfl, rfl, by rw [set_self hp]; exact st2⟩
    | some c =>
      have hc := hexM_lt hx
      have d1 : decide ((c : Int) < 0) = false := decide_eq_false (by omega)
      (conv => whnf); refine VSeqP.run ?_
      (conv => whnf); rw [d1]
      (conv => whnf); refine VC.fa fl206_1 ?_
      (conv => whnf); refine ld1 (v := .int .i64 ((i : Nat) : Int)) ct3 (by rw [(st2.blk k hp).cell]; rfl) trivial ?_
      (conv => whnf); rw [w64 (x := ((i : Nat) : Int) + 1) (by omega) (by omega)]
      (conv => whnf); refine VC.fa fl206_1 ?_
      (conv => whnf); refine st1B st2 k ct3 hp (by simp) rfl fun H3 st3 => ?_
      (conv => whnf); rw [w8 (x := (c : Int)) (by omega) (by omega)]
      (conv => whnf)
      exact ⟨c, rfl, rfl, st3⟩
theorem esc_at {B : Nat → Prop} {H0 H : Heap} {ps : List Pc} (hE : EscH H0) (hB : B 0) (st : StB B H0 H ps) : EscH H :=
  ⟨hE.1.eq (st.old _ hB), st.up hB⟩
theorem or16 {a b : Nat} (hb : b < 16) : a * 2 ^ 4 ||| b = 16 * a + b := by
  have := Nat.two_pow_add_eq_or_of_lt (i := 4) (b := b) (by simpa using hb) a
  rw [Nat.mul_comm a, ← this]
set_option maxHeartbeats 16000000 in
theorem escape_p {B : Nat → Prop} {H0 H : Heap} {ps : List Pc} {k r i : Nat} {t : ByteArray} (hE : EscH H0) (hEB : B 0) (ht : t.size ≤ 1152921504606846976) (st : StB B H0 H ps) (hp : ps[k]? = some (pRd r t i)) :
    FnOkP Tryz.prog 142 #[.pointer (some ⟨r, 0, none⟩)] H (fun v H' => ∃ c j : Nat, escM t i = .inr (c, j) ∧ v = .int .u8 (c : Int) ∧ StB B H0 H' (ps.set k (pRd r t j)))
      (fun x H' => ∃ e j : Nat, escM t i = .inl e ∧ x = faultV 10 e ∧ StB B H0 H' (ps.set k (pRd r t j))) := by
  refine FnOkP.of_vc Tryz.func142 rfl (Tryz.call142 _) ?_
  (conv => whnf); refine VCallP.of (pures (peek_p (st.blk k hp)) fun H1 ha1 => ?_)
  have st1 := st.call ha1
  by_cases h0 : bt t i = 256
  · rw [if_pos h0, decide_eq_false (by omega)]
    (conv => whnf); refine VSeqP.run ?_
    (conv => whnf)
    (conv => whnf); refine VC.fa fl206_1 ?_
    (conv => whnf); refine ld1 (v := .int .i64 ((i : Nat) : Int)) ct3 (by rw [(st1.blk k hp).cell]; rfl) trivial ?_
    (conv => whnf); refine VCallP.mk rfail_p (fun _ _ h => h.elim) ?_
    rintro _ _ ⟨rfl, rfl⟩
    exact ⟨i, i, by unfold escM; rw [if_pos h0], rfl, by rw [set_self hp]; exact st1⟩
  have hi := bt_lt h0
  obtain ⟨b, hb1, hb2, hb3⟩ := bt_in hi
  rw [if_neg h0, decide_eq_true (by omega)]
  obtain ⟨c, hc⟩ : ∃ c, c = bt t i := ⟨_, rfl⟩
  rw [← hc] at h0 hb3 ⊢
  (conv => whnf); refine VSeqP.run ?_
  (conv => whnf); refine ldN (cs := escL) ag189 (esc_at hE hEB st1).1 trivial ?_
  (conv => whnf)
  refine VLoopP.mk [22] (fun n : Nat => [.int .i64 (n : Int)]) (fun n H1 => n ≤ 3 ∧ (∀ j, j < n → (escP j).1 ≠ c) ∧ StB B H0 H1 ps) (fun n _ => 3 - n) ?_ ?_
  · (conv => whnf)
    exact ⟨0, rfl, by omega, fun j hj => by omega, st1⟩
  · rintro n G junk1 ⟨hn, hno, stg⟩
    (conv => whnf); refine VIte.mk (fun hz => ?_) (fun hz => ?_) <;> simp only [decide_eq_true_eq, decide_eq_false_iff_not] at hz
    · have hex : escL.toArray.extract (n * 2) (n * 2 + 2) = #[.int .u8 ((escP n).1 : Int), .int .u8 ((escP n).2 : Int)] := by
        have : n = 0 ∨ n = 1 ∨ n = 2 := by omega
        rcases this with rfl | rfl | rfl <;> rfl
      have hsg : (escP n).1 = c → escM t i = .inr ((escP n).2, i + 1) := fun e => by
        have : n = 0 ∨ n = 1 ∨ n = 2 := by omega
        unfold escM
        rw [← hc, if_neg h0]
        rcases this with rfl | rfl | rfl <;> (subst e; rfl)
      have h1b : (escP n).1 < 256 ∧ (escP n).2 < 256 := by
        have : n = 0 ∨ n = 1 ∨ n = 2 := by omega
        rcases this with rfl | rfl | rfl <;> decide
      (conv => whnf); refine ixvN ar189 ag188 (by omega) (by omega) ?_
      rw [Int.toNat_natCast, hex]
      generalize hl : (escP n).1 = l at *
      generalize (escP n).2 = v at *
      (conv => whnf); refine valloc (.agg #[.int .u8 0, .int .u8 0]) [.int .u8 0, .int .u8 0] esc_z rfl ?_
      intro p2 H2 hp2 hs2 hb2 ha2
      have st2 := stg.box hp2 hs2 hb2 ha2
      (conv => whnf); refine stNB (cs := [.int .u8 (l : Int), .int .u8 (v : Int)]) st2 ps.length rfl (by rw [List.getElem?_append_right (Nat.le_refl _), Nat.sub_self]; rfl) (Nat.le_refl _) rfl fun H3 st3 => ?_
      rw [List.set_append_right _ _ (Nat.le_refl _), Nat.sub_self, splice_all (by rfl)] at st3
      have hb3 : Blk H3 p2 188 [.int .u8 (l : Int), .int .u8 (v : Int)] := st3.blk ps.length (by rw [List.getElem?_append_right (Nat.le_refl _), Nat.sub_self]; rfl)
      have hpk : (ps ++ [pB 188 p2 [.int .u8 (l : Int), .int .u8 (v : Int)]])[k]? = some (pRd r t i) := by
        rw [List.getElem?_append_left (List.getElem?_eq_some_iff.1 hp).1]; exact hp
      have cutR : ∀ {H' : Heap} {q : Pc}, StB B H0 H' ((ps ++ [pB 188 p2 [.int .u8 (l : Int), .int .u8 (v : Int)]]).set k q) → StB B H0 H' (ps.set k q) := fun h => by
        rw [List.set_append_left _ _ (List.getElem?_eq_some_iff.1 hp).1] at h
        exact ⟨h.old, h.lt0, h.size, fun p hp => h.oks p (List.mem_append_left _ hp), fun p hp => h.rng p (List.mem_append_left _ hp), (List.pairwise_append.1 h.dis).1⟩
      (conv => whnf); try (refine VSeqP.run ?_)
      (conv => whnf); refine VC.fa fl188_0 ?_
      (conv => whnf); refine ld1 (v := .int .u8 (l : Int)) ct5 (by rw [hb3.cell]; rfl) trivial ?_
      by_cases he : l = c
      · have d1 : ((l : Int) == (c : Int)) = true := by rw [he]; exact beq_self_eq_true _
        (conv => whnf); rw [d1]
        (conv => whnf); refine VC.fa fl206_1 ?_
        (conv => whnf); refine ld1 (v := .int .i64 ((i : Nat) : Int)) ct3 (by rw [(st3.blk k hpk).cell]; rfl) trivial ?_
        (conv => whnf); rw [w64 (x := ((i : Nat) : Int) + 1) (by omega) (by omega)]
        (conv => whnf); refine VC.fa fl206_1 ?_
        (conv => whnf); refine st1B st3 k ct3 hpk (by simp) rfl fun H4 st4 => ?_
        have hb4 : Blk H4 p2 188 [.int .u8 (l : Int), .int .u8 (v : Int)] := st4.blk ps.length (by
          rw [List.getElem?_set_ne (by have := (List.getElem?_eq_some_iff.1 hp).1; omega), List.getElem?_append_right (Nat.le_refl _), Nat.sub_self]; rfl)
        (conv => whnf); refine VC.fa fl188_1 ?_
        (conv => whnf); refine ld1 (v := .int .u8 (v : Int)) ct5 (by rw [hb4.cell]; rfl) trivial ?_
        (conv => whnf)
        exact ⟨v, i + 1, hsg he, rfl, cutR st4⟩
      · have d1 : ((l : Int) == (c : Int)) = false := beq_eq_false_iff_ne.2 (by omega)
        (conv => whnf); rw [d1]
        (conv => whnf); rw [w64 (x := (n : Int) + 1) (by omega) (by omega)]
        refine ⟨rfl, n + 1, rfl, ⟨by omega, fun j hj => ?_, ⟨st3.old, st3.lt0, st3.size, fun p hp => st3.oks p (List.mem_append_left _ hp), fun p hp => st3.rng p (List.mem_append_left _ hp), (List.pairwise_append.1 st3.dis).1⟩⟩, by omega⟩
        rcases Nat.lt_or_eq_of_le (Nat.le_of_lt_succ hj) with hj | rfl
        · exact hno j hj
        · rw [hl]; exact he
    · obtain rfl : n = 3 := by omega
      have n0 : (110 : Nat) ≠ c := hno 0 (by omega)
      have n1 : (114 : Nat) ≠ c := hno 1 (by omega)
      have n2 : (116 : Nat) ≠ c := hno 2 (by omega)
      have hes : escM t i = (if c = 120 then match hexM (bt t (i + 1)) with
          | none => .inl (i + 1)
          | some a => match hexM (bt t (i + 2)) with
            | none => .inl (i + 2)
            | some b => .inr (16 * a + b, i + 3)
        else if c < 32 ∨ 126 < c ∨ (48 ≤ c ∧ c ≤ 57) ∨ (97 ≤ c ∧ c ≤ 122) ∨ (65 ≤ c ∧ c ≤ 90) then .inl i else .inr (c, i + 1)) := by
        unfold escM
        rw [← hc, if_neg h0, if_neg (Ne.symm n0), if_neg (Ne.symm n1), if_neg (Ne.symm n2)]
      by_cases hx : c = 120
      · rw [if_pos hx] at hes
        have d1 : ((c : Int) == (120 : Int)) = true := by rw [hx]; rfl
        (conv => whnf); try (refine VSeqP.run ?_)
        (conv => whnf); rw [d1]
        (conv => whnf); refine VC.fa fl206_1 ?_
        (conv => whnf); refine ld1 (v := .int .i64 ((i : Nat) : Int)) ct3 (by rw [(stg.blk k hp).cell]; rfl) trivial ?_
        (conv => whnf); rw [w64 (x := ((i : Nat) : Int) + 1) (by omega) (by omega)]
        (conv => whnf); refine VC.fa fl206_1 ?_
        (conv => whnf); refine st1B stg k ct3 hp (by simp) rfl fun H4 st4 => ?_
        have hp4 : (ps.set k (pRd r t (i + 1)))[k]? = some (pRd r t (i + 1)) := set_get hp
        replace st4 : StB B H0 H4 (ps.set k (pRd r t (i + 1))) := st4
        (conv => whnf); refine VCallP.mk (hex_p ht st4 hp4) ?_ ?_
        · rintro _ H5 ⟨a, ha, rfl, st5⟩
          have hal := hexM_lt ha
          rw [List.set_set] at st5
          have hp5 : (ps.set k (pRd r t (i + 1 + 1)))[k]? = some (pRd r t (i + 1 + 1)) := set_get hp
          (conv => whnf); refine vshl (b := 4) (by decide) (inU8 (by omega)) ?_
          (conv => whnf); refine VCallP.mk (hex_p ht st5 hp5) ?_ ?_
          · rintro _ H6 ⟨b2, hb2', rfl, st6⟩
            have hbl := hexM_lt hb2'
            rw [List.set_set] at st6
            (conv => whnf); refine vor (inU8 (by omega)) (inU8 (by omega)) ?_
            rw [or16 hbl]
            (conv => whnf)
            exact ⟨16 * a + b2, i + 3, by rw [hes, ha]; show (match hexM (bt t (i + 1 + 1)) with | none => _ | some b => _) = _; rw [hb2'], rfl, st6⟩
          · rintro _ H6 ⟨hn, rfl, st6⟩
            rw [List.set_set] at st6
            exact ⟨i + 2, i + 2, by rw [hes, ha]; show (match hexM (bt t (i + 1 + 1)) with | none => _ | some b => _) = _; rw [hn], rfl, st6⟩
        · rintro _ H5 ⟨hn, rfl, st5⟩
          rw [List.set_set] at st5
          exact ⟨i + 1, i + 1, by rw [hes, hn], rfl, st5⟩
      · rw [if_neg hx] at hes
        have d1 : ((c : Int) == (120 : Int)) = false := beq_eq_false_iff_ne.2 (by omega)
        (conv => whnf); try (refine VSeqP.run ?_)
        (conv => whnf); rw [d1]
        clear d1
        (conv => whnf); refine VSeqP.run ?_
        (conv => whnf)
        by_cases hq00 : c < 32
        · skip
          have d1 : decide ((c : Int) < 32) = true := decide_eq_true (by omega)
          (conv => whnf); rw [d1]
          clear d1
          (conv => whnf)
          (conv => whnf); refine VC.fa fl206_1 ?_
          (conv => whnf); refine ld1 (v := .int .i64 ((i : Nat) : Int)) ct3 (by rw [(stg.blk k hp).cell]; rfl) trivial ?_
          (conv => whnf); refine VCallP.mk rfail_p (fun _ _ h => h.elim) ?_
          rintro _ _ ⟨rfl, rfl⟩
          exact ⟨i, i, by rw [hes, if_pos (by omega)], rfl, by rw [set_self hp]; exact stg⟩
        · skip
          have d1 : decide ((c : Int) < 32) = false := decide_eq_false (by omega)
          (conv => whnf); rw [d1]
          clear d1
          by_cases hq10 : 126 < c
          · skip
            have d1 : decide ((c : Int) > 126) = true := decide_eq_true (by omega)
            (conv => whnf); rw [d1]
            clear d1
            (conv => whnf)
            (conv => whnf); refine VC.fa fl206_1 ?_
            (conv => whnf); refine ld1 (v := .int .i64 ((i : Nat) : Int)) ct3 (by rw [(stg.blk k hp).cell]; rfl) trivial ?_
            (conv => whnf); refine VCallP.mk rfail_p (fun _ _ h => h.elim) ?_
            rintro _ _ ⟨rfl, rfl⟩
            exact ⟨i, i, by rw [hes, if_pos (by omega)], rfl, by rw [set_self hp]; exact stg⟩
          · skip
            have d1 : decide ((c : Int) > 126) = false := decide_eq_false (by omega)
            (conv => whnf); rw [d1]
            clear d1
            by_cases hq20 : 48 ≤ c
            · skip
              have d1 : decide ((c : Int) ≥ 48) = true := decide_eq_true (by omega)
              (conv => whnf); rw [d1]
              clear d1
              by_cases hq21 : c ≤ 57
              · skip
                have d1 : decide ((c : Int) ≤ 57) = true := decide_eq_true (by omega)
                (conv => whnf); rw [d1]
                clear d1
                (conv => whnf)
                (conv => whnf); refine VC.fa fl206_1 ?_
                (conv => whnf); refine ld1 (v := .int .i64 ((i : Nat) : Int)) ct3 (by rw [(stg.blk k hp).cell]; rfl) trivial ?_
                (conv => whnf); refine VCallP.mk rfail_p (fun _ _ h => h.elim) ?_
                rintro _ _ ⟨rfl, rfl⟩
                exact ⟨i, i, by rw [hes, if_pos (by omega)], rfl, by rw [set_self hp]; exact stg⟩
              · skip
                have d1 : decide ((c : Int) ≤ 57) = false := decide_eq_false (by omega)
                (conv => whnf); rw [d1]
                clear d1
                by_cases hq30 : 97 ≤ c
                · skip
                  have d1 : decide ((c : Int) ≥ 97) = true := decide_eq_true (by omega)
                  (conv => whnf); rw [d1]
                  clear d1
                  by_cases hq31 : c ≤ 122
                  · skip
                    have d1 : decide ((c : Int) ≤ 122) = true := decide_eq_true (by omega)
                    (conv => whnf); rw [d1]
                    clear d1
                    (conv => whnf)
                    (conv => whnf); refine VC.fa fl206_1 ?_
                    (conv => whnf); refine ld1 (v := .int .i64 ((i : Nat) : Int)) ct3 (by rw [(stg.blk k hp).cell]; rfl) trivial ?_
                    (conv => whnf); refine VCallP.mk rfail_p (fun _ _ h => h.elim) ?_
                    rintro _ _ ⟨rfl, rfl⟩
                    exact ⟨i, i, by rw [hes, if_pos (by omega)], rfl, by rw [set_self hp]; exact stg⟩
                  · skip
                    have d1 : decide ((c : Int) ≤ 122) = false := decide_eq_false (by omega)
                    (conv => whnf); rw [d1]
                    clear d1
                    have d1 : decide ((c : Int) ≥ 65) = true := decide_eq_true (by omega)
                    (conv => whnf); rw [d1]
                    clear d1
                    have d1 : decide ((c : Int) ≤ 90) = false := decide_eq_false (by omega)
                    (conv => whnf); rw [d1]
                    clear d1
                    (conv => whnf)
                    (conv => whnf); refine VC.fa fl206_1 ?_
                    (conv => whnf); refine ld1 (v := .int .i64 ((i : Nat) : Int)) ct3 (by rw [(stg.blk k hp).cell]; rfl) trivial ?_
                    (conv => whnf); rw [w64 (x := ((i : Nat) : Int) + 1) (by omega) (by omega)]
                    (conv => whnf); refine VC.fa fl206_1 ?_
                    (conv => whnf); refine st1B stg k ct3 hp (by simp) rfl fun H4 st4 => ?_
                    (conv => whnf)
                    exact ⟨c, i + 1, by rw [hes, if_neg (by omega)], rfl, st4⟩
                · skip
                  have d1 : decide ((c : Int) ≥ 97) = false := decide_eq_false (by omega)
                  (conv => whnf); rw [d1]
                  clear d1
                  by_cases hq40 : 65 ≤ c
                  · skip
                    have d1 : decide ((c : Int) ≥ 65) = true := decide_eq_true (by omega)
                    (conv => whnf); rw [d1]
                    clear d1
                    by_cases hq41 : c ≤ 90
                    · skip
                      have d1 : decide ((c : Int) ≤ 90) = true := decide_eq_true (by omega)
                      (conv => whnf); rw [d1]
                      clear d1
                      (conv => whnf)
                      (conv => whnf); refine VC.fa fl206_1 ?_
                      (conv => whnf); refine ld1 (v := .int .i64 ((i : Nat) : Int)) ct3 (by rw [(stg.blk k hp).cell]; rfl) trivial ?_
                      (conv => whnf); refine VCallP.mk rfail_p (fun _ _ h => h.elim) ?_
                      rintro _ _ ⟨rfl, rfl⟩
                      exact ⟨i, i, by rw [hes, if_pos (by omega)], rfl, by rw [set_self hp]; exact stg⟩
                    · skip
                      have d1 : decide ((c : Int) ≤ 90) = false := decide_eq_false (by omega)
                      (conv => whnf); rw [d1]
                      clear d1
                      (conv => whnf)
                      (conv => whnf); refine VC.fa fl206_1 ?_
                      (conv => whnf); refine ld1 (v := .int .i64 ((i : Nat) : Int)) ct3 (by rw [(stg.blk k hp).cell]; rfl) trivial ?_
                      (conv => whnf); rw [w64 (x := ((i : Nat) : Int) + 1) (by omega) (by omega)]
                      (conv => whnf); refine VC.fa fl206_1 ?_
                      (conv => whnf); refine st1B stg k ct3 hp (by simp) rfl fun H4 st4 => ?_
                      (conv => whnf)
                      exact ⟨c, i + 1, by rw [hes, if_neg (by omega)], rfl, st4⟩
                  · skip
                    have d1 : decide ((c : Int) ≥ 65) = false := decide_eq_false (by omega)
                    (conv => whnf); rw [d1]
                    clear d1
                    (conv => whnf)
                    (conv => whnf); refine VC.fa fl206_1 ?_
                    (conv => whnf); refine ld1 (v := .int .i64 ((i : Nat) : Int)) ct3 (by rw [(stg.blk k hp).cell]; rfl) trivial ?_
                    (conv => whnf); rw [w64 (x := ((i : Nat) : Int) + 1) (by omega) (by omega)]
                    (conv => whnf); refine VC.fa fl206_1 ?_
                    (conv => whnf); refine st1B stg k ct3 hp (by simp) rfl fun H4 st4 => ?_
                    (conv => whnf)
                    exact ⟨c, i + 1, by rw [hes, if_neg (by omega)], rfl, st4⟩
            · skip
              have d1 : decide ((c : Int) ≥ 48) = false := decide_eq_false (by omega)
              (conv => whnf); rw [d1]
              clear d1
              have d1 : decide ((c : Int) ≥ 97) = false := decide_eq_false (by omega)
              (conv => whnf); rw [d1]
              clear d1
              have d1 : decide ((c : Int) ≥ 65) = false := decide_eq_false (by omega)
              (conv => whnf); rw [d1]
              clear d1
              (conv => whnf)
              (conv => whnf); refine VC.fa fl206_1 ?_
              (conv => whnf); refine ld1 (v := .int .i64 ((i : Nat) : Int)) ct3 (by rw [(stg.blk k hp).cell]; rfl) trivial ?_
              (conv => whnf); rw [w64 (x := ((i : Nat) : Int) + 1) (by omega) (by omega)]
              (conv => whnf); refine VC.fa fl206_1 ?_
              (conv => whnf); refine st1B stg k ct3 hp (by simp) rfl fun H4 st4 => ?_
              (conv => whnf)
              exact ⟨c, i + 1, by rw [hes, if_neg (by omega)], rfl, st4⟩
set_option maxHeartbeats 8000000 in
theorem one_c {B : Nat → Prop} {H0 H : Heap} {ps : List Pc} {k r i : Nat} {t s : ByteArray} (hE : EscH H0) (hEB : B 0) (ht : t.size ≤ 1152921504606846976) (st : StB B H0 H ps) (hp : ps[k]? = some (pRd r t i)) :
    FnOkP Tryz.prog 136 #[.pointer (some ⟨r, 0, none⟩), .string s] H (fun v H' => ∃ c j : Nat, oneM t s i = .inr (c, j) ∧ v = .int .u8 (c : Int) ∧ StB B H0 H' (ps.set k (pRd r t j)))
      (fun x H' => ∃ e j : Nat, oneM t s i = .inl e ∧ x = faultV 10 e ∧ StB B H0 H' (ps.set k (pRd r t j))) := by
  refine FnOkP.of_vc Tryz.func136 rfl (Tryz.call136 _) ?_
  (conv => whnf); refine VCallP.of (pures (peek_p (st.blk k hp)) fun H1 ha1 => ?_)
  have st1 := st.call ha1
  by_cases h0 : bt t i = 256
  · rw [if_pos h0, decide_eq_false (by omega)]
    (conv => whnf); refine VSeqP.run ?_
    (conv => whnf)
    (conv => whnf); refine VC.fa fl206_1 ?_
    (conv => whnf); refine ld1 (v := .int .i64 ((i : Nat) : Int)) ct3 (by rw [(st1.blk k hp).cell]; rfl) trivial ?_
    (conv => whnf); refine VCallP.mk rfail_p (fun _ _ h => h.elim) ?_
    rintro _ _ ⟨rfl, rfl⟩
    exact ⟨i, i, by unfold oneM; rw [h0, if_neg (by decide), if_pos (.inr (.inl (by decide)))], rfl, by rw [set_self hp]; exact st1⟩
  have hi := bt_lt h0
  obtain ⟨b, hb1, hb2, hb3⟩ := bt_in hi
  rw [if_neg h0, decide_eq_true (by omega)]
  obtain ⟨c, hc⟩ : ∃ c, c = bt t i := ⟨_, rfl⟩
  rw [← hc] at h0 hb3 ⊢
  by_cases h92 : c = 92
  · have d1 : ((c : Int) == (92 : Int)) = true := by rw [h92]; rfl
    have ho : oneM t s i = escM t (i + 1) := by unfold oneM; rw [← hc, if_pos h92]
    (conv => whnf); rw [d1]
    (conv => whnf); refine VC.fa fl206_1 ?_
    (conv => whnf); refine ld1 (v := .int .i64 ((i : Nat) : Int)) ct3 (by rw [(st1.blk k hp).cell]; rfl) trivial ?_
    (conv => whnf); rw [w64 (x := ((i : Nat) : Int) + 1) (by omega) (by omega)]
    (conv => whnf); refine VC.fa fl206_1 ?_
    (conv => whnf); refine st1B st1 k ct3 hp (by simp) rfl fun H4 st4 => ?_
    replace st4 : StB B H0 H4 (ps.set k (pRd r t (i + 1))) := st4
    have hp4 : (ps.set k (pRd r t (i + 1)))[k]? = some (pRd r t (i + 1)) := set_get hp
    (conv => whnf); refine VCallP.mk (escape_p hE hEB ht st4 hp4) ?_ ?_
    · rintro _ H5 ⟨a, j, ha, rfl, st5⟩
      rw [List.set_set] at st5
      (conv => whnf)
      exact ⟨a, j, by rw [ho]; exact ha, rfl, st5⟩
    · rintro _ H5 ⟨e, j, ha, rfl, st5⟩
      rw [List.set_set] at st5
      exact ⟨e, j, by rw [ho]; exact ha, rfl, st5⟩
  have d0 : ((c : Int) == (92 : Int)) = false := beq_eq_false_iff_ne.2 (by omega)
  have ho : oneM t s i = if c < 32 ∨ 126 < c ∨ spB s c = true then .inl i else .inr (c, i + 1) := by unfold oneM; rw [← hc, if_neg h92]
  (conv => whnf); rw [d0]
  (conv => whnf); refine VSeqP.run ?_
  (conv => whnf)
  by_cases hq00 : c < 32
  · skip
    have d1 : decide ((c : Int) < 32) = true := decide_eq_true (by omega)
    (conv => whnf); rw [d1]
    clear d1
    (conv => whnf)
    (conv => whnf); refine VC.fa fl206_1 ?_
    (conv => whnf); refine ld1 (v := .int .i64 ((i : Nat) : Int)) ct3 (by rw [(st1.blk k hp).cell]; rfl) trivial ?_
    (conv => whnf); refine VCallP.mk rfail_p (fun _ _ h => h.elim) ?_
    rintro _ _ ⟨rfl, rfl⟩
    exact ⟨i, i, by rw [ho, if_pos (by omega)], rfl, by rw [set_self hp]; exact st1⟩
  · skip
    have d1 : decide ((c : Int) < 32) = false := decide_eq_false (by omega)
    (conv => whnf); rw [d1]
    clear d1
    by_cases hq10 : 126 < c
    · skip
      have d1 : decide ((c : Int) > 126) = true := decide_eq_true (by omega)
      (conv => whnf); rw [d1]
      clear d1
      (conv => whnf)
      (conv => whnf); refine VC.fa fl206_1 ?_
      (conv => whnf); refine ld1 (v := .int .i64 ((i : Nat) : Int)) ct3 (by rw [(st1.blk k hp).cell]; rfl) trivial ?_
      (conv => whnf); refine VCallP.mk rfail_p (fun _ _ h => h.elim) ?_
      rintro _ _ ⟨rfl, rfl⟩
      exact ⟨i, i, by rw [ho, if_pos (by omega)], rfl, by rw [set_self hp]; exact st1⟩
    · skip
      have d1 : decide ((c : Int) > 126) = false := decide_eq_false (by omega)
      (conv => whnf); rw [d1]
      clear d1
      (conv => whnf); refine VCallP.of (pures (index_p s c H1) fun H2 ha2 => ?_)
      have st2 := st1.call ha2
      (conv => whnf); rw [spec_ge]
      cases hsp : spB s c with
      | true =>
        (conv => whnf)
        (conv => whnf); refine VC.fa fl206_1 ?_
        (conv => whnf); refine ld1 (v := .int .i64 ((i : Nat) : Int)) ct3 (by rw [(st2.blk k hp).cell]; rfl) trivial ?_
        (conv => whnf); refine VCallP.mk rfail_p (fun _ _ h => h.elim) ?_
        rintro _ _ ⟨rfl, rfl⟩
        exact ⟨i, i, by rw [ho, if_pos (.inr (.inr hsp))], rfl, by rw [set_self hp]; exact st2⟩
      | false =>
        (conv => whnf)
        (conv => whnf); refine VC.fa fl206_1 ?_
        (conv => whnf); refine ld1 (v := .int .i64 ((i : Nat) : Int)) ct3 (by rw [(st2.blk k hp).cell]; rfl) trivial ?_
        (conv => whnf); rw [w64 (x := ((i : Nat) : Int) + 1) (by omega) (by omega)]
        (conv => whnf); refine VC.fa fl206_1 ?_
        (conv => whnf); refine st1B st2 k ct3 hp (by simp) rfl fun H4 st4 => ?_
        (conv => whnf)
        exact ⟨c, i + 1, by rw [ho, if_neg (by rw [hsp]; simp; omega)], rfl, st4⟩
end Go.Proofs.YtlnmhfhdjnenoaaGreatDoor
/- How an expression is read: a machine over open frames; the plain law. -/
set_option linter.unusedVariables false
set_option linter.unusedSimpArgs false
set_option maxRecDepth 100000
namespace Go.Proofs.YtlnmhfhdjnenoaaGreatDoor
open Go.VC Go.Lib
/-! ### repeats -/
def maybeR (a : ReM) : ReM := .alt a .eps
def catO (q : Option ReM) (p : ReM) : ReM := match q with
  | none => p
  | some q => .cat q p
/-- The first k of a's repeats, of which m must be. -/
def repO (a : ReM) (m : Nat) : Nat → Option ReM
  | 0 => none
  | k + 1 => some (catO (repO a m k) (if k < m then a else maybeR a))
/-- a repeated m to n times (n below 0: without an end). -/
def repR (a : ReM) (m : Nat) (n : Int) : ReM :=
  if n < 0 then (if m = 0 then .star a else .cat ((repO a m m).getD .eps) (.star a)) else if n = 0 then .eps else (repO a m n.toNat).getD .eps
/-! ### frames -/
structure AF where
  place : Int
  alt : Option ReM
  meet : Option ReM
  sign : Nat
  row : Option ReM
  factor : Option ReM
def settleF (f : AF) : AF := match f.factor with
  | none => f
  | some p => { f with row := some (catO f.row p), factor := none }
def foldF (f : AF) : AF :=
  let g := settleF f
  let r := g.row.getD .eps
  { g with meet := some (match g.meet with | none => r | some q => if g.sign = 38 then .and_ q r else .minus q r), row := none }
def closeF (f : AF) : AF :=
  let g := foldF f
  let r := g.meet.getD .eps
  { g with alt := some (match g.alt with | none => r | some q => .alt q r), meet := none }
def openF (place : Int) : AF := ⟨place, none, none, 0, none, none⟩
/-! ### braces -/
def digB (t : ByteArray) (i : Nat) : Bool := decide (48 ≤ bt t i ∧ bt t i ≤ 57)
/-- At most k digits: the number, and the place behind them. -/
def numM (t : ByteArray) : Nat → Nat → Nat → Nat × Nat
  | 0, i, v => (v, i)
  | k + 1, i, v => if digB t i then numM t k (i + 1) (10 * v + (bt t i - 48)) else (v, i)
def upM (t : ByteArray) (m i : Nat) : Sum (Nat × Nat) (Int × Nat) :=
  if bt t i = 44 then (if bt t (i + 1) = 125 then .inr (-1, i + 1) else if digB t (i + 1) then .inr (((numM t 3 (i + 1) 0).1 : Int), (numM t 3 (i + 1) 0).2) else .inl (20, i + 1)) else .inr ((m : Int), i)
def endM (t : ByteArray) (from_ m : Nat) (n : Int) (i : Nat) : Sum (Nat × Nat) (Nat × Int × Nat) :=
  if bt t i = 125 then (if 255 < m ∨ 255 < n ∨ (0 ≤ n ∧ n < (m : Int)) then .inl (22, from_) else .inr (m, n, i + 1)) else .inl (20, i)
def bracesM (t : ByteArray) (from_ : Nat) : Sum (Nat × Nat) (Nat × Int × Nat) :=
  if digB t (from_ + 1) then (match upM t (numM t 3 (from_ + 1) 0).1 (numM t 3 (from_ + 1) 0).2 with
    | .inl e => .inl e
    | .inr (n, i) => endM t from_ (numM t 3 (from_ + 1) 0).1 n i)
  else .inl (20, from_ + 1)
theorem numM_le {t : ByteArray} : ∀ (k i v : Nat), i ≤ (numM t k i v).2 ∧ (numM t k i v).2 ≤ i + k ∧ (i ≤ t.size → (numM t k i v).2 ≤ t.size)
  | 0, i, v => ⟨Nat.le_refl _, Nat.le_refl _, fun h => h⟩
  | k + 1, i, v => by
    unfold numM
    split
    · rename_i h
      obtain ⟨h1, h2, h3⟩ := numM_le (t := t) k (i + 1) (10 * v + (bt t i - 48))
      unfold digB at h
      have h := of_decide_eq_true h
      have hi : i < t.size := bt_lt (by omega)
      exact ⟨by omega, by omega, fun _ => h3 (by omega)⟩
    · exact ⟨Nat.le_refl _, by omega, fun h => h⟩
theorem numM_lt {t : ByteArray} : ∀ (k i v : Nat), (numM t k i v).1 < (v + 1) * 10 ^ k
  | 0, i, v => by unfold numM; simp
  | k + 1, i, v => by
    unfold numM
    split
    · rename_i h
      unfold digB at h
      have h := of_decide_eq_true h
      have h1 := numM_lt (t := t) k (i + 1) (10 * v + (bt t i - 48))
      refine Nat.lt_of_lt_of_le h1 ?_
      rw [Nat.pow_succ, Nat.mul_comm (10 ^ k) 10, ← Nat.mul_assoc]
      exact Nat.mul_le_mul_right _ (by omega)
    · show v < (v + 1) * 10 ^ (k + 1)
      have : 1 ≤ 10 ^ (k + 1) := Nat.one_le_pow _ _ (by omega)
      have := Nat.mul_le_mul (Nat.le_refl (v + 1)) this
      omega
theorem bracesM_ok {t : ByteArray} {p m j : Nat} {n : Int} (h : bracesM t p = .inr (m, n, j)) : p < j ∧ j ≤ t.size ∧ m ≤ 255 ∧ n ≤ 255 ∧ (0 ≤ n → (m : Int) ≤ n) ∧ -1 ≤ n := by
  unfold bracesM at h
  split at h
  · obtain ⟨a1, a2, -⟩ := numM_le (t := t) 3 (p + 1) 0
    generalize numM t 3 (p + 1) 0 = q at h a1 a2
    split at h
    · cases h
    · rename_i n2 i2 hu
      have hi2 : q.2 ≤ i2 ∧ -1 ≤ n2 := by
        unfold upM at hu
        split at hu
        · split at hu
          · cases hu; exact ⟨by omega, by omega⟩
          · split at hu
            · obtain ⟨b1, b2, -⟩ := numM_le (t := t) 3 (q.2 + 1) 0
              cases hu; exact ⟨by omega, by omega⟩
            · cases hu
        · cases hu; exact ⟨Nat.le_refl _, by omega⟩
      unfold endM at h
      split at h
      · rename_i h125
        split at h
        · cases h
        · rename_i hc
          cases h
          have : i2 < t.size := bt_lt (by omega)
          refine ⟨by omega, by omega, ?_, ?_, ?_, hi2.2⟩ <;> omega
      · cases h
  · cases h
/-! ### the machine -/
def postB (c : Nat) : Bool := c == 42 || c == 43 || c == 63 || c == 123
/-- A sign that stands behind an atom: its numbers, the place behind it. -/
def postM (t : ByteArray) (i : Nat) : Sum (Nat × Nat) (Nat × Int × Nat) :=
  if bt t i = 42 then .inr (0, -1, i + 1) else if bt t i = 43 then .inr (1, -1, i + 1) else if bt t i = 63 then .inr (0, 1, i + 1) else bracesM t i
structure RdS where
  i : Nat
  f : AF
  fs : List AF
def pstep (t : ByteArray) (s : RdS) : Sum (Nat × Nat) RdS :=
  if postB (bt t s.i) then (match s.f.factor with
    | none => .inl (20, s.i)
    | some a => match postM t s.i with
      | .inl e => .inl e
      | .inr (m, n, k) => .inr ⟨k, { s.f with factor := some (repR a m n) }, s.fs⟩)
  else if bt t s.i = 124 then .inr ⟨s.i + 1, closeF s.f, s.fs⟩
  else if bt t s.i = 38 ∨ bt t s.i = 45 then .inr ⟨s.i + 1, { foldF s.f with sign := bt t s.i }, s.fs⟩
  else if bt t s.i = 41 then (match s.fs with
    | [] => .inl (20, s.i)
    | g :: r => .inr ⟨s.i + 1, { g with factor := (closeF s.f).alt }, r⟩)
  else if bt t s.i = 40 then (if 1000 ≤ s.fs.length then .inl (23, s.i) else .inr ⟨s.i + 1, openF s.i, settleF s.f :: s.fs⟩)
  else match readSet t s.i with
    | .inl e => .inl (10, e)
    | .inr (x, k) => .inr ⟨k, { settleF s.f with factor := some (.cls x) }, s.fs⟩
theorem pstep_ok {t : ByteArray} {s s' : RdS} (h : pstep t s = .inr s') (hi : s.i < t.size) : s.i < s'.i ∧ s'.i ≤ t.size := by
  unfold pstep at h
  split at h
  · rename_i hp
    split at h
    · cases h
    · split at h
      · cases h
      · rename_i m n k hpm
        cases h
        unfold postM at hpm
        split at hpm
        · cases hpm; exact ⟨Nat.lt_succ_self _, hi⟩
        · split at hpm
          · cases hpm; exact ⟨Nat.lt_succ_self _, hi⟩
          · split at hpm
            · cases hpm; exact ⟨Nat.lt_succ_self _, hi⟩
            · have := bracesM_ok hpm; exact ⟨this.1, this.2.1⟩
  · split at h
    · cases h; exact ⟨Nat.lt_succ_self _, hi⟩
    · split at h
      · cases h; exact ⟨Nat.lt_succ_self _, hi⟩
      · split at h
        · split at h
          · cases h
          · cases h; exact ⟨Nat.lt_succ_self _, hi⟩
        · split at h
          · split at h
            · cases h
            · cases h; exact ⟨Nat.lt_succ_self _, hi⟩
          · split at h
            · cases h
            · rename_i x k hr
              cases h
              exact readSet_ok hr
/-- What is told at the end. -/
def pfin (s : RdS) : Sum (Nat × Int) ReM := match s.fs with
  | [] => let r := (closeF s.f).alt.getD .eps; if 2000 < r.nodes then .inl (24, 0) else .inr r
  | _ :: _ => .inl (21, s.f.place)
def liftE (e : Nat × Nat) : Nat × Int := (e.1, (e.2 : Int))
def prunN (t : ByteArray) : Nat → RdS → Sum (Nat × Int) ReM
  | 0, s => pfin s
  | n + 1, s => if s.i < t.size then (match pstep t s with
    | .inl e => .inl (liftE e)
    | .inr s' => prunN t n s') else pfin s
/-- What the machine tells from here on. -/
def prun (t : ByteArray) (s : RdS) : Sum (Nat × Int) ReM := prunN t (t.size - s.i) s
theorem prunN_enough {t : ByteArray} : ∀ (n m : Nat) (s : RdS), t.size - s.i ≤ n → t.size - s.i ≤ m → prunN t n s = prunN t m s
  | 0, 0, s, _, _ => rfl
  | 0, m + 1, s, h, _ => by unfold prunN; rw [if_neg (by omega)]
  | n + 1, 0, s, _, h => by unfold prunN; rw [if_neg (by omega)]
  | n + 1, m + 1, s, h1, h2 => by
    unfold prunN
    by_cases hi : s.i < t.size
    · rw [if_pos hi, if_pos hi]
      cases hs : pstep t s with
      | inl e => rfl
      | inr s' =>
        have := pstep_ok hs hi
        exact prunN_enough n m s' (by omega) (by omega)
    · rw [if_neg hi, if_neg hi]
theorem prun_step {t : ByteArray} {s s' : RdS} (hi : s.i < t.size) (h : pstep t s = .inr s') : prun t s = prun t s' := by
  have hk := pstep_ok h hi
  have e : prun t s = prunN t (t.size - s.i - 1 + 1) s := prunN_enough _ _ _ (Nat.le_refl _) (by omega)
  rw [e, prunN, if_pos hi, h]
  exact prunN_enough _ _ _ (by omega) (Nat.le_refl _)
theorem prun_err {t : ByteArray} {s : RdS} {e : Nat × Nat} (hi : s.i < t.size) (h : pstep t s = .inl e) : prun t s = .inl (liftE e) := by
  have e1 : prun t s = prunN t (t.size - s.i - 1 + 1) s := prunN_enough _ _ _ (Nat.le_refl _) (by omega)
  rw [e1, prunN, if_pos hi, h]
theorem prun_end {t : ByteArray} {s : RdS} (hi : ¬ s.i < t.size) : prun t s = pfin s := by
  unfold prun
  rw [show t.size - s.i = 0 by omega]
  rfl
/-- What a text is read as1: the error's number and place, or the tree. -/
def parseM (t : ByteArray) : Sum (Nat × Int) ReM := if 1048576 < t.size then .inl (1, 0) else prun t ⟨0, openF (-1), []⟩
end Go.Proofs.YtlnmhfhdjnenoaaGreatDoor
/- Rules in memory: how they are grown; leaf, join, star, maybe: the walks. -/
set_option linter.unusedVariables false
set_option linter.unusedSimpArgs false
set_option maxRecDepth 100000
namespace Go.VC
theorem StB.rebase {B : Nat → Prop} {H0 H : Heap} {ps : List Pc} (st : StB B H0 H ps) : StB B H H ps := ⟨Agr.refl _ _, fun k hk => st.up hk, Nat.le_refl _, st.oks, st.rng, st.dis⟩
/-- What is new may belong to what stays. -/
theorem StB.widen {B : Nat → Prop} {H0 H H' : Heap} {ps : List Pc} (st : StB B H0 H ps) (ha : Agr (Old H) H H') (N : Nat → Prop) (hN : ∀ k, N k → H.size ≤ k ∧ k < H'.size) : StB (fun k => B k ∨ N k) H' H' ps := by
  have st' := st.call ha
  refine ⟨Agr.refl _ _, fun k hk => ?_, Nat.le_refl _, st'.oks, fun p hp k hk => ⟨fun hB => ?_, (st'.rng p hp k hk).2⟩, st'.dis⟩
  · rcases hk with hk | hk
    · exact st'.up hk
    · exact (hN k hk).2
  · rcases hB with hB | hB
    · exact (st.rng p hp k hk).1 hB
    · have := (st.rng p hp k hk).2; have := (hN k hB).1; omega
end Go.VC
namespace Go.Proofs.YtlnmhfhdjnenoaaGreatDoor
open Go.VC Go.Lib
inductive ROp
  | alt
  | cat
  | and_
  | minus
def opR : ROp → ReM → ReM → ReM
  | .alt => .alt
  | .cat => .cat
  | .and_ => .and_
  | .minus => .minus
def opF : ROp → FuncId
  | .alt => 53
  | .cat => 101
  | .and_ => 79
  | .minus => 80
theorem opR_nodes (op : ROp) (a b : ReM) : (opR op a b).nodes = 1 + a.nodes + b.nodes := by cases op <;> rfl
def szR (r : ReM) : Nat := min r.nodes 2001
def ruleL (r : ReM) (fn : Value) : List Value := [.int .i64 ((szR r : Nat) : Int), fn]
/-- A function value that grows a tree: its captured cells lie in B. -/
inductive GrowV (B : Nat → Prop) (H : Heap) : Value → ReM → Prop
  | leaf {b : Nat} {r : ReM} : B b → Blk H b 24 [nodeV r] → GrowV B H (.func (.func 108) #[] #[.pointer (some ⟨b, 0, none⟩)]) r
  | join {b1 b2 b3 : Nat} {va vb : Value} {ra rb : ReM} (op : ROp) : B b1 → B b2 → B b3 → Blk H b1 135 [.func (.func (opF op)) #[] #[]] → Blk H b2 77 (ruleL ra va) → Blk H b3 77 (ruleL rb vb) →
      GrowV B H va ra → GrowV B H vb rb → GrowV B H (.func (.func 82) #[] #[.pointer (some ⟨b1, 0, none⟩), .pointer (some ⟨b2, 0, none⟩), .pointer (some ⟨b3, 0, none⟩)]) (opR op ra rb)
  | star {b : Nat} {va : Value} {ra : ReM} : B b → Blk H b 77 (ruleL ra va) → GrowV B H va ra → GrowV B H (.func (.func 124) #[] #[.pointer (some ⟨b, 0, none⟩)]) (.star ra)
theorem GrowV.frame {B B' : Nat → Prop} {H H' : Heap} {v : Value} {r : ReM} (h : GrowV B H v r) (k : Agr B H H') (s : ∀ k, B k → B' k) : GrowV B' H' v r := by
  induction h with
  | leaf h1 h2 => exact .leaf (s _ h1) (h2.agr k h1)
  | join op h1 h2 h3 h4 h5 h6 _ _ ih1 ih2 => exact .join op (s _ h1) (s _ h2) (s _ h3) (h4.agr k h1) (h5.agr k h2) (h6.agr k h3) ih1 ih2
  | star h1 h2 _ ih => exact .star (s _ h1) (h2.agr k h1) ih
theorem agr_lt_of {B : Nat → Prop} {H H' : Heap} (ha : Agr B H H') (hB : ∀ k, B k → k < H.size) {k : Nat} (hk : B k) : k < H'.size := by
  have h := ha k hk
  rw [Array.getElem?_eq_getElem (hB k hk)] at h
  exact (Array.getElem?_eq_some_iff.1 h).1
theorem op_p (op : ROp) (a b : ReM) (H : Heap) : Pure Tryz.prog (opF op) #[nodeV a, nodeV b] H (nodeV (opR op a b)) := by
  obtain ⟨T1, v1, e1⟩ := nodeV_if a
  obtain ⟨T2, v2, e2⟩ := nodeV_if b
  cases op with
  | alt =>
    show Pure Tryz.prog 53 #[nodeV a, nodeV b] H (.iface 163 (.agg #[nodeV a, nodeV b]))
    rw [e1, e2]
    refine FnOk.of_vc Tryz.func53 rfl (Tryz.call53 _) ?_
    (conv => whnf); refine vbuildS Tryz.underlying163 rfl _ rfl [.iface T1 v1, .iface T2 v2] rfl ?_
    (conv => whnf)
    exact ⟨rfl, Agr.refl _ _⟩
  | cat =>
    show Pure Tryz.prog 101 #[nodeV a, nodeV b] H (.iface 132 (.agg #[nodeV a, nodeV b]))
    rw [e1, e2]
    refine FnOk.of_vc Tryz.func101 rfl (Tryz.call101 _) ?_
    (conv => whnf); refine vbuildS Tryz.underlying132 rfl _ rfl [.iface T1 v1, .iface T2 v2] rfl ?_
    (conv => whnf)
    exact ⟨rfl, Agr.refl _ _⟩
  | and_ =>
    show Pure Tryz.prog 79 #[nodeV a, nodeV b] H (.iface 166 (.agg #[nodeV a, nodeV b]))
    rw [e1, e2]
    refine FnOk.of_vc Tryz.func79 rfl (Tryz.call79 _) ?_
    (conv => whnf); refine vbuildS Tryz.underlying166 rfl _ rfl [.iface T1 v1, .iface T2 v2] rfl ?_
    (conv => whnf)
    exact ⟨rfl, Agr.refl _ _⟩
  | minus =>
    show Pure Tryz.prog 80 #[nodeV a, nodeV b] H (.iface 167 (.agg #[nodeV a, nodeV b]))
    rw [e1, e2]
    refine FnOk.of_vc Tryz.func80 rfl (Tryz.call80 _) ?_
    (conv => whnf); refine vbuildS Tryz.underlying167 rfl _ rfl [.iface T1 v1, .iface T2 v2] rfl ?_
    (conv => whnf)
    exact ⟨rfl, Agr.refl _ _⟩
theorem cap_arr (cap : Array Value) : (((#[] : Array Value).toList ++ ([] : List Value)) ++ cap.toList).toArray = cap := by simp
/-- What grows a rule. -/
theorem grow_p {B : Nat → Prop} {H : Heap} {v : Value} {r : ReM} (h : GrowV B H v r) (hB : ∀ k, B k → k < H.size) : ∃ g cap, v = .func (.func g) #[] cap ∧ ∀ H', Agr B H H' → Pure Tryz.prog g cap H' (nodeV r) := by
  induction h with
  | @leaf b r h1 h2 =>
    refine ⟨_, _, rfl, fun H' ha => ?_⟩
    have hb := h2.agr ha h1
    refine FnOk.of_vc Tryz.func108 rfl (Tryz.call108 _) ?_
    (conv => whnf); refine ld1 (v := nodeV r) ct24 (by rw [hb.cell]; rfl) trivial ?_
    (conv => whnf)
    exact ⟨rfl, Agr.refl _ _⟩
  | @join b1 b2 b3 va vb ra rb op h1 h2 h3 h4 h5 h6 _ _ ih1 ih2 =>
    refine ⟨_, _, rfl, fun H' ha => ?_⟩
    have k4 := h4.agr ha h1
    have k5 := h5.agr ha h2
    have k6 := h6.agr ha h3
    obtain ⟨g1, c1, rfl, p1⟩ := ih1
    obtain ⟨g2, c2, rfl, p2⟩ := ih2
    refine FnOk.of_vc Tryz.func82 rfl (Tryz.call82 _) ?_
    (conv => whnf); refine VDraw.held (Old H') 9 (sq [0,1,2,4,5] (.f 3 (.f 6 (.f 7 (.f 8 .e))))) rfl (by kernel_rfl) ?_
    (conv => whnf); refine ld1 (v := .func (.func (opF op)) #[] #[]) ct135 (by rw [k4.cell]; rfl) k4.lt ?_
    (conv => whnf); refine VC.fa fl77_1 ?_
    (conv => whnf); refine ld1 (v := .func (.func g1) #[] c1) ct75 (by rw [k5.cell]; rfl) k5.lt ?_
    (conv => whnf); refine VC.fa fl77_1 ?_
    (conv => whnf); refine ld1 (v := .func (.func g2) #[] c2) ct75 (by rw [k6.cell]; rfl) k6.lt ?_
    (conv => whnf); rw [cap_arr]; refine pures (p1 H' ha) fun G1 ga1 => ?_
    refine ⟨ga1, ?_⟩
    have ha2 : Agr B H G1 := ha.trans (ga1.mono fun k hk => agr_lt_of ha hB hk)
    (conv => whnf); rw [cap_arr]; refine pures (p2 G1 ha2) fun G2 ga2 => ?_
    have ga3 := ga1.trans (ga2.mono fun k hk => old_lt ga1 hk)
    refine ⟨ga3, ?_⟩
    (conv => whnf); refine pures (op_p op ra rb G2) fun G3 ga4 => ?_
    have ga5 := ga3.trans (ga4.mono fun k hk => old_lt ga3 hk)
    refine ⟨ga5, ?_⟩
    (conv => whnf)
    refine ⟨ga5, ?_⟩
    exact ⟨rfl, ga5⟩
  | @star b va ra h1 h2 _ ih =>
    refine ⟨_, _, rfl, fun H' ha => ?_⟩
    have k2 := h2.agr ha h1
    obtain ⟨g1, c1, rfl, p1⟩ := ih
    refine FnOk.of_vc Tryz.func124 rfl (Tryz.call124 _) ?_
    (conv => whnf); refine VC.fa fl77_1 ?_
    (conv => whnf); refine ld1 (v := .func (.func g1) #[] c1) ct75 (by rw [k2.cell]; rfl) trivial ?_
    (conv => whnf); rw [cap_arr]; refine pures (p1 H' ha) fun G1 ga1 => ?_
    obtain ⟨T1, v1, e1⟩ := nodeV_if ra
    show _
    rw [show nodeV (.star ra) = .iface 165 (.agg #[nodeV ra]) from rfl]
    rw [e1]
    (conv => whnf); refine vbuildS Tryz.underlying165 rfl _ rfl [.iface T1 v1] rfl ?_
    (conv => whnf)
    exact ⟨rfl, ga1⟩
end Go.Proofs.YtlnmhfhdjnenoaaGreatDoor
/- leaf, join, star, maybe, times: the walks. -/
set_option linter.unusedVariables false
set_option linter.unusedSimpArgs false
set_option maxRecDepth 100000
namespace Go.Proofs.YtlnmhfhdjnenoaaGreatDoor
open Go.VC Go.Lib
/-- A rule that was made: its cells belong to what stays. -/
structure RuleR (B : Nat → Prop) (H : Heap) (ps : List Pc) (r : ReM) (v : Value) (H' : Heap) : Prop where
  ex : ∃ (B' : Nat → Prop) (fn : Value), v = .agg (ruleL r fn).toArray ∧ (∀ k, B k → B' k) ∧ Agr (Old H) H H' ∧ StB B' H' H' ps ∧ GrowV B' H' fn r
theorem GrowV.fn {B : Nat → Prop} {H : Heap} {v : Value} {r : ReM} (h : GrowV B H v r) : ∃ g c, v = .func (.func g) #[] c := by
  cases h <;> exact ⟨_, _, rfl⟩
theorem spl2 {l : List Value} {r : ReM} {v : Value} (h : l.length = 2) : splice l 0 (ruleL r v) = ruleL r v := splAll (by rw [h]; rfl)
theorem ld_rule {H : Heap} {b : Nat} {r : ReM} {v : Value} (h : Blk H b 77 (ruleL r v)) : Cells H b 0 (ruleL r v) := h.cells (fun j v hv => by rw [Nat.zero_add]; exact hv)
def rule0 : List Value := [.int .i64 0, .nilFunc]
theorem rule_z : (Tryz.prog.info? 77).bind (·.zero) = some (.agg rule0.toArray) := by kernel_rfl
theorem capped_p (n : Nat) (hn : n < 1152921504606846976) (H : Heap) : Pure Tryz.prog 81 #[.int .i64 (n : Int)] H (.int .i64 ((min n 2001 : Nat) : Int)) := by
  refine FnOk.of_vc Tryz.func81 rfl (Tryz.call81 _) ?_
  (conv => whnf); refine vmin_ ?_
  (conv => whnf)
  refine ⟨?_, Agr.refl _ _⟩
  congr 1
  split <;> omega
theorem szR_le (r : ReM) : szR r ≤ 2001 := Nat.min_le_right _ _
set_option maxHeartbeats 2000000 in
theorem leaf_c {B : Nat → Prop} {H0 H : Heap} {ps : List Pc} {r : ReM} (st : StB B H0 H ps) (hr : r.nodes = 1) : FnOk Tryz.prog 98 #[nodeV r] H (RuleR B H ps r) := by
  refine FnOk.of_vc Tryz.func98 rfl (Tryz.call98 _) ?_
  obtain ⟨T1, v1, e1⟩ := nodeV_if r
  rw [e1]
  (conv => whnf); refine vbox [.iface T1 v1] rfl ?_
  intro b1 H1 hq1 hs1 hb1 ha1
  (conv => whnf); refine valloc (.agg rule0.toArray) rule0 rule_z rfl ?_
  intro q H2 hq2 hs2 hb2 ha2
  (conv => whnf); refine vbuildS Tryz.underlying77 rfl _ rfl (ruleL r (.func (.func 108) #[] #[.pointer (some ⟨b1, 0, none⟩)])) (by unfold ruleL szR; rw [hr]; rfl) ?_
  (conv => whnf); refine VC.stN (cs := ruleL r (.func (.func 108) #[] #[.pointer (some ⟨b1, 0, none⟩)])) rfl hb2 (by simp [ruleL, rule0]) rfl ?_
  intro H3 hb3 ha3 hs3
  rw [spl2 rfl] at hb3
  (conv => whnf); refine ldN (cs := ruleL r (.func (.func 108) #[] #[.pointer (some ⟨b1, 0, none⟩)])) ag77 (ld_rule hb3) trivial ?_
  have ag2 : Agr (Old H) H H2 := (ha1.mono fun k hk => by have : k < H.size := hk; omega).trans (ha2.mono fun k hk => by have : k < H.size := hk; omega)
  have ag3 : Agr (Old H) H H3 := ag2.trans (ha3.mono fun k hk => by have : k < H.size := hk; omega)
  have k1 : Blk H3 b1 24 [nodeV r] := by
    rw [e1]
    exact (hb1.agr ha2 (show b1 < q by omega)).agr ha3 (show b1 ≠ q by omega)
  exact ⟨_, _, rfl, fun k hk => .inl hk, ag3, st.widen ag3 (fun k => k = b1) (fun k hk => by omega), .leaf (.inr rfl) k1⟩
set_option maxHeartbeats 2000000 in
theorem join_c {B : Nat → Prop} {H0 H : Heap} {ps : List Pc} {ra rb : ReM} {va vb : Value} (op : ROp) (st : StB B H0 H ps) (ga : GrowV B H va ra) (gb : GrowV B H vb rb) :
    FnOk Tryz.prog 52 #[.agg (ruleL ra va).toArray, .agg (ruleL rb vb).toArray, .func (.func (opF op)) #[] #[]] H (RuleR B H ps (opR op ra rb)) := by
  obtain ⟨g1, c1, rfl⟩ := ga.fn
  obtain ⟨g2, c2, rfl⟩ := gb.fn
  have z1 := szR_le ra
  have z2 := szR_le rb
  refine FnOk.of_vc Tryz.func52 rfl (Tryz.call52 _) ?_
  (conv => whnf); refine vbox (ruleL ra (.func (.func g1) #[] c1)) rfl ?_
  intro b2 H1 hq1 hs1 hb1 ha1
  (conv => whnf); refine vbox (ruleL rb (.func (.func g2) #[] c2)) rfl ?_
  intro b3 H2 hq2 hs2 hb2 ha2
  (conv => whnf); refine vbox [.func (.func (opF op)) #[] #[]] rfl ?_
  intro b1 H3 hq3 hs3 hb3 ha3
  (conv => whnf); refine valloc (.agg rule0.toArray) rule0 rule_z rfl ?_
  intro q H4 hq4 hs4 hb4 ha4
  have k2 : Blk H4 b2 77 (ruleL ra (.func (.func g1) #[] c1)) := ((hb1.agr ha2 (show b2 < b3 by omega)).agr ha3 (show b2 < b1 by omega)).agr ha4 (show b2 < q by omega)
  have k3 : Blk H4 b3 77 (ruleL rb (.func (.func g2) #[] c2)) := (hb2.agr ha3 (show b3 < b1 by omega)).agr ha4 (show b3 < q by omega)
  have k1 : Blk H4 b1 135 [.func (.func (opF op)) #[] #[]] := hb3.agr ha4 (show b1 < q by omega)
  (conv => whnf); refine VC.fa fl77_0 ?_
  (conv => whnf); refine ld1 (v := .int .i64 ((szR ra : Nat) : Int)) ct3 (by rw [k2.cell]; rfl) trivial ?_
  (conv => whnf); rw [w64 (x := 1 + ((szR ra : Nat) : Int)) (by omega) (by omega)]
  (conv => whnf); refine VC.fa fl77_0 ?_
  (conv => whnf); refine ld1 (v := .int .i64 ((szR rb : Nat) : Int)) ct3 (by rw [k3.cell]; rfl) trivial ?_
  (conv => whnf); rw [w64 (x := 1 + ((szR ra : Nat) : Int) + ((szR rb : Nat) : Int)) (by omega) (by omega)]
  rw [show 1 + ((szR ra : Nat) : Int) + ((szR rb : Nat) : Int) = ((1 + szR ra + szR rb : Nat) : Int) by omega]
  (conv => whnf); refine pures (capped_p (1 + szR ra + szR rb) (by omega) H4) fun H5 ha5 => ?_
  have hsz : min (1 + szR ra + szR rb) 2001 = szR (opR op ra rb) := by unfold szR; rw [opR_nodes]; omega
  rw [hsz]
  have fnv := ruleL (opR op ra rb) (.func (.func 82) #[] #[.pointer (some ⟨b1, 0, none⟩), .pointer (some ⟨b2, 0, none⟩), .pointer (some ⟨b3, 0, none⟩)])
  (conv => whnf); refine vbuildS Tryz.underlying77 rfl _ rfl (ruleL (opR op ra rb) (.func (.func 82) #[] #[.pointer (some ⟨b1, 0, none⟩), .pointer (some ⟨b2, 0, none⟩), .pointer (some ⟨b3, 0, none⟩)])) rfl ?_
  (conv => whnf); refine VC.stN (cs := ruleL (opR op ra rb) (.func (.func 82) #[] #[.pointer (some ⟨b1, 0, none⟩), .pointer (some ⟨b2, 0, none⟩), .pointer (some ⟨b3, 0, none⟩)])) rfl (hb4.agr ha5 hb4.lt) (by simp [ruleL, rule0]) rfl ?_
  intro H6 hb6 ha6 hs6
  rw [spl2 rfl] at hb6
  (conv => whnf); refine ldN (cs := ruleL (opR op ra rb) (.func (.func 82) #[] #[.pointer (some ⟨b1, 0, none⟩), .pointer (some ⟨b2, 0, none⟩), .pointer (some ⟨b3, 0, none⟩)])) ag77 (ld_rule hb6) trivial ?_
  have ag4 : Agr (Old H) H H4 := (((ha1.mono fun k hk => by have : k < H.size := hk; omega).trans (ha2.mono fun k hk => by have : k < H.size := hk; omega)).trans (ha3.mono fun k hk => by have : k < H.size := hk; omega)).trans (ha4.mono fun k hk => by have : k < H.size := hk; omega)
  have ag6 : Agr (Old H) H H6 := (ag4.trans (ha5.mono fun k hk => old_lt ag4 hk)).trans (ha6.mono fun k hk => by have : k < H.size := hk; omega)
  have l5 := old_size ha5
  have m : ∀ {b : Nat} {e : TypeId} {l : List Value}, Blk H4 b e l → b ≠ q → Blk H6 b e l := fun h hne => (h.agr ha5 h.lt).agr ha6 hne
  have agB : Agr B H H6 := ag6.mono fun k hk => st.up hk
  exact ⟨_, _, rfl, fun k hk => .inl hk, ag6, st.widen ag6 (fun k => k = b1 ∨ k = b2 ∨ k = b3) (fun k hk => by rcases hk with rfl | rfl | rfl <;> omega),
    .join op (.inr (.inl rfl)) (.inr (.inr (.inl rfl))) (.inr (.inr (.inr rfl))) (m k1 (by omega)) (m k2 (by omega)) (m k3 (by omega)) (ga.frame agB fun k hk => .inl hk) (gb.frame agB fun k hk => .inl hk)⟩
set_option maxHeartbeats 2000000 in
theorem star_c {B : Nat → Prop} {H0 H : Heap} {ps : List Pc} {ra : ReM} {va : Value} (st : StB B H0 H ps) (ga : GrowV B H va ra) :
    FnOk Tryz.prog 109 #[.agg (ruleL ra va).toArray] H (RuleR B H ps (.star ra)) := by
  obtain ⟨g1, c1, rfl⟩ := ga.fn
  have z1 := szR_le ra
  refine FnOk.of_vc Tryz.func109 rfl (Tryz.call109 _) ?_
  (conv => whnf); refine vbox (ruleL ra (.func (.func g1) #[] c1)) rfl ?_
  intro b2 H1 hq1 hs1 hb1 ha1
  (conv => whnf); refine valloc (.agg rule0.toArray) rule0 rule_z rfl ?_
  intro q H4 hq4 hs4 hb4 ha4
  have k2 : Blk H4 b2 77 (ruleL ra (.func (.func g1) #[] c1)) := hb1.agr ha4 (show b2 < q by omega)
  (conv => whnf); refine VC.fa fl77_0 ?_
  (conv => whnf); refine ld1 (v := .int .i64 ((szR ra : Nat) : Int)) ct3 (by rw [k2.cell]; rfl) trivial ?_
  (conv => whnf); rw [w64 (x := 1 + ((szR ra : Nat) : Int)) (by omega) (by omega)]
  rw [show 1 + ((szR ra : Nat) : Int) = ((1 + szR ra : Nat) : Int) by omega]
  (conv => whnf); refine pures (capped_p (1 + szR ra) (by omega) H4) fun H5 ha5 => ?_
  have hsz : min (1 + szR ra) 2001 = szR (.star ra) := by unfold szR; show _ = min (1 + ra.nodes) 2001; omega
  rw [hsz]
  (conv => whnf); refine vbuildS Tryz.underlying77 rfl _ rfl (ruleL (.star ra) (.func (.func 124) #[] #[.pointer (some ⟨b2, 0, none⟩)])) rfl ?_
  (conv => whnf); refine VC.stN (cs := ruleL (.star ra) (.func (.func 124) #[] #[.pointer (some ⟨b2, 0, none⟩)])) rfl (hb4.agr ha5 hb4.lt) (by simp [ruleL, rule0]) rfl ?_
  intro H6 hb6 ha6 hs6
  rw [spl2 rfl] at hb6
  (conv => whnf); refine ldN (cs := ruleL (.star ra) (.func (.func 124) #[] #[.pointer (some ⟨b2, 0, none⟩)])) ag77 (ld_rule hb6) trivial ?_
  have ag4 : Agr (Old H) H H4 := (ha1.mono fun k hk => by have : k < H.size := hk; omega).trans (ha4.mono fun k hk => by have : k < H.size := hk; omega)
  have ag6 : Agr (Old H) H H6 := (ag4.trans (ha5.mono fun k hk => old_lt ag4 hk)).trans (ha6.mono fun k hk => by have : k < H.size := hk; omega)
  have l5 := old_size ha5
  have agB : Agr B H H6 := ag6.mono fun k hk => st.up hk
  exact ⟨_, _, rfl, fun k hk => .inl hk, ag6, st.widen ag6 (fun k => k = b2) (fun k hk => by omega), .star (.inr rfl) ((k2.agr ha5 k2.lt).agr ha6 (show b2 ≠ q by omega)) (ga.frame agB fun k hk => .inl hk)⟩
set_option maxHeartbeats 2000000 in
theorem maybe_c {B : Nat → Prop} {H0 H : Heap} {ps : List Pc} {ra : ReM} {va : Value} (st : StB B H0 H ps) (ga : GrowV B H va ra) :
    FnOk Tryz.prog 110 #[.agg (ruleL ra va).toArray] H (RuleR B H ps (maybeR ra)) := by
  obtain ⟨g1, c1, rfl⟩ := ga.fn
  refine FnOk.of_vc Tryz.func110 rfl (Tryz.call110 _) ?_
  (conv => whnf); refine vbox (ruleL ra (.func (.func g1) #[] c1)) rfl ?_
  intro b2 H1 hq1 hs1 hb1 ha1
  (conv => whnf); refine valloc (.agg rule0.toArray) rule0 rule_z rfl ?_
  intro q H4 hq4 hs4 hb4 ha4
  have k2 : Blk H4 b2 77 (ruleL ra (.func (.func g1) #[] c1)) := hb1.agr ha4 (show b2 < q by omega)
  have ag4 : Agr (Old H) H H4 := (ha1.mono fun k hk => by have : k < H.size := hk; omega).trans (ha4.mono fun k hk => by have : k < H.size := hk; omega)
  have st4 := (st.skip hq1 ha1).box hq4 hs4 hb4 ha4
  (conv => whnf); refine VDraw.heldZ (Old H4) [5] (sq [0,1,2] (.f 3 (.f 4 (.f 5 .e)))) rfl (by kernel_rfl) ?_
  (conv => whnf); refine ldN (cs := ruleL ra (.func (.func g1) #[] c1)) ag77 (ld_rule k2) k2.lt ?_
  (conv => whnf); refine vbuildS Tryz.underlying127 rfl _ rfl [] rfl ?_
  (conv => whnf); refine VCall.mk (leaf_c (r := .eps) st4 rfl) ?_
  rintro _ H5 ⟨B1, f1, rfl, s1, a1, st5, ge⟩
  refine ⟨a1, ?_⟩
  have agB5 : Agr B H H5 := (ag4.trans (a1.mono fun k hk => old_lt ag4 hk)).mono fun k hk => st.up hk
  (conv => whnf); refine VCall.mk (join_c .alt st5 (ga.frame agB5 s1) ge) ?_
  rintro _ H6 ⟨B2, f2, rfl, s2, a2, st6, gj⟩
  have a12 := a1.trans (a2.mono fun k hk => old_lt a1 hk)
  refine ⟨a12, ?_⟩
  obtain ⟨g2, c2, rfl⟩ := gj.fn
  (conv => whnf); refine stNBa (cs := ruleL (maybeR ra) (.func (.func g2) #[] c2)) st6 _ rfl (lgR0 _ _) (by simp [ruleL, rule0]) rfl fun H7 st7 ha7 hs7 => ?_
  rw [lsR0, spl2 rfl] at st7
  have hb7 : Blk H7 q 77 (ruleL (maybeR ra) (.func (.func g2) #[] c2)) := st7.blk _ (lgR0 _ _)
  (conv => whnf); refine ldN (cs := ruleL (maybeR ra) (.func (.func g2) #[] c2)) ag77 (ld_rule hb7) trivial ?_
  have ag6 : Agr (Old H) H H6 := ag4.trans (a12.mono fun k hk => old_lt ag4 hk)
  exact ⟨B2, _, rfl, fun k hk => s2 k (s1 k hk), ag6.trans (ha7.mono fun k hk => by have : k < H.size := hk; omega), st7.lft.rebase, gj.frame st7.old fun k hk => hk⟩
end Go.Proofs.YtlnmhfhdjnenoaaGreatDoor
