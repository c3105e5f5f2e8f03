/- Parts of the proof: VMore, VMapX, PCls, PSetD, VSplit, VMapI, PNfa2, PReM, VIf, PSort, VRange, VPush, PKeyS, PBld, VHeldG, PNfa3 -/
import Derived.Test.YtlnmhfhdjnenoaaGreatDoorKNr1
import Derived.MapKept
import Derived.Laws.BytesArg
import Derived.Laws.Cover1
import Derived.DeepKeys3
import Derived.Maps.RangeRun
import Derived.Sort.OwnSortedInts
import Derived.Shelf.Sort.Plain
import Derived.Shelf.Slices.In.SortNone
import Derived.TacticsIn
import Derived.RangeFuncRecord
/- Maps of the call's own: what they hold; looking up, laying, striking. -/
set_option linter.unusedVariables false
set_option linter.unusedSimpArgs false
namespace Go.VC

structure MapT (P : Program) (t kt et : TypeId) (d : TypeDesc) (z : Value) : Prop where
  under : P.underlying t = some (.map kt et)
  key : P.underlying kt = some d
  zero : (P.info? et).bind (·.zero) = some z
structure KeyE (d : TypeDesc) {α : Type} (enc : α → Value) : Prop where
  isKey : ∀ a, Go.MapKept.IsKey d (enc a)
  inj : ∀ a b, enc a = enc b → a = b
theorem keyI (k : IntKind) : KeyE (.int k) (Value.int k) := ⟨fun _ => rfl, fun a b h => by cases h; rfl⟩

/-- The map in block b holds m. -/
def MapF {α : Type} (enc : α → Value) (H : Heap) (b : Nat) (m : α → Option Value) : Prop :=
  ∃ es clock, H[b]? = some (.map es clock) ∧ Go.MapKept.Stamped es clock ∧ (∀ (i : Nat) (x : MapEntry), es[i]? = some x → ∃ a, x.key = enc a ∧ m a = some x.val) ∧
    ∀ a v, m a = some v → ∃ (i : Nat) (x : MapEntry), es[i]? = some x ∧ x.key = enc a ∧ x.val = v
theorem MapF.agr {α : Type} {enc : α → Value} {H H' : Heap} {b : Nat} {m : α → Option Value} {S : Nat → Prop} (h : MapF enc H b m) (k : Agr S H H') (hb : S b) : MapF enc H' b m := by
  obtain ⟨es, clock, h1, h2⟩ := h
  exact ⟨es, clock, (k b hb).trans h1, h2⟩
/-- The stamp of a's entry. -/
def StampF {α : Type} (enc : α → Value) (H : Heap) (b : Nat) (a : α) (s : Nat) : Prop :=
  ∃ es clock, H[b]? = some (.map es clock) ∧ ∀ (i : Nat) (x : MapEntry), es[i]? = some x → (x.born = s ↔ x.key = enc a)
open Classical in
noncomputable def put {α : Type} (m : α → Option Value) (a : α) (v : Option Value) : α → Option Value := fun b => if b = a then v else m b
theorem put_self {α : Type} (m : α → Option Value) (a : α) (v : Option Value) : put m a v a = v := if_pos rfl
theorem put_ne {α : Type} {m : α → Option Value} {a b : α} {v : Option Value} (h : b ≠ a) : put m a v b = m b := if_neg h

section
variable {α : Type} {enc : α → Value} {P : Program} {t kt et : TypeId} {d : TypeDesc} {z : Value} {S : Nat → Prop} {H : Heap} {b : Nat} {m : α → Option Value} {a : α}
theorem stamped_key {es : Array MapEntry} {clock : Nat} (h : Go.MapKept.Stamped es clock) {i j : Nat} {x y : MapEntry} (hx : es[i]? = some x) (hy : es[j]? = some y) (e : x.key = y.key) : i = j := by
  have hn := h.2.2
  have hx' : (es.toList.map (·.key))[i]? = some x.key := by simp [hx]
  have hy' : (es.toList.map (·.key))[j]? = some x.key := by simp [hy, e]
  exact (List.getElem?_inj (List.getElem?_eq_some_iff.1 hx').1 hn).1 (hx'.trans hy'.symm)
theorem stamped_born {es : Array MapEntry} {clock : Nat} (h : Go.MapKept.Stamped es clock) {i j : Nat} {x y : MapEntry} (hx : es[i]? = some x) (hy : es[j]? = some y) (e : x.born = y.born) : i = j := by
  have hn := h.2.1
  have hx' : (es.toList.map (·.born))[i]? = some x.born := by simp [hx]
  have hy' : (es.toList.map (·.born))[j]? = some x.born := by simp [hy, e]
  exact (List.getElem?_inj (List.getElem?_eq_some_iff.1 hx').1 hn).1 (hx'.trans hy'.symm)
theorem zero_run (hz : (P.info? et).bind (·.zero) = some z) (w : World) : (zeroValue et).run P w = .ok z w := by
  cases hi : P.info? et with
  | none => rw [hi] at hz; cases hz
  | some i =>
    have hz' : i.zero = some z := by simpa [hi] using hz
    simp [zeroValue, typeInfo, hi, hz']
abbrev setW (w : World) (b : Nat) (o : Obj) : World := { w with heap := w.heap.setIfInBounds b o }
theorem set_turn {w : World} {o o' : Obj} (h : w.heap[b]? = some o) : (setW w b o').heap[b]? = some o' ∧ Agr (fun k => k ≠ b) w.heap (setW w b o').heap ∧ (setW w b o').heap.size = w.heap.size :=
  ⟨(Go.MapKept.heap_set h).1, fun k hk => (Go.MapKept.heap_set h).2 k hk, by simp⟩
theorem push_new {es : Array MapEntry} {clock : Nat} (hs : Go.MapKept.Stamped es clock) (h3 : ∀ (i : Nat) (x : MapEntry), es[i]? = some x → ∃ a, x.key = enc a ∧ m a = some x.val) (h4 : ∀ a v, m a = some v → ∃ (i : Nat) (x : MapEntry), es[i]? = some x ∧ x.key = enc a ∧ x.val = v) (hne : ∀ x ∈ es.toList, x.key ≠ enc a) {H' : Heap} {v : Value}
    (hb : H'[b]? = some (.map (es.push ⟨enc a, v, clock⟩) (clock + 1))) : MapF enc H' b (put m a (some v)) ∧ StampF enc H' b a clock := by
  have hgt : ∀ i x, (es.push ⟨enc a, v, clock⟩)[i]? = some x → (i < es.size ∧ es[i]? = some x) ∨ (i = es.size ∧ x = ⟨enc a, v, clock⟩) := by
    intro i x hx
    rw [Array.getElem?_push] at hx
    by_cases hi : i = es.size
    · rw [if_pos hi] at hx; exact .inr ⟨hi, by cases hx; rfl⟩
    · rw [if_neg hi] at hx; exact .inl ⟨(Array.getElem?_eq_some_iff.1 hx).1, hx⟩
  refine ⟨⟨_, _, hb, Go.MapKept.stamped_push hs hne, fun i x hx => ?_, fun a' v' hv => ?_⟩, _, _, hb, fun i x hx => ?_⟩
  · rcases hgt i x hx with ⟨_, hx⟩ | ⟨_, rfl⟩
    · obtain ⟨a', e1, e2⟩ := h3 i x hx
      have : a' ≠ a := fun h => hne x (List.mem_of_getElem? (by simpa using hx)) (by rw [e1, h])
      exact ⟨a', e1, by rw [put_ne this]; exact e2⟩
    · exact ⟨a, rfl, put_self _ _ _⟩
  · by_cases ha : a' = a
    · subst ha
      rw [put_self] at hv
      cases hv
      exact ⟨es.size, ⟨enc a', v, clock⟩, by simp, rfl, rfl⟩
    · rw [put_ne ha] at hv
      obtain ⟨i, x, hx, e⟩ := h4 a' v' hv
      exact ⟨i, x, by rw [Array.getElem?_push, if_neg (by have := (Array.getElem?_eq_some_iff.1 hx).1; omega)]; exact hx, e⟩
  · rcases hgt i x hx with ⟨_, hx⟩ | ⟨_, rfl⟩
    · have hmem : x ∈ es.toList := List.mem_of_getElem? (by simpa using hx)
      have := hs.1 x hmem
      exact ⟨fun h => by omega, fun h => absurd h (hne x hmem)⟩
    · simp
theorem mmake {K : Value → Heap → Prop} (k : ∀ b H', b = H.size → H'.size = b + 1 → MapF enc H' b (fun _ => none) → Agr (fun k => k < b) H H' → K (.map (some b)) H') : VEff P (Instr.makeMap t none) H K := by
  refine VEff.mk fun w hw => ?_
  subst hw
  exact ⟨_, w.alloc (.map #[] 0), by simp [Instr.makeMap], ⟨rfl, rfl, rfl⟩, k w.heap.size _ rfl (by rw [alloc_heap]; simp) ⟨#[], 0, by rw [alloc_heap]; simp, Go.MapKept.stamped_empty 0, by simp, by simp⟩ (heap_push_old _ _)⟩
end

end Go.VC

/- Maps of the call's own as1 pieces. -/
set_option linter.unusedVariables false
set_option linter.unusedSimpArgs false
namespace Go.VC
section
variable {α : Type} {enc : α → Value} {b : Nat} {m m' : α → Option Value} {B : Nat → Prop} {H0 H H' : Heap} {ps : List Pc}
end
end Go.VC

/- Maps of slices of the call's own; cutting a slice's head off. -/
set_option linter.unusedVariables false
set_option linter.unusedSimpArgs false
namespace Go.VC
open Classical in
noncomputable def upd {α β : Type} (f : α → β) (a : α) (v : β) : α → β := fun b => if b = a then v else f b
theorem upd_self {α β : Type} (f : α → β) (a : α) (v : β) : upd f a v a = v := if_pos rfl
theorem upd_ne {α β : Type} {f : α → β} {a b : α} {v : β} (h : b ≠ a) : upd f a v b = f b := if_neg h

/-- What the map holds at a, nil where it holds nothing. -/
def slAt {α : Type} (m : α → Option Value) (a : α) : Value := (m a).getD (.slice none 0 0)
theorem slAt_put {α : Type} (m : α → Option Value) (a : α) (v : Value) : slAt (put m a (some v)) a = v := by simp [slAt, put_self]
theorem slAt_ne {α : Type} {m : α → Option Value} {a b : α} {v : Option Value} (h : b ≠ a) : slAt (put m a v) b = slAt m b := by simp [slAt, put_ne h]
structure Qs {α β : Type} (enc : α → Value) (T : Ty β) (H : Heap) (lo : Nat) (e : TypeId) (mb : Nat) (m : α → Option Value) (xs : α → List β) : Prop where
  map : MapF enc H mb m
  lt : mb < lo
  own : ∀ k, SlO T (fun _ => False) H lo e (slAt m k) (xs k)
  apart : ∀ k k' b, k ≠ k' → slB (slAt m k) b → ¬ slB (slAt m k') b
section
variable {α β : Type} {enc : α → Value} {T : Ty β} {H H1 H2 : Heap} {lo mb : Nat} {e : TypeId} {m : α → Option Value} {xs : α → List β} {S' : Nat → Prop}
end

theorem text_beq (a b : ByteArray) : (a.toList == b.toList) = decide (a.data.toList = b.data.toList) := by
  rw [ByteArray.toList_eq, ByteArray.toList_eq]
  by_cases h : a.data.toList = b.data.toList
  · rw [decide_eq_true h, h]; simp
  · rw [decide_eq_false h]
    exact Bool.eq_false_iff.2 fun hh => h (by simpa using hh)
theorem text_inj {a b : ByteArray} (h : a.data.toList = b.data.toList) : a = b := by
  cases a; cases b; simp_all [Array.toList_inj]
theorem text_eq (a b : ByteArray) : (a.toList == b.toList) = true ↔ a = b := by
  rw [text_beq, decide_eq_true_eq]
  exact ⟨text_inj, fun h => by rw [h]⟩
end Go.VC

/- Slices of the call's own whose head is cut off and that are appended to: queues; bytes put together as1 texts. -/
set_option linter.unusedVariables false
set_option linter.unusedSimpArgs false
namespace Go.VC

section
variable {α : Type} {T : Ty α} {S S' : Nat → Prop} {H H' : Heap} {e : TypeId} {v : Value} {xs : List α}
end

/-! ### as1 pieces -/
section
variable {α : Type} {T : Ty α} {e : TypeId} {a : Option Addr} {n cap : Nat} {xs : List α} {B : Nat → Prop} {H0 H H' : Heap} {ps : List Pc}
end

/-! ### bytes and texts -/
end Go.VC

/- Regions whose order is open, once more: the last operations may change what the quiet ones have read. -/
set_option linter.unusedVariables false
set_option linter.unusedSimpArgs false
namespace Go.VC

/-- Operation j waits for i, if only by way of others. -/
def needsB (ops : Array Oper) : Nat → Nat → Nat → Bool
  | 0, _, _ => false
  | f + 1, j, i => match ops[j]? with
    | none => false
    | some o => o.after.toList.any fun e => Region.binds .any e && (Nat.beq e.on i || needsB ops f e.on i)
/-- What is listed has all that it waits for listed. -/
def Shut (ops : Array Oper) (listed : Array Bool) : Prop :=
  ∀ (j : Nat) (o : Oper), ops[j]? = some o → listed.getD j false = true → ∀ e ∈ o.after, Region.binds .any e = true → listed.getD e.on false = true
theorem Shut.chain {ops : Array Oper} {listed : Array Bool} (h : Shut ops listed) {i : Nat} : ∀ (f j : Nat), needsB ops f j i = true → (∀ (o : Oper), ops[j]? = some o → ∀ e ∈ o.after, Region.binds .any e = true → listed.getD e.on false = true) → listed.getD i false = true
  | 0, _, hn, _ => by simp [needsB] at hn
  | f + 1, j, hn, hd => by
    unfold needsB at hn
    split at hn
    · cases hn
    · rename_i o ho
      obtain ⟨e, he, hb⟩ := List.any_eq_true.1 hn
      simp only [Bool.and_eq_true, Bool.or_eq_true] at hb
      have hl := hd o ho e (by simpa using he) hb.1
      rcases hb.2 with h1 | h1
      · rw [← Nat.eq_of_beq_eq_true h1]; exact hl
      · exact h.chain f e.on h1 fun o' ho' e' he' hb' => h e.on o' ho' hl e' he' hb'
theorem Shut.not_ready {ops : Array Oper} {listed : Array Bool} (h : Shut ops listed) {i j f : Nat} (hn : needsB ops f j i = true) (hi : listed.getD i false = false) : j ∉ Region.ready .any ops listed := by
  intro hj
  obtain ⟨_, o, ho, hall⟩ := mem_ready.1 hj
  have := h.chain f j hn fun o' ho' e he hb => by rw [ho] at ho'; cases ho'; exact hall e he hb
  rw [hi] at this; cases this
theorem getD_put {l : Array Bool} {i k : Nat} (h : (l.setIfInBounds i true).getD k false = true) : k = i ∨ l.getD k false = true := by
  by_cases hk : k = i
  · exact .inl hk
  · rw [getD_set_ne false (Ne.symm hk)] at h; exact .inr h
theorem Shut.put {ops : Array Oper} {listed : Array Bool} (h : Shut ops listed) {j : Nat} (hj : j ∈ Region.ready .any ops listed) : Shut ops (listed.setIfInBounds j true) := by
  intro k o ho hk e he hb
  rcases getD_put hk with rfl | hk
  · obtain ⟨_, o', ho', hall⟩ := mem_ready.1 hj
    rw [ho] at ho'; cases ho'
    exact getD_set_true (hall e he hb)
  · exact getD_set_true (h k o ho hk e he hb)

/-- Whatever order is picked from here on, and S holds behind every operation but those of Z. -/
def wpAnyZ (P : Program) (ops : Array Oper) (Q : Exit → Act → World → Prop) (S : World → Prop) (Z : List Nat) : Nat → Array Bool → Act → World → Prop
  | 0, listed, a, w => Region.ready .any ops listed = [] ∧ Q .normal a w
  | fuel + 1, listed, a, w =>
    (Region.ready .any ops listed = [] → Q .normal a w) ∧
    ∀ i ∈ Region.ready .any ops listed, wpOp P ops Q i (fun a' w' => (Z.contains i = false → S w') ∧ wpAnyZ P ops Q S Z fuel (listed.setIfInBounds i true) a' w') a w
theorem wpAny_of_Z {P : Program} {ops : Array Oper} {Q : Exit → Act → World → Prop} {S : World → Prop} {Z : List Nat} : ∀ (fuel : Nat) (listed : Array Bool) (a : Act) (w : World),
    wpAnyZ P ops Q S Z fuel listed a w → wpAny P .any ops Q fuel listed a w
  | 0, _, _, _, h => h
  | fuel + 1, _, _, _, h => ⟨h.1, fun i hi => wpOp_mono (fun a' w' h' => wpAny_of_Z fuel _ a' w' h'.2) (h.2 i hi)⟩
theorem wpAnyZ_first {P : Program} {ops : Array Oper} {Q : Exit → Act → World → Prop} {S : World → Prop} {Z : List Nat} {i f : Nat} {oi : Oper} {v : Value} (hi : ops[i]? = some oi)
    (hsel : ∀ (j : Nat) (o : Oper) cs b, ops[j]? = some o → o.op ≠ .select cs b)
    (hQ : ∀ c a w, Q (.panic c) (a.put oi.dst v) w → Q (.panic c) a w) (hiz : Z.contains i = false) (hz : ∀ j, Z.contains j = true → needsB ops f j i = true) :
    ∀ (fuel : Nat) (listed : Array Bool) (a : Act) (w : World), Shut ops listed →
      (∀ j oj, ops[j]? = some oj → j ≠ i → listed.getD j true = false → (∀ e ∈ oj.after, Region.binds .any e = true → e.on ≠ i) → oi.apart ops oj = true) →
      i ∈ Region.ready .any ops listed → YieldsIf P ops S oi v a → S w →
      wpAnyZ P ops Q S Z fuel (listed.setIfInBounds i true) (a.put oi.dst v) w → wpAnyZ P ops Q S Z (fuel + 1) listed a w := by
  intro fuel
  induction fuel with
  | zero =>
    intro listed a w _ _ hr hy hS H
    refine ⟨fun h => (by rw [h] at hr; cases hr), fun j hj => ?_⟩
    by_cases hji : j = i
    · subst hji; exact hy.wpOp hi hS ⟨fun _ => hS, H⟩
    · have := ready_mono hj hji
      rw [H.1] at this
      cases this
  | succ fuel ih =>
    intro listed a w hsh hfree hr hy hS H
    refine ⟨fun h => (by rw [h] at hr; cases hr), fun j hj => ?_⟩
    by_cases hji : j = i
    · subst hji; exact hy.wpOp hi hS ⟨fun _ => hS, H⟩
    · have h1 := H.2 j (ready_mono hj hji)
      obtain ⟨hjun, oj, hoj, hall⟩ := mem_ready.1 hj
      have hun : listed.getD i false = false := by
        have h0 := (mem_ready.1 hr).1
        rcases Nat.lt_or_ge i listed.size with h' | h'
        · simp [h'] at h0 ⊢; exact h0
        · simp [Array.getElem?_eq_none h'] at h0
      have hnot : ∀ e ∈ oj.after, Region.binds .any e = true → e.on ≠ i := fun e he hb heq => by
        have h1 := hall e he hb
        rw [heq, hun] at h1; cases h1
      have hjz : Z.contains j = false := by
        cases hc : Z.contains j with
        | false => rfl
        | true => exact absurd hj (hsh.not_ready (hz j hc) hun)
      have h2 := wpOp_putIf hoj (hfree j oj hoj hji hjun hnot) (fun cs b => hsel i oi cs b hi) (fun cs b => hsel j oj cs b hoj) hQ hy h1
      have hfree' : ∀ k ok, ops[k]? = some ok → k ≠ i → (listed.setIfInBounds j true).getD k true = false →
          (∀ e ∈ ok.after, Region.binds .any e = true → e.on ≠ i) → oi.apart ops ok = true := fun k ok hk hki hun hno => by
        refine hfree k ok hk hki ?_ hno
        by_cases hjk : j = k
        · subst hjk; exact hjun
        · rw [getD_set_ne true hjk] at hun; exact hun
      refine wpOp_mono (fun a' w' h3 => ⟨fun _ => h3.2.1 hjz, ih (listed.setIfInBounds j true) a' w' (hsh.put hj) hfree' (ready_mono hr (Ne.symm hji)) h3.1 (h3.2.1 hjz) ?_⟩) h2
      rw [Array.setIfInBounds_comm _ _ hji]
      exact h3.2.2

/-- One operation of the order, carried out here. -/
def stepZ (P : Program) (S : Nat → Prop) (Z : List Nat) (H0 : Heap) (all : List Oper) (i : Nat) (fr : Fr) (H : Heap) (next : Fr → Heap → Prop) : Prop :=
  match all[i]? with
  | none => False
  | some o => match o.guard with
    | some _ => False
    | none => match Z.contains i with
      | true => opK P false (fun _ => True) o fr H fun v H' => putK o.dst fr v fun fr' => next fr' H'
      | false => opK P false (fun _ => True) o fr H fun v H' => Agr S H0 H' ∧ putK o.dst fr v fun fr' => next fr' H'
def heldZ (P : Program) (S : Nat → Prop) (Z : List Nat) (H0 : Heap) (all : List Oper) (s : Sch) : Fr → Heap → (Fr → Heap → Prop) → Prop :=
  Sch.rec (motive := fun _ => Fr → Heap → (Fr → Heap → Prop) → Prop) (fun fr H K => K fr H)
    (fun i _ ih fr H K => match all[i]? with
      | none => False
      | some o => match o.guard with
        | some _ => False
        | none => match isDet o && convDet P o with
          | true => detK P S o fr H fun v => putK o.dst fr v fun fr' => ih fr' H K
          | false => False)
    (fun i _ ih fr H K => stepZ P S Z H0 all i fr H fun fr' H' => ih fr' H' K)
    (fun i _ j _ ih ih' fr H K => (stepZ P S Z H0 all i fr H fun fr' H' => ih fr' H' K) ∧ stepZ P S Z H0 all j fr H fun fr' H' => ih' fr' H' K) s
theorem heldZ_q (P : Program) (S : Nat → Prop) (Z : List Nat) (H0 : Heap) (all : List Oper) (i : Nat) (s : Sch) (fr : Fr) (H : Heap) (K : Fr → Heap → Prop) : heldZ P S Z H0 all (.q i s) fr H K =
    (match all[i]? with
      | none => False
      | some o => match o.guard with
        | some _ => False
        | none => match isDet o && convDet P o with
          | true => detK P S o fr H fun v => putK o.dst fr v fun fr' => heldZ P S Z H0 all s fr' H K
          | false => False) := rfl
/-- Z comes behind all quiet ones; behind an operation of Z there is none. -/
def hasQ : Sch → Bool
  | .e => false
  | .q _ _ => true
  | .f _ s => hasQ s
  | .b _ s _ s' => hasQ s || hasQ s'
def zAll (Z : List Nat) : Sch → Bool
  | .e => true
  | .q _ _ => false
  | .f i s => Z.contains i && zAll Z s
  | .b i s j s' => Z.contains i && Z.contains j && zAll Z s && zAll Z s'
def heldBZ (ops : Array Oper) (Z : List Nat) : Sch → Array Bool → Bool
  | .e, listed => (Region.ready .any ops listed).isEmpty
  | .q i s, listed => (Region.ready .any ops listed).contains i && Region.free .any ops listed i && !(Z.contains i) && (Z.all fun z => needsB ops ops.size z i) && heldBZ ops Z s (listed.setIfInBounds i true)
  | .f i s, listed => Region.ready .any ops listed == [i] && (!(Z.contains i) || zAll Z s) && heldBZ ops Z s (listed.setIfInBounds i true)
  | .b i s j s', listed => Region.ready .any ops listed == [i, j] && ((!(Z.contains i) && !(Z.contains j)) || (zAll Z s && zAll Z s')) && heldBZ ops Z s (listed.setIfInBounds i true) && heldBZ ops Z s' (listed.setIfInBounds j true)
theorem stepZ_sound {P : Program} {S : Nat → Prop} {Z : List Nat} {w0 : World} {all : List Oper} {Q : Exit → Act → World → Prop} {i : Nat} {fr : Fr} {a : Act} {w : World} {next : Fr → Heap → Prop} {N : Act → World → Prop}
    (hat : At fr a) (hc : Env w0 w) (h : stepZ P S Z w0.heap all i fr w.heap next)
    (hn : ∀ fr' a' w', At fr' a' → Env w0 w' → (Z.contains i = false → Cls w0 S w') → next fr' w'.heap → N a' w') : wpOp P all.toArray Q i N a w := by
  unfold stepZ at h
  split at h
  · exact h.elim
  · rename_i o ho
    have ho' : all.toArray[i]? = some o := by simpa using ho
    split at h
    · exact h.elim
    · rename_i hg
      have hwant : Region.wanted o (yielded all.toArray a.tmps) = true := by simp [Region.wanted, hg]
      unfold wpOp
      rw [ho']
      dsimp only
      rw [if_pos hwant]
      split at h
      · rename_i hz
        refine .inl (Oper.wp_mono ?_ (opK_sound hat h _))
        rintro a' w' ⟨v, rfl, henv, hk⟩
        rw [putK_eq] at hk
        exact hn _ _ _ (hat.put o.dst v) (hc.trans henv) (fun hne => by rw [hz] at hne; cases hne) hk
      · refine .inl (Oper.wp_mono ?_ (opK_sound hat h _))
        rintro a' w' ⟨v, rfl, henv, hagr, hk⟩
        rw [putK_eq] at hk
        exact hn _ _ _ (hat.put o.dst v) (hc.trans henv) (fun _ => ⟨hc.trans henv, hagr⟩) hk
theorem heldZ_sound {P : Program} {S : Nat → Prop} {Z : List Nat} {w0 : World} {all : List Oper} {Q : Exit → Act → World → Prop} (hs : Region.noSelect all.toArray = true)
    (hp : ∀ c a w, ¬ Q (.panic c) a w) : ∀ (l : Sch) (listed : Array Bool) (fr : Fr) (a : Act) (w : World) (K : Fr → Heap → Prop), At fr a → Env w0 w → (zAll Z l = false → Cls w0 S w) → Shut all.toArray listed →
    (∀ fr' a' w', At fr' a' → Env w0 w' → K fr' w'.heap → Q .normal a' w') → heldBZ all.toArray Z l listed = true → l.even = true →
    heldZ P S Z w0.heap all l fr w.heap K → wpAnyZ P all.toArray Q (Cls w0 S) Z l.len listed a w
  | .e, listed, fr, a, w, K, hat, he, _, _, hq, hB, _, h => ⟨by simpa [heldBZ] using hB, hq fr a w hat he h⟩
  | .q i s, listed, fr, a, w, K, hat, he, hc, hsh, hq, hB, hev, h => by
    have hc := hc rfl
    simp only [heldBZ, Bool.and_eq_true, Bool.not_eq_true', List.all_eq_true] at hB
    obtain ⟨⟨⟨⟨b1, b2⟩, b3⟩, b4⟩, hB2⟩ := hB
    rw [heldZ_q] at h
    split at h
    · exact h.elim
    · rename_i o ho
      have ho' : all.toArray[i]? = some o := by simpa using ho
      have hri : i ∈ Region.ready .any all.toArray listed := by simpa using b1
      split at h
      · exact h.elim
      · rename_i hg
        have hwant : Region.wanted o (yielded all.toArray a.tmps) = true := by simp [Region.wanted, hg]
        split at h
        · obtain ⟨v, hv, hk⟩ := detK_sound h
          rw [putK_eq] at hk
          refine wpAnyZ_first (v := v) (f := all.toArray.size) ho' (Region.noSelect_spec hs) (fun c a' w' hh => (hp _ _ _ hh).elim) b3 (fun j hj => b4 j (by simpa using hj)) s.len listed a w hsh (Region.free_spec ho' b2) hri
            (.inl ⟨hwant, fun w' hw' => ?_⟩) hc ?_
          · rw [hat.evalF]
            exact hv w' fun k hk => (hw'.2 k hk).trans (hc.2 k hk).symm
          · exact heldZ_sound hs hp s _ _ _ w K (hat.put o.dst v) he (fun _ => hc) (hsh.put hri) hq hB2 hev hk
        · exact h.elim
  | .f i s, listed, fr, a, w, K, hat, he, hc, hsh, hq, hB, hev, h => by
    simp only [heldBZ, Bool.and_eq_true, Bool.or_eq_true, Bool.not_eq_true', beq_iff_eq] at hB
    obtain ⟨⟨b1, b2⟩, hB2⟩ := hB
    refine ⟨(fun h0 => by rw [b1] at h0; cases h0), fun j hj => ?_⟩
    have hj0 := hj
    rw [b1] at hj
    obtain rfl : j = i := by simpa using hj
    refine stepZ_sound hat he h fun fr' a' w' h1 h2 h3 h4 => ⟨h3, heldZ_sound hs hp s _ _ _ w' K h1 h2 (fun hz => ?_) (hsh.put hj0) hq hB2 hev h4⟩
    rcases b2 with b2 | b2
    · exact h3 b2
    · rw [b2] at hz; cases hz
  | .b i s j s', listed, fr, a, w, K, hat, he, hc, hsh, hq, hB, hev, h => by
    simp only [heldBZ, Bool.and_eq_true, Bool.or_eq_true, Bool.not_eq_true', beq_iff_eq] at hB
    obtain ⟨⟨⟨b1, b2⟩, hB2⟩, hB3⟩ := hB
    simp only [Sch.even, Bool.and_eq_true, beq_iff_eq] at hev
    obtain ⟨⟨e1, e2⟩, e3⟩ := hev
    refine ⟨(fun h0 => by rw [b1] at h0; cases h0), fun k hk => ?_⟩
    have hk0 := hk
    rw [b1] at hk
    rcases List.mem_cons.1 hk with rfl | hk
    · refine stepZ_sound hat he h.1 fun fr' a' w' h1 h2 h3 h4 => ⟨h3, heldZ_sound hs hp s _ _ _ w' K h1 h2 (fun hz => ?_) (hsh.put hk0) hq hB2 e1 h4⟩
      rcases b2 with b2 | b2
      · exact h3 b2.1
      · rw [b2.1] at hz; cases hz
    · obtain rfl : k = j := by simpa using hk
      rw [e3]
      refine stepZ_sound hat he h.2 fun fr' a' w' h1 h2 h3 h4 => ⟨h3, heldZ_sound hs hp s' _ _ _ w' K h1 h2 (fun hz => ?_) (hsh.put hk0) hq hB3 e2 h4⟩
      rcases b2 with b2 | b2
      · exact h3 b2.2
      · rw [b2.2] at hz; cases hz
theorem VDraw.heldZ {P : Program} {l : List Oper} {fr : Fr} {H : Heap} {K : Fr → Heap → Prop} (S : Nat → Prop) (Z : List Nat) (sched : Sch) (hm : P.follows .mixedOrders = true)
    (hB : (Region.noSelect l.toArray && (sched.len == l.length) && sched.even && heldBZ l.toArray Z sched (Array.replicate l.length false)) = true)
    (h : VC.heldZ P S Z H l sched fr H K) : VDraw P l fr H K := by
  refine ⟨?_⟩
  intro id Q a w hat hw hp hq
  subst hw
  simp only [Bool.and_eq_true, beq_iff_eq] at hB
  refine wp_region_any hm (wpAny_of_Z (S := Cls w S) (Z := Z) _ _ _ _ ?_)
  have hsh : Shut l.toArray (Array.replicate l.length false) := fun j o _ hj => by
    rw [Array.getD_eq_getD_getElem?, Array.getElem?_replicate] at hj
    split at hj <;> simp at hj
  have := heldZ_sound (P := P) (S := S) (Z := Z) (w0 := w) (Q := Q) hB.1.1.1 hp sched (Array.replicate l.length false) fr a { w with drawn := w.drawn + 1 } K hat ⟨rfl, rfl, rfl⟩ (fun _ => ⟨⟨rfl, rfl, rfl⟩, Agr.refl _ _⟩) hsh hq hB.2 hB.1.2 h
  rw [hB.1.1.2] at this
  simpa using this
end Go.VC

/- Tables of slices: rows laid fresh, elements written. -/
set_option linter.unusedVariables false
set_option linter.unusedSimpArgs false
namespace Go.VC
section
variable {α : Type} {T : Ty α} {B : Nat → Prop} {H0 H H1 : Heap} {ps : List Pc} {e te : TypeId} {nb : Nat} {vs : List Value} {xs : List (List α)}
end
end Go.VC
/- Maps of the call's own whose keys are arrays or structs; going through a map. -/
set_option linter.unusedVariables false
set_option linter.unusedSimpArgs false
namespace Go.VC
structure MapTW (P : Program) (t kt et : TypeId) (z : Value) : Prop where
  under : P.underlying t = some (.map kt et)
  zero : (P.info? et).bind (·.zero) = some z
/-- What the model asks of keys, of all that are Ok. -/
structure KeyW (P : Program) (kt : TypeId) {α : Type} (Ok : α → Prop) (enc : α → Value) : Prop where
  inj : ∀ a b, enc a = enc b → a = b
  check : ∀ (w : World) (em : Bool) (a : α), Ok a → (Instr.checkKey em 10000 kt (enc a)).run P w = .ok () w
  find : ∀ (w : World) (a : α), Ok a → ∀ es : List MapEntry, (∀ e ∈ es, ∃ b, Ok b ∧ e.key = enc b) →
    ((Instr.findKey kt (enc a) es).run P w = .ok none w ∧ ∀ e ∈ es, e.key ≠ enc a) ∨ ∃ j e, (Instr.findKey kt (enc a) es).run P w = .ok (some (j, e.val)) w ∧ es[j]? = some e ∧ e.key = enc a
  stays : ∀ (w : World) (a : α), Ok a → (Instr.keyThatStays (enc a) (enc a)).run P w = .ok (enc a) w
/-- The map in block b holds m, all of whose keys are Ok. -/
def MapW {α : Type} (Ok : α → Prop) (enc : α → Value) (H : Heap) (b : Nat) (m : α → Option Value) : Prop := MapF enc H b m ∧ ∀ a v, m a = some v → Ok a
def TurnW {α : Type} (Ok : α → Prop) (enc : α → Value) (H : Heap) (K : Heap → Prop) (b : Nat) (m : α → Option Value) : Prop :=
  ∀ H', MapW Ok enc H' b m → Agr (fun k => k ≠ b) H H' → H'.size = H.size → K H'
section
variable {α : Type} {Ok : α → Prop} {enc : α → Value} {P : Program} {t kt et : TypeId} {z : Value} {S : Nat → Prop} {H : Heap} {b : Nat} {m : α → Option Value} {a : α}
theorem MapW.agr {H' : Heap} (h : MapW Ok enc H b m) (k : Agr S H H') (hb : S b) : MapW Ok enc H' b m := ⟨h.1.agr k hb, h.2⟩
theorem put_ok (h : ∀ a v, m a = some v → Ok a) (ha : Ok a) (v : Value) : ∀ b u, put m a (some v) b = some u → Ok b := fun b u hb => by
  by_cases hba : b = a
  · rw [hba]; exact ha
  · rw [put_ne hba] at hb; exact h b u hb
theorem find_specW (hk : KeyW P kt Ok enc) (ha : Ok a) (hok : ∀ a v, m a = some v → Ok a) {es : Array MapEntry} (hes : ∀ (i : Nat) (x : MapEntry), es[i]? = some x → ∃ a, x.key = enc a ∧ m a = some x.val) (hm : ∀ a v, m a = some v → ∃ (i : Nat) (x : MapEntry), es[i]? = some x ∧ x.key = enc a ∧ x.val = v) (w : World) :
    ((Instr.findKey kt (enc a) es.toList).run P w = .ok none w ∧ m a = none ∧ ∀ x ∈ es.toList, x.key ≠ enc a) ∨ ∃ j e, (Instr.findKey kt (enc a) es.toList).run P w = .ok (some (j, e.val)) w ∧ es[j]? = some e ∧ e.key = enc a ∧ m a = some e.val := by
  have hall : ∀ x ∈ es.toList, ∃ b, Ok b ∧ x.key = enc b := fun x hx => by
    obtain ⟨i, hi⟩ := List.getElem?_of_mem hx
    obtain ⟨b, e1, e2⟩ := hes i x (by simpa using hi)
    exact ⟨b, hok b _ e2, e1⟩
  rcases hk.find w a ha es.toList hall with ⟨h1, h2⟩ | ⟨j, e, h1, h2, h3⟩
  · refine .inl ⟨h1, ?_, h2⟩
    cases hma : m a with
    | none => rfl
    | some v =>
      obtain ⟨i, x, hx, he, _⟩ := hm a v hma
      exact absurd he (h2 x (List.mem_of_getElem? (by simpa using hx)))
  · have hj : es[j]? = some e := by simpa using h2
    refine .inr ⟨j, e, h1, hj, h3, ?_⟩
    obtain ⟨a', e1, e2⟩ := hes j e hj
    rw [hk.inj a a' (h3.symm.trans e1)]; exact e2
theorem mlookW (ht : MapTW P t kt et z) (hk : KeyW P kt Ok enc) (ha : Ok a) (h : MapW Ok enc H b m) (hb : S b) {K : Value → Prop} (k : K ((m a).getD z)) : VDet P (Instr.lookup t (.map (some b)) (enc a) false) S H K := by
  obtain ⟨⟨es, clock, h1, h2, h3, h4⟩, hok⟩ := h
  refine VDet.mk _ (fun w hw => ?_) k
  have hb' := (hw b hb).trans h1
  rcases find_specW hk ha hok h3 h4 w with ⟨e1, e2, e3⟩ | ⟨j, e, e1, e2, e3, e4⟩
  · simp [Instr.lookup, run_underlying ht.under, Go.MapKept.run_getObj_map hb', hk.check w _ a ha, e1, zero_run ht.zero, e2]
  · simp [Instr.lookup, run_underlying ht.under, Go.MapKept.run_getObj_map hb', hk.check w _ a ha, e1, e4]
theorem mlookOkW (ht : MapTW P t kt et z) (hk : KeyW P kt Ok enc) (ha : Ok a) (h : MapW Ok enc H b m) (hb : S b) {K : Value → Prop} (k : K (.tuple #[(m a).getD z, .bool (m a).isSome])) : VDet P (Instr.lookup t (.map (some b)) (enc a) true) S H K := by
  obtain ⟨⟨es, clock, h1, h2, h3, h4⟩, hok⟩ := h
  refine VDet.mk _ (fun w hw => ?_) k
  have hb' := (hw b hb).trans h1
  rcases find_specW hk ha hok h3 h4 w with ⟨e1, e2, e3⟩ | ⟨j, e, e1, e2, e3, e4⟩
  · simp [Instr.lookup, run_underlying ht.under, Go.MapKept.run_getObj_map hb', hk.check w _ a ha, e1, zero_run ht.zero, e2]
  · simp [Instr.lookup, run_underlying ht.under, Go.MapKept.run_getObj_map hb', hk.check w _ a ha, e1, e4]
theorem modify_oldW (hinj : ∀ a b, enc a = enc b → a = b) {es : Array MapEntry} {clock : Nat} (hs : Go.MapKept.Stamped es clock) (h3 : ∀ (i : Nat) (x : MapEntry), es[i]? = some x → ∃ a, x.key = enc a ∧ m a = some x.val) (h4 : ∀ a v, m a = some v → ∃ (i : Nat) (x : MapEntry), es[i]? = some x ∧ x.key = enc a ∧ x.val = v) {j : Nat} {e : MapEntry} (hj : es[j]? = some e) (he : e.key = enc a) {f : MapEntry → MapEntry} {v : Value}
    (hf1 : (f e).key = enc a) (hf2 : (f e).val = v) (hf3 : ∀ x, (f x).born = x.born) {H' : Heap}
    (hb : H'[b]? = some (.map (es.modify j f) clock)) : MapF enc H' b (put m a (some v)) ∧ StampF enc H' b a e.born := by
  have hgt : ∀ i x, (es.modify j f)[i]? = some x → (i ≠ j ∧ es[i]? = some x) ∨ (i = j ∧ x = f e) := by
    intro i x hx
    rw [Array.getElem?_modify] at hx
    by_cases hi : j = i
    · subst hi; rw [if_pos rfl, hj] at hx; exact .inr ⟨rfl, by cases hx; rfl⟩
    · rw [if_neg hi] at hx; exact .inl ⟨Ne.symm hi, hx⟩
  refine ⟨⟨_, _, hb, Go.MapKept.stamped_modify hs _ _ (fun x _ => hf3 x) (fun x _ hx => ?_), fun i x hx => ?_, fun a' v' hv => ?_⟩, _, _, hb, fun i x hx => ?_⟩
  · rw [hj] at hx; cases hx; rw [hf1, he]
  · rcases hgt i x hx with ⟨hne, hx⟩ | ⟨_, rfl⟩
    · obtain ⟨a', e1, e2⟩ := h3 i x hx
      have : a' ≠ a := fun h => hne (stamped_key hs hx hj (by rw [e1, h, he]))
      exact ⟨a', e1, by rw [put_ne this]; exact e2⟩
    · exact ⟨a, hf1, by rw [put_self, hf2]⟩
  · by_cases ha : a' = a
    · subst ha
      rw [put_self] at hv
      cases hv
      exact ⟨j, f e, by rw [Array.getElem?_modify, if_pos rfl, hj]; rfl, hf1, hf2⟩
    · rw [put_ne ha] at hv
      obtain ⟨i, x, hx, e1, e2⟩ := h4 a' v' hv
      refine ⟨i, x, ?_, e1, e2⟩
      rw [Array.getElem?_modify, if_neg ?_]
      · exact hx
      · rintro rfl
        rw [hj] at hx; cases hx
        exact ha (hinj _ _ (e1.symm.trans he))
  · rcases hgt i x hx with ⟨hne, hx⟩ | ⟨_, rfl⟩
    · exact ⟨fun h => absurd (stamped_born hs hx hj h) hne, fun h => absurd (stamped_key hs hx hj (h.trans he.symm)) hne⟩
    · exact ⟨fun _ => hf1, fun _ => hf3 e⟩
theorem mputW (ht : MapTW P t kt et z) (hk : KeyW P kt Ok enc) (ha : Ok a) (h : MapW Ok enc H b m) {v : Value} {K : Heap → Prop} (k : TurnW Ok enc H K b (put m a (some v))) : VEffU P (Instr.mapUpdate t (.map (some b)) (enc a) v) H K := by
  obtain ⟨⟨es, clock, h1, h2, h3, h4⟩, hok⟩ := h
  refine VEffU.mk fun w hw => ?_
  subst hw
  rcases find_specW hk ha hok h3 h4 w with ⟨e1, e2, e3⟩ | ⟨j, e, e1, e2, e3, e4⟩
  · obtain ⟨t1, t2, t3⟩ := set_turn (o' := .map (es.push ⟨enc a, v, clock⟩) (clock + 1)) h1
    exact ⟨setW w b (.map (es.push ⟨enc a, v, clock⟩) (clock + 1)), by simp [Instr.mapUpdate, run_underlying ht.under, Go.MapKept.run_getObj_map h1, hk.check w _ a ha, e1, Go.MapKept.run_setObj_map _ h1], ⟨rfl, rfl, rfl⟩, k _ ⟨(push_new h2 h3 h4 e3 t1).1, put_ok hok ha v⟩ t2 t3⟩
  · obtain ⟨t1, t2, t3⟩ := set_turn (o' := .map (es.modify j fun e => { e with key := enc a, val := v }) clock) h1
    exact ⟨setW w b (.map (es.modify j fun e => { e with key := enc a, val := v }) clock), by simp [Instr.mapUpdate, run_underlying ht.under, Go.MapKept.run_getObj_map h1, hk.check w _ a ha, e1, Go.MapKept.run_setObj_map _ h1, e2, e3, hk.stays w a ha], ⟨rfl, rfl, rfl⟩, k _ ⟨(modify_oldW hk.inj h2 h3 h4 e2 e3 (f := fun e => { e with key := enc a, val := v }) rfl rfl (fun _ => rfl) t1).1, put_ok hok ha v⟩ t2 t3⟩
theorem mmakeW {K : Value → Heap → Prop} (k : ∀ b H', b = H.size → H'.size = b + 1 → MapW Ok enc H' b (fun _ => none) → Agr (fun k => k < b) H H' → K (.map (some b)) H') : VEff P (Instr.makeMap t none) H K :=
  mmake fun b H' h1 h2 h3 h4 => k b H' h1 h2 ⟨h3, fun a v h => by cases h⟩ h4
end
end Go.VC

/- Going through a map of the call's own; wide-keyed maps and loops over them as1 pieces. -/
set_option linter.unusedVariables false
set_option linter.unusedSimpArgs false
namespace Go.VC
/-- The map in block b holds m, and is gone through by the iterator in block r: D have come, `last` the last of them; n are still to come. -/
def IterW {α : Type} (Ok : α → Prop) (enc : α → Value) (H : Heap) (b r : Nat) (m : α → Option Value) (D : α → Prop) (last : Option α) (n : Nat) : Prop :=
  (∃ es clock seen, H[b]? = some (.map es clock) ∧ Go.MapKept.Stamped es clock ∧ (∀ (i : Nat) (x : MapEntry), es[i]? = some x → ∃ a, x.key = enc a ∧ m a = some x.val) ∧
    (∀ a v, m a = some v → ∃ (i : Nat) (x : MapEntry), es[i]? = some x ∧ x.key = enc a ∧ x.val = v) ∧ H[r]? = some (.mapIter (some b) clock seen clock) ∧
    (∀ (i : Nat) (x : MapEntry) (a : α), es[i]? = some x → x.key = enc a → (seen.contains x.born = true ↔ D a)) ∧ n = (leftOf es seen).size ∧
    ∀ a, last = some a → ∃ (e : MapEntry) (s0 : Array Nat), e ∈ es.toList ∧ e.key = enc a ∧ seen = s0.push e.born) ∧ (∀ a v, m a = some v → Ok a)
section
variable {α : Type} {Ok : α → Prop} {enc : α → Value} {P : Program} {t kt et : TypeId} {z : Value} {S : Nat → Prop} {H : Heap} {b r n : Nat} {m : α → Option Value} {D : α → Prop} {last : Option α}
theorem IterW.agr {H' : Heap} (h : IterW Ok enc H b r m D last n) (k : Agr S H H') (hb : S b) (hr : S r) : IterW Ok enc H' b r m D last n := by
  obtain ⟨⟨es, clock, seen, h1, h2, h3, h4, h5, h6⟩, h7⟩ := h
  exact ⟨⟨es, clock, seen, (k b hb).trans h1, h2, h3, h4, (k r hr).trans h5, h6⟩, h7⟩
theorem IterW.map (h : IterW Ok enc H b r m D last n) : MapW Ok enc H b m := by
  obtain ⟨⟨es, clock, seen, h1, h2, h3, h4, h5, h6⟩, h7⟩ := h
  exact ⟨⟨es, clock, h1, h2, h3, h4⟩, h7⟩
theorem left_push (es : Array MapEntry) (seen : Array Nat) {e : MapEntry} (he : e ∈ (leftOf es seen).toList) : (leftOf es (seen.push e.born)).size < (leftOf es seen).size := by
  have h1 : leftOf es (seen.push e.born) = (leftOf es seen).filter fun x => !(x.born == e.born) := by
    unfold leftOf
    rw [Array.filter_filter]
    congr 1
    funext x
    rw [Array.contains_push]
    cases h1 : seen.contains x.born <;> cases h2 : x.born == e.born <;> simp_all
  have h2 : ((leftOf es seen).filter fun x => !(x.born == e.born)).size = ((leftOf es seen).toList.filter fun x => !(x.born == e.born)).length := by rw [← Array.toList_filter, Array.length_toList]
  rw [h1, h2, ← Array.length_toList]
  exact List.length_filter_lt_length_iff_exists.2 ⟨e, he, by simp⟩
theorem mrange (ht : MapTW P t kt et z) (h : MapW Ok enc H b m) {K : Value → Heap → Prop}
    (k : ∀ r n H', r = H.size → H'.size = r + 1 → IterW Ok enc H' b r m (fun _ => False) none n → Agr (fun k => k < H.size) H H' → K (.pointer (some ⟨r, 0, none⟩)) H') : VEff P (Instr.range t (.map (some b))) H K := by
  obtain ⟨⟨es, clock, h1, h2, h3, h4⟩, hok⟩ := h
  refine VEff.mk fun w hw => ?_
  subst hw
  have hbl : b < w.heap.size := (Array.getElem?_eq_some_iff.1 h1).1
  refine ⟨_, w.alloc (.mapIter (some b) clock #[] clock), by simp [Instr.range, run_underlying ht.under, Go.MapKept.run_getObj_map h1], ⟨rfl, rfl, rfl⟩, k w.heap.size (leftOf es #[]).size _ rfl (by rw [alloc_heap]; simp) ⟨⟨es, clock, #[], ?_, h2, h3, h4, by rw [alloc_heap]; simp, fun i x a hx hk => by simp, rfl, fun a h => by cases h⟩, hok⟩ (heap_push_old _ _)⟩
  rw [alloc_heap, Array.getElem?_push, if_neg (by omega)]; exact h1
theorem mnext {ty : TypeId} (hi : ∀ a b, enc a = enc b → a = b) (h : IterW Ok enc H b r m D last n) {K : Value → Heap → Prop} (k0 : (∀ a, (m a).isSome = true → D a) → K (.tuple #[.bool false]) H)
    (k1 : ∀ a v H' n', m a = some v → ¬ D a → n' < n → IterW Ok enc H' b r m (fun x => D x ∨ x = a) (some a) n' → Agr (fun k => k ≠ r) H H' → H'.size = H.size → K (.tuple #[.bool true, enc a, v]) H') : VEff P (Instr.next (.pointer (some ⟨r, 0, none⟩)) false ty) H K := by
  obtain ⟨⟨es, clock, seen, h1, h2, h3, h4, h5, h6, h7, h8⟩, hok⟩ := h
  refine VEff.mk fun w hw => ?_
  subst hw
  have hbr : b ≠ r := by
    rintro rfl
    rw [h1] at h5; cases h5
  have hml : ∀ x, x ∈ (leftOf es seen).toList ↔ x ∈ es.toList ∧ seen.contains x.born = false := fun x => by
    unfold leftOf
    rw [Array.toList_filter, List.mem_filter, Bool.not_eq_true']
  rcases run_next_at (P := P) w ty r b clock clock seen es clock h5 h1 h2.1 (Nat.le_refl _) with ⟨e1, e2⟩ | ⟨e, he, w1, hw1, e2⟩
  · refine ⟨_, w, e2, Env.refl w, k0 fun a ha => ?_⟩
    obtain ⟨v, hv⟩ := Option.isSome_iff_exists.1 ha
    obtain ⟨i, x, hx, hk, -⟩ := h4 a v hv
    refine (h6 i x a hx hk).1 ?_
    cases hs : seen.contains x.born with
    | true => rfl
    | false =>
      have := (hml x).2 ⟨List.mem_of_getElem? (i := i) (by simpa using hx), hs⟩
      have h0 : (leftOf es seen).toList = [] := List.eq_nil_of_length_eq_zero (by rw [Array.length_toList]; exact e1)
      rw [h0] at this; cases this
  · obtain ⟨he1, he2⟩ := (hml e).1 he
    obtain ⟨j, hj⟩ := List.getElem?_of_mem he1
    have hj' : es[j]? = some e := by simpa using hj
    obtain ⟨a, hka, hma⟩ := h3 j e hj'
    have hnD : ¬ D a := fun hd => by
      rw [(h6 j e a hj' hka).2 hd] at he2; cases he2
    have hw1h : w1.heap = w.heap := by rcases hw1 with rfl | rfl <;> rfl
    have hw1e : Env w w1 := by rcases hw1 with rfl | rfl <;> exact ⟨rfl, rfl, rfl⟩
    have hrl : r < w.heap.size := (Array.getElem?_eq_some_iff.1 h5).1
    have hset : (Go.ChangeMaps.setBlock w1 r (.mapIter (some b) clock (seen.push e.born) clock)).heap = w.heap.setIfInBounds r (.mapIter (some b) clock (seen.push e.born) clock) := by
      show w1.heap.setIfInBounds r _ = _
      rw [hw1h]
    refine ⟨_, _, e2, ⟨hw1e.os, hw1e.tape, hw1e.output⟩, ?_⟩
    rw [hka]
    refine k1 a e.val _ _ hma hnD (h7 ▸ left_push es seen he) ⟨⟨es, clock, seen.push e.born, ?_, h2, h3, h4, ?_, fun i x a' hx hk => ?_, rfl, fun a' ha' => ?_⟩, hok⟩ ?_ ?_
    · rw [hset, Array.getElem?_setIfInBounds_ne (Ne.symm hbr)]; exact h1
    · rw [hset, Array.getElem?_setIfInBounds_self_of_lt hrl]
    · rw [Array.contains_push, Bool.or_eq_true, h6 i x a' hx hk, beq_iff_eq]
      refine or_congr Iff.rfl ⟨fun hb => ?_, fun ha' => ?_⟩
      · obtain rfl := stamped_born h2 hx hj' hb
        rw [hj'] at hx; cases hx
        exact hi _ _ (hk.symm.trans hka)
      · subst ha'
        obtain rfl := stamped_key h2 hx hj' (hk.trans hka.symm)
        rw [hj'] at hx; cases hx; rfl
    · cases ha'
      exact ⟨e, seen, he1, hka, rfl⟩
    · rw [hset]
      exact fun k hk => Array.getElem?_setIfInBounds_ne (Ne.symm hk)
    · rw [hset]; simp
theorem mhere {a : α} {v : Value} (h : IterW Ok enc H b r m D (some a) n) (hi : ∀ a b, enc a = enc b → a = b) (hv : m a = some v) {K : Value → Heap → Prop} (k : K (.tuple #[enc a, v]) H) : VEff P (Instr.entry (.pointer (some ⟨r, 0, none⟩))) H K := by
  obtain ⟨⟨es, clock, seen, h1, h2, h3, h4, h5, h6, h7, h8⟩, hok⟩ := h
  obtain ⟨e, s0, he, hk, rfl⟩ := h8 a rfl
  refine VEff.mk fun w hw => ?_
  subst hw
  obtain ⟨i, x, hx, hkx, hvx⟩ := h4 a v hv
  obtain ⟨j, hj⟩ := List.getElem?_of_mem he
  have hj' : es[j]? = some e := by simpa using hj
  obtain rfl := stamped_key h2 hx hj' (hkx.trans hk.symm)
  rw [hj'] at hx; cases hx
  refine ⟨_, w, run_entry_at w r b clock s0 es clock e h5 h1 he h2.2.1, Env.refl w, ?_⟩
  rw [hk, hvx]; exact k
end

/-! ### as1 pieces -/
section
variable {α : Type} {Ok : α → Prop} {enc : α → Value} {b r n : Nat} {m m' : α → Option Value} {D : α → Prop} {last : Option α} {B : Nat → Prop} {H0 H H' : Heap} {ps : List Pc} {P : Program} {t kt et : TypeId} {z : Value}
def pMW (Ok : α → Prop) (enc : α → Value) (b : Nat) (m : α → Option Value) : Pc := ⟨fun k => k = b, fun H => MapW Ok enc H b m, fun h hp => hp.agr h rfl⟩
def pIW (Ok : α → Prop) (enc : α → Value) (b r : Nat) (m : α → Option Value) (D : α → Prop) (last : Option α) (n : Nat) : Pc := ⟨fun k => k = b ∨ k = r, fun H => IterW Ok enc H b r m D last n, fun h hp => hp.agr h (.inl rfl) (.inr rfl)⟩
theorem StB.mapW (st : StB B H0 H ps) (i : Nat) (hp : ps[i]? = some (pMW Ok enc b m)) : MapW Ok enc H b m := st.at_ i hp
theorem StB.iterW (st : StB B H0 H ps) (i : Nat) (hp : ps[i]? = some (pIW Ok enc b r m D last n)) : IterW Ok enc H b r m D last n := st.at_ i hp
theorem StB.mapNewW (st : StB B H0 H ps) (hb : b = H.size) (hs : H'.size = b + 1) (hm : MapW Ok enc H' b (fun _ => none)) (ha : Agr (fun k => k < b) H H') : StB B H0 H' (ps ++ [pMW Ok enc b fun _ => none]) := by
  subst hb
  exact st.add (ha.mono fun k hk => hk) _ hm fun k hk => by have : k = H.size := hk; omega
theorem mputPW {v : Value} {a : α} {K : Heap → Prop} (st : StB B H0 H ps) (i : Nat) (ht : MapTW P t kt et z) (hk : KeyW P kt Ok enc) (ha : Ok a) (hp : ps[i]? = some (pMW Ok enc b m)) (hm : put m a (some v) = m')
    (k : ∀ H', StB B H0 H' (ps.set i (pMW Ok enc b m')) → K H') : VEffU P (Instr.mapUpdate t (.map (some b)) (enc a) v) H K := by
  refine mputW ht hk ha (st.mapW i hp) ?_
  intro H' hb' ha' hs'
  subst hm
  exact k H' (st.upd i hp (ha'.mono fun k hk hkb => hk.2 hkb) _ hb' (fun k hk => .inl hk) (fun k hk => by rw [hs']; exact (st.in_ i hp hk).2) (by omega))
theorem mrangeP {K : Value → Heap → Prop} (st : StB B H0 H ps) (i : Nat) (ht : MapTW P t kt et z) (hp : ps[i]? = some (pMW Ok enc b m))
    (k : ∀ r n H', StB B H0 H' (ps.set i (pIW Ok enc b r m (fun _ => False) none n)) → K (.pointer (some ⟨r, 0, none⟩)) H') : VEff P (Instr.range t (.map (some b))) H K := by
  refine mrange ht (st.mapW i hp) fun r n H' hr hs hi ha => ?_
  subst hr
  have hbl := (st.in_ i hp (k := b) rfl).2
  refine k _ n H' (st.upd i hp (ha.mono fun k hk => hk.1) _ hi (fun k hk => ?_) (fun k hk => ?_) (by omega))
  · rcases hk with hk | hk
    · exact .inl hk
    · exact .inr (by omega)
  · rcases hk with rfl | rfl <;> omega
theorem mnextP {ty : TypeId} {K : Value → Heap → Prop} (st : StB B H0 H ps) (i : Nat) (hi : ∀ a b, enc a = enc b → a = b) (hp : ps[i]? = some (pIW Ok enc b r m D last n)) (k0 : (∀ a, (m a).isSome = true → D a) → K (.tuple #[.bool false]) H)
    (k1 : ∀ a v H' n', m a = some v → ¬ D a → n' < n → StB B H0 H' (ps.set i (pIW Ok enc b r m (fun x => D x ∨ x = a) (some a) n')) → K (.tuple #[.bool true, enc a, v]) H') : VEff P (Instr.next (.pointer (some ⟨r, 0, none⟩)) false ty) H K := by
  refine mnext hi (st.iterW i hp) k0 fun a v H' n' h1 h2 h3 h4 h5 h6 => k1 a v H' n' h1 h2 h3 (st.upd i hp (h5.mono fun k hk hkr => hk.2 (.inr hkr)) _ h4 (fun k hk => .inl hk) (fun k hk => by rw [h6]; exact (st.in_ i hp hk).2) (by omega))
/-- A loop over a map has ended. -/
theorem StB.iterEnd (st : StB B H0 H ps) (i : Nat) (hp : ps[i]? = some (pIW Ok enc b r m D last n)) : StB B H0 H (ps.set i (pMW Ok enc b m)) :=
  st.upd i hp (Agr.refl _ _) _ (st.iterW i hp).map (fun k hk => .inl (.inl hk)) (fun k hk => (st.in_ i hp (.inl hk)).2) (Nat.le_refl _)
end
end Go.VC

/- Appending to own slices without a bound but the model's; maps of slices with wide keys as1 pieces. -/
set_option linter.unusedVariables false
set_option linter.unusedSimpArgs false
namespace Go.VC
section
variable {α : Type} {T : Ty α} {e : TypeId} {a : Option Addr} {n cap : Nat} {xs : List α} {B : Nat → Prop} {H0 H : Heap} {ps : List Pc}
theorem appG {P : Program} {t ty q o m cap2 by_ : Nat} {z : Value} {ys : List α} {ds : List Value} {K : Value → Heap → Prop} (st : StB B H0 H ps) (i : Nat) (ht : SlT P t e T.size by_ z) (hp : ps[i]? = some (pS T e a n cap xs))
    (hd : Cells H q o ds) (hy : T.reps none_ H ds ys) (hm : m = ys.length) (h1 : ∀ u ∈ ds, u.oneCell' = true) (h63 : xs.length + ys.length ≤ maxLen) (hby : (xs.length + ys.length) * by_ ≤ 140737488355328)
    (k : ∀ a' cap' H', StB B H0 H' (ps.set i (pS T e a' (xs.length + ys.length) cap' (xs ++ ys))) → Agr (fun k => k < H.size ∧ ¬ slB (.slice a n cap) k) H H' → K (.slice a' (xs.length + ys.length) cap') H') :
    VEff P (Builtin.append_ #[t, t] ty [.slice a n cap, .slice (some ⟨q, o, none⟩) m cap2].toArray) H K := by
  refine vappendO (T := T) (S := none_) (lo := 0) ht (st.at_ i hp).1 (Nat.zero_le _) (fun k hk => hk.elim) hd hy hm h1 h63 hby ?_
  intro v' H' hown hagr hsz hfr
  obtain ⟨a', cap', rfl⟩ := hown.hull
  rw [List.length_append] at hown hfr ⊢
  refine k a' cap' H' (st.upd i hp (hagr.mono fun k hk => ⟨hk.1, fun hb => hk.2 (.inl hb)⟩) _ ⟨hown, fun k hk => hk.elim⟩ (fun k hk => ?_) (fun k hk => ?_) hsz) hagr
  · rcases hk with hk | hk
    · rcases hfr k hk with h | h
      · exact .inl (.inl h)
      · exact .inr h
    · exact hk.elim
  · rcases hk with hk | hk
    · exact (hown.lt hk).2
    · exact hk.elim
end

/-! ### maps of slices -/
section
variable {α β : Type} {Ok : α → Prop} {enc : α → Value} {T : Ty β} {e : TypeId} {b : Nat} {m : α → Option Value} {xs : α → List β} {B : Nat → Prop} {H0 H H' : Heap} {ps : List Pc} {P : Program} {t kt et : TypeId} {a : α}
/-- A map of own slices. -/
def pMQ (Ok : α → Prop) (enc : α → Value) (T : Ty β) (e : TypeId) (b : Nat) (m : α → Option Value) (xs : α → List β) : Pc where
  foot k := k = b ∨ ∃ a, slB (slAt m a) k
  ok H := MapW Ok enc H b m ∧ (∀ a, SlO T none_ H 0 e (slAt m a) (xs a)) ∧ (∀ a a' k, a ≠ a' → slB (slAt m a) k → ¬ slB (slAt m a') k) ∧ ∀ a, ¬ slB (slAt m a) b
  fr h hp := ⟨hp.1.agr h (.inl rfl), fun a => (hp.2.1 a).agr h (fun k hk => .inr ⟨a, hk⟩) (fun _ hk => hk.elim), hp.2.2⟩
theorem StB.mqMap (st : StB B H0 H ps) (i : Nat) (hp : ps[i]? = some (pMQ Ok enc T e b m xs)) : MapW Ok enc H b m := (st.at_ i hp).1
theorem StB.mqView (st : StB B H0 H ps) (i : Nat) (hp : ps[i]? = some (pMQ Ok enc T e b m xs)) (a : α) : ∃ ad cap, slAt m a = .slice ad (xs a).length cap ∧ SlD T (Old H) H ad cap (xs a) := by
  obtain ⟨ad, cap, h1, h2, -⟩ := ((st.at_ i hp).2.1 a).view (S' := Old H) (fun k hk => (st.in_ i hp (.inr ⟨a, hk⟩)).2) (fun _ hk => hk.elim)
  exact ⟨ad, cap, h1, h2⟩
theorem StB.mqNew (st : StB B H0 H ps) (i : Nat) (hp : ps[i]? = some (pMW Ok enc b fun _ => none)) : StB B H0 H (ps.set i (pMQ Ok enc T e b (fun _ => none) fun _ => [])) := by
  refine st.upd i hp (Agr.refl _ _) _ ⟨st.mapW i hp, fun a => SlO.nil, fun a a' k _ hk => ?_, fun a hk => ?_⟩ (fun k hk => ?_) (fun k hk => ?_) (Nat.le_refl _)
  · obtain ⟨o, n, c, h⟩ := hk; cases h
  · obtain ⟨o, n, c, h⟩ := hk; cases h
  · rcases hk with hk | ⟨a, o, n, c, h⟩
    · exact .inl hk
    · cases h
  · rcases hk with hk | ⟨a, o, n, c, h⟩
    · exact (st.in_ i hp hk).2
    · cases h
end
end Go.VC

/- A block whose cells hold slices of the call's own, of several types. -/
set_option linter.unusedVariables false
set_option linter.unusedSimpArgs false
namespace Go.VC
/-- What a slice of the call's own holds. -/
structure Slot where
  ok : Heap → Value → Prop
  fr : ∀ {S : Nat → Prop} {H H' : Heap} {v : Value}, Agr S H H' → (∀ k, slB v k → S k) → ok H v → ok H' v
  lt : ∀ {H : Heap} {v : Value} {k : Nat}, ok H v → slB v k → k < H.size
section
variable {α : Type} {T : Ty α} {B : Nat → Prop} {H0 H H1 : Heap} {ps : List Pc} {e te : TypeId} {b : Nat} {vs : List Value} {ss : Nat → Slot} {xs : List α} {v : Value} {j : Nat}
end
end Go.VC
/- class.Not, class.Minus, class.Of; bytes as1 texts. -/
set_option linter.unusedVariables false
set_option linter.unusedSimpArgs false
set_option maxRecDepth 100000
namespace Go.VC
theorem ixvN {P : Program} {t len e sz : Nat} {k : IntKind} {i : Int} {cs : Array Value} {S : Nat → Prop} {H : Heap} {K : Value → Prop} (ht : ArrT P t len e sz) (hc : AggT P e sz) (h0 : 0 ≤ i) (h1 : i < len)
    (hk : K (.agg (cs.extract (i.toNat * sz) (i.toNat * sz + sz)))) : VDet P (Instr.index t (.agg cs) (.int k i)) S H K := by
  refine VDet.mk _ (fun w _ => ?_) hk
  cases hi : P.info? e with
  | none => have := ht.size; simp [hi] at this
  | some inf =>
    have hs : inf.size = sz := by have := ht.size; simpa [hi] using this
    simp [Instr.index, asIntOf, run_underlying ht.under, h0, h1, sizeOf, typeInfo, hi, hs, run_partN hc]
end Go.VC
namespace Go.VC
theorem xor_ones {x : Nat} (h : x < 18446744073709551616) : 18446744073709551615 ^^^ x = 18446744073709551615 - x := by
  have h1 : (BitVec.ofNat 64 x ^^^ BitVec.allOnes 64).toNat = (~~~(BitVec.ofNat 64 x)).toNat := by rw [BitVec.xor_allOnes]
  rw [BitVec.toNat_xor, BitVec.toNat_not, BitVec.toNat_ofNat, BitVec.toNat_allOnes, Nat.mod_eq_of_lt (by simpa using h), Nat.xor_comm] at h1
  simpa using h1
theorem vxor1 {P : Program} {x : Nat} {S : Nat → Prop} {H : Heap} {K : Value → Prop} (hx : x < 18446744073709551616) (k : K (.int .u64 ((18446744073709551615 - x : Nat) : Int))) : VDet P (Op.unary .xor (.int .u64 (x : Int))) S H K := by
  refine VDet.mk _ (fun w _ => ?_) k
  have h1 : IntKind.u64.max = 18446744073709551615 := rfl
  have h2 : IntKind.u64.signed = false := rfl
  have e1 : (BitVec.ofInt IntKind.u64.bits (18446744073709551615 : Int) ^^^ BitVec.ofInt IntKind.u64.bits (x : Int)).toNat = 18446744073709551615 - x := by
    show (BitVec.ofInt 64 ((18446744073709551615 : Nat) : Int) ^^^ BitVec.ofInt 64 (x : Int)).toNat = _
    rw [BitVec.ofInt_natCast, BitVec.ofInt_natCast, BitVec.toNat_xor, BitVec.toNat_ofNat, BitVec.toNat_ofNat, Nat.mod_eq_of_lt (a := x) hx]
    exact xor_ones hx
  have e2 : IntKind.wrap .u64 ((18446744073709551615 - x : Nat) : Int) = ((18446744073709551615 - x : Nat) : Int) := wrap_in ⟨by show (0 : Int) ≤ _; omega, by rw [h1]; omega⟩
  show (pure (Value.int .u64 (IntKind.wrap .u64 ((BitVec.ofInt IntKind.u64.bits (if IntKind.u64.signed = true then (-1 : Int) else IntKind.u64.max) ^^^ BitVec.ofInt IntKind.u64.bits (x : Int)).toNat : Int))) : Sem Value).run P w = _
  rw [h2, h1]
  simp only [Bool.false_eq_true, if_false]
  rw [e1, e2]
  rfl
end Go.VC
namespace Go.Proofs.YtlnmhfhdjnenoaaGreatDoor
open Go.VC

theorem wd_not (a : BitVec 256) (i : Nat) (hi : i < 4) : wd (~~~a) i = 18446744073709551615 - wd a i := by
  have ha := a.isLt
  unfold wd
  rw [BitVec.toNat_not]
  match i, hi with
  | 0, _ => simp only [Nat.reduceMul, Nat.reducePow] at *; omega
  | 1, _ => simp only [Nat.reduceMul, Nat.reducePow] at *; omega
  | 2, _ => simp only [Nat.reduceMul, Nat.reducePow] at *; omega
  | 3, _ => simp only [Nat.reduceMul, Nat.reducePow] at *; omega
theorem not_c (a : BitVec 256) (H : Heap) : Pure Tryz.prog 94 #[setV a] H (setV (~~~a)) := by
  have hw : ∀ i, wd a i < 18446744073709551616 := fun i => wd_lt a i
  refine FnOk.of_vc Tryz.func94 rfl (Tryz.call94 _) ?_
  (conv => whnf); refine vbox (setL a) rfl ?_
  intro p H1 hp hs1 hb1 ha1
  (conv => whnf); refine valloc (setV 0) (setL 0) rfl rfl ?_
  intro r H3 hr hs3 hb3 ha3
  replace hb1 := hb1.agr ha3 (show p < r by omega)
  (conv => whnf); refine ixa ar102 (by decide) (by decide) ?_
  (conv => whnf); refine ld1 ct56 ((hb1.cell _).trans rfl) trivial ?_
  (conv => whnf); refine vxor1 (hw _) ?_
  (conv => whnf); refine ixa ar102 (by decide) (by decide) ?_
  (conv => whnf); refine ld1 ct56 ((hb1.cell _).trans rfl) trivial ?_
  (conv => whnf); refine vxor1 (hw _) ?_
  (conv => whnf); refine ixa ar102 (by decide) (by decide) ?_
  (conv => whnf); refine ld1 ct56 ((hb1.cell _).trans rfl) trivial ?_
  (conv => whnf); refine vxor1 (hw _) ?_
  (conv => whnf); refine ixa ar102 (by decide) (by decide) ?_
  (conv => whnf); refine ld1 ct56 ((hb1.cell _).trans rfl) trivial ?_
  (conv => whnf); refine vxor1 (hw _) ?_
  rw [← wd_not a 0 (by decide), ← wd_not a 1 (by decide), ← wd_not a 2 (by decide), ← wd_not a 3 (by decide)]
  (conv => whnf); refine vbuildA ar102 (setV 0) rfl (setL (~~~a)) rfl ?_
  (conv => whnf); refine VC.stN rfl hb3 (show 0 + 4 ≤ 4 by decide) rfl ?_
  intro H4 hb4 ha4 hs4
  (conv => whnf); refine ldN (cs := setL (~~~a)) ag102 (hb4.cells (fun j v hv => by simpa [splice, setL] using hv)) trivial ?_
  exact ⟨rfl, fun k hk => by rw [ha4 k (by omega), ha3 k (by omega), ha1 k (by omega)]⟩
end Go.Proofs.YtlnmhfhdjnenoaaGreatDoor

namespace Go.Proofs.YtlnmhfhdjnenoaaGreatDoor
open Go.VC
def byN (s : ByteArray) : List Nat := s.data.toList.map UInt8.toNat
theorem byN_len (s : ByteArray) : (byN s).length = s.size := by unfold byN; rw [List.length_map]; exact Array.length_toList
theorem byN_get {s : ByteArray} {i : Nat} {b : UInt8} (h : s.data[i]? = some b) : (byN s)[i]? = some b.toNat := by
  unfold byN
  rw [List.getElem?_map, Array.getElem?_toList, h]; rfl
theorem getB {s : ByteArray} {k : Nat} (h : k < s.size) : ∃ b, s.data[k]? = some b := ⟨s.data[k]'h, Array.getElem?_eq_getElem h⟩
theorem splice_all {l c : List Value} (h : c.length = l.length) : splice l 0 c = c := by
  unfold splice
  rw [List.take_zero, List.nil_append, Nat.zero_add, h, List.drop_length, List.append_nil]

/-! ### Words -/
def ofB (x : BitVec 256) (l : List Nat) : BitVec 256 := l.foldl (fun x b => x ||| BitVec.twoPow 256 b) x
set_option maxHeartbeats 4000000 in
theorem of_p (s : ByteArray) (hs : s.size ≤ 1048576) (H : Heap) : Pure Tryz.prog 49 #[.string s] H (setV (ofB 0#256 (byN s))) := by
  refine FnOk.of_vc Tryz.func49 rfl (Tryz.call49 _) ?_
  (conv => whnf); refine valloc (setV 0) (setL 0) rfl rfl ?_
  intro r H1 hr hs1 hb1 ha1
  have st1 := (St.nil H).box hr hs1 hb1 ha1
  (conv => whnf); refine valloc (setV 0) (setL 0) rfl rfl ?_
  intro p H2 hp hs2 hb2 ha2
  have st2 := st1.box hp hs2 hb2 ha2
  (conv => whnf)
  refine VLoop.mk [7] (fun i : Nat => [.int .i64 (i : Int)]) (fun i H3 => i ≤ s.size ∧ St H H3 [pB 102 r (setL 0), pB 102 p (setL (ofB 0#256 ((byN s).take i)))]) (fun i _ => s.size - i) ?_ ?_
  · (conv => whnf)
    exact ⟨0, rfl, Nat.zero_le _, st2⟩
  · rintro i H3 junk ⟨hi, st3⟩
    (conv => whnf); refine VIte.mk (fun h => ?_) (fun h => ?_) <;> simp only [decide_eq_true_eq, decide_eq_false_iff_not] at h
    · obtain ⟨c, hc⟩ := getB (s := s) (k := i) (by omega)
      obtain ⟨b, hb⟩ : ∃ b, b = c.toNat := ⟨_, rfl⟩
      have hb256 : b < 256 := by rw [hb]; exact UInt8.toNat_lt c
      obtain ⟨x, hx⟩ : ∃ x, x = ofB 0#256 ((byN s).take i) := ⟨_, rfl⟩
      have hnext : ofB 0#256 ((byN s).take (i + 1)) = x ||| BitVec.twoPow 256 b := by
        rw [take_succ_snoc (byN_get hc), hx, hb]
        unfold ofB
        rw [List.foldl_append]
        rfl
      rw [← hx] at st3
      have hbp := st3.blk 1 rfl
      have hpl := (st3.in_ 1 rfl rfl).2
      (conv => whnf); refine VDraw.heldZ (Old H3) [13] (sq [0,1,2,3,4,5,6,7,8,9,10,11,12] (.f 13 .e)) rfl (by kernel_rfl) ?_
      (conv => whnf); refine vidxs Tryz.underlying9 rfl hc ?_
      rw [← hb]
      (conv => whnf); refine vshr (b := 6) (by decide) ?_
      (conv => whnf); refine ixa ar102 (by omega) (by omega) ?_
      (conv => whnf); refine ld1 ct56 (v := .int .u64 (wd x (b / 64))) (by rw [hbp.cell, Nat.zero_add, Nat.mul_one]; exact setL_get x b (by omega)) hpl ?_
      (conv => whnf); refine vidxs Tryz.underlying9 rfl hc ?_
      rw [← hb]
      (conv => whnf); refine vand (b := 63) (inU8 hb256) (inU8 (by decide)) ?_
      have hpow : 2 ^ (b % 64) < 2 ^ 64 := Nat.pow_lt_pow_right (by decide) (by omega)
      rw [and63]
      have hin : inK .u64 ((1 * 2 ^ (b % 64) : Nat) : Int) := inU64 (by omega)
      (conv => whnf); refine vshl (a := 1) (by simp [IntKind.bits]; omega) hin ?_
      (conv => whnf); refine vor (wd_in x _) hin ?_
      (conv => whnf); refine ixa ar102 (by omega) (by omega) ?_
      (conv => whnf); refine st1B st3 1 ct56 rfl (by simp [setL]; omega) rfl fun H4 st4 => ?_
      (conv => whnf); rw [w64 (x := (i : Int) + 1) (by omega) (by omega)]
      refine ⟨rfl, i + 1, by simp, ⟨by omega, ?_⟩, by omega⟩
      rw [hnext, ← setL_put x b (by omega)]
      rw [Nat.zero_add, Nat.mul_one, Nat.one_mul] at st4
      exact st4
    · obtain rfl : i = s.size := by omega
      rw [List.take_of_length_le (by rw [byN_len]; exact Nat.le_refl _)] at st3
      generalize ofB 0#256 (byN s) = x at *
      (conv => whnf); refine ldN (cs := setL x) ag102 ((st3.blk 1 rfl).cells fun j v hv => by rw [Nat.zero_add]; exact hv) trivial ?_
      (conv => whnf); refine stNB (cs := setL x) st3 0 rfl rfl (Nat.le_refl _) rfl fun H4 st4 => ?_
      rw [splice_all (show (setL x).length = (setL 0).length from rfl)] at st4
      (conv => whnf); refine ldN (cs := setL x) ag102 ((st4.blk 0 rfl).cells fun j v hv => by rw [Nat.zero_add]; exact hv) trivial ?_
      exact ⟨rfl, st4.old⟩
end Go.Proofs.YtlnmhfhdjnenoaaGreatDoor
/- Sets of bytes as1 256 bools: From and Words. -/
set_option linter.unusedVariables false
set_option linter.unusedSimpArgs false
set_option maxRecDepth 100000
namespace Go.Proofs.YtlnmhfhdjnenoaaGreatDoor
open Go.VC
def bitsTo (x : BitVec 256) (k : Nat) : List Value := (List.range 256).map fun b => .bool (decide (b < k) && x.getLsbD b)
def bitsL (x : BitVec 256) : List Value := bitsTo x 256
theorem bitsTo_len (x : BitVec 256) (k : Nat) : (bitsTo x k).length = 256 := by simp [bitsTo]
theorem bitsTo_get (x : BitVec 256) (k : Nat) {b : Nat} (h : b < 256) : (bitsTo x k)[b]? = some (.bool (decide (b < k) && x.getLsbD b)) := by
  unfold bitsTo
  rw [List.getElem?_map, List.getElem?_range h]; rfl
theorem bitsL_get (x : BitVec 256) {b : Nat} (h : b < 256) : (bitsL x)[b]? = some (.bool (x.getLsbD b)) := by
  unfold bitsL
  rw [bitsTo_get x 256 h]; simp [h]
theorem bitsL_len (x : BitVec 256) : (bitsL x).length = 256 := bitsTo_len _ _
theorem bits_ones (x : BitVec 256) (k : Nat) : (bitsTo x k).all (·.oneCell') = true := by
  simp [bitsTo, Value.oneCell']
/-! ### sets as1 functions -/
def funL (f : Nat → Bool) : List Value := (List.range 256).map fun b => .bool (f b)
theorem funL_len (f : Nat → Bool) : (funL f).length = 256 := by simp [funL]
theorem funL_get (f : Nat → Bool) {b : Nat} (h : b < 256) : (funL f)[b]? = some (.bool (f b)) := by
  unfold funL
  rw [List.getElem?_map, List.getElem?_range h]; rfl
theorem funL_ext {f g : Nat → Bool} (h : ∀ b, b < 256 → f b = g b) : funL f = funL g := by
  unfold funL
  exact List.map_congr_left fun b hb => by rw [h b (List.mem_range.1 hb)]
end Go.Proofs.YtlnmhfhdjnenoaaGreatDoor
/- A piece split in two; a map of slices that is only read from now on; keys that are texts. -/
set_option linter.unusedVariables false
set_option linter.unusedSimpArgs false
namespace Go.VC
section
variable {B : Nat → Prop} {H0 H : Heap} {ps : List Pc} {p : Pc}
theorem StB.apart2 (st : StB B H0 H ps) {i j : Nat} {q : Pc} (hp : ps[i]? = some p) (hq : ps[j]? = some q) (hij : i ≠ j) : Dis p q := by
  have hil := (List.getElem?_eq_some_iff.1 hp).1
  have hjl := (List.getElem?_eq_some_iff.1 hq).1
  have e1 := (List.getElem?_eq_some_iff.1 hp).2
  have e2 := (List.getElem?_eq_some_iff.1 hq).2
  intro k hk hk'
  rcases Nat.lt_or_gt_of_ne hij with h | h
  · exact List.pairwise_iff_getElem.1 st.dis i j hil hjl h k (by rw [e1]; exact hk) (by rw [e2]; exact hk')
  · exact List.pairwise_iff_getElem.1 st.dis j i hjl hil h k (by rw [e2]; exact hk') (by rw [e1]; exact hk)
end
section
variable {α β : Type} {Ok : α → Prop} {enc : α → Value} {T : Ty β} {e : TypeId} {b : Nat} {m : α → Option Value} {xs : α → List β} {B : Nat → Prop} {H0 H : Heap} {ps : List Pc}
end
/-- Every key. -/
abbrev anyK {α : Type} (_ : α) : Prop := True
theorem KeyW.ofE {P : Program} {kt : TypeId} {d : TypeDesc} {α : Type} {enc : α → Value} (hd : P.underlying kt = some d) (hk : KeyE d enc) : KeyW P kt anyK enc where
  inj := hk.inj
  check w em a _ := Go.MapKept.run_checkKey hd (hk.isKey a) em 9999
  find w a _ es hes := by
    have hall : ∀ x ∈ es, Go.MapKept.IsKey d x.key := fun x hx => by
      obtain ⟨b, -, e⟩ := hes x hx
      rw [e]; exact hk.isKey b
    rcases Go.MapKept.findNow_spec (hk.isKey a) es 0 hall with ⟨h1, h2⟩ | ⟨j, e, h1, h2, h3⟩
    · exact .inl ⟨Go.MapKept.run_findKey hd h1, h2⟩
    · exact .inr ⟨j, e, by rw [Nat.zero_add] at h1; exact Go.MapKept.run_findKey hd h1, h2, h3⟩
  stays w a _ := Go.MapKept.run_keyThatStays (hk.isKey a)
end Go.VC
/- Taking a map's slice out, and laying it again by an update. -/
set_option linter.unusedVariables false
set_option linter.unusedSimpArgs false
namespace Go.VC
section
variable {α β : Type} {Ok : α → Prop} {enc : α → Value} {T : Ty β} {e : TypeId} {b : Nat} {m : α → Option Value} {xs : α → List β} {B : Nat → Prop} {H0 H H' : Heap} {ps : List Pc} {P : Program} {t kt et : TypeId} {a : α}
/-- The slice at a is out, as1 v, holding x; the map itself is as1 it was. -/
def pMQo (Ok : α → Prop) (enc : α → Value) (T : Ty β) (e : TypeId) (b : Nat) (m : α → Option Value) (xs : α → List β) (a : α) (v : Value) (x : List β) : Pc where
  foot k := k = b ∨ slB v k ∨ ∃ c, c ≠ a ∧ slB (slAt m c) k
  ok H := MapW Ok enc H b m ∧ SlO T none_ H 0 e v x ∧ (∀ c, c ≠ a → SlO T none_ H 0 e (slAt m c) (xs c)) ∧ (∀ c c' k, c ≠ a → c' ≠ a → c ≠ c' → slB (slAt m c) k → ¬ slB (slAt m c') k) ∧ (∀ c k, c ≠ a → slB (slAt m c) k → ¬ slB v k) ∧ (∀ c, c ≠ a → ¬ slB (slAt m c) b) ∧ ¬ slB v b
  fr h hp := ⟨hp.1.agr h (.inl rfl), hp.2.1.agr h (fun k hk => .inr (.inl hk)) (fun _ hk => hk.elim), fun c hc => (hp.2.2.1 c hc).agr h (fun k hk => .inr (.inr ⟨c, hc, hk⟩)) (fun _ hk => hk.elim), hp.2.2.2⟩
theorem StB.mqOut (st : StB B H0 H ps) (i : Nat) (hp : ps[i]? = some (pMQ Ok enc T e b m xs)) (a : α) : StB B H0 H (ps.set i (pMQo Ok enc T e b m xs a (slAt m a) (xs a))) := by
  obtain ⟨hmap, hown, hap, hb⟩ := st.at_ i hp
  refine st.say i hp _ ⟨hmap, hown a, fun c _ => hown c, fun c c' k _ _ hcc => hap c c' k hcc, fun c k hc => hap c a k hc, fun c _ => hb c, hb a⟩ fun k hk => ?_
  rcases hk with hk | hk | ⟨c, -, hk⟩
  · exact .inl hk
  · exact .inr ⟨a, hk⟩
  · exact .inr ⟨c, hk⟩
theorem appQo {ty q o l cap2 by_ : Nat} {z v : Value} {x : List β} {ys : List β} {ds : List Value} {tt : TypeId} {K : Value → Heap → Prop} (st : StB B H0 H ps) (i : Nat) (ht : SlT P tt e T.size by_ z) (hp : ps[i]? = some (pMQo Ok enc T e b m xs a v x))
    (hd : Cells H q o ds) (hy : T.reps none_ H ds ys) (hl : l = ys.length) (h1 : ∀ u ∈ ds, u.oneCell' = true) (h63 : x.length + ys.length ≤ maxLen) (hby : (x.length + ys.length) * by_ ≤ 140737488355328)
    (k : ∀ v' H', StB B H0 H' (ps.set i (pMQo Ok enc T e b m xs a v' (x ++ ys))) → Agr (fun k => k < H.size ∧ ¬ slB v k) H H' → K v' H') :
    VEff P (Builtin.append_ #[tt, tt] ty [v, .slice (some ⟨q, o, none⟩) l cap2].toArray) H K := by
  obtain ⟨hmap, hv, hown, hap, hapv, hb, hvb⟩ := st.at_ i hp
  have hlt : ∀ c, c ≠ a → ∀ k, slB (slAt m c) k → k < H.size := fun c hc k hk => (st.in_ i hp (.inr (.inr ⟨c, hc, hk⟩))).2
  have hbl : b < H.size := (st.in_ i hp (.inl rfl)).2
  refine vappendO (T := T) (S := none_) (lo := 0) ht hv (Nat.zero_le _) (fun k hk => hk.elim) hd hy hl h1 h63 hby ?_
  intro v' H' hv' hagr hsz hfr
  refine k v' H' (st.upd i hp (hagr.mono fun k hk => ⟨hk.1, fun hb => hk.2 (.inr (.inl hb))⟩) (pMQo Ok enc T e b m xs a v' (x ++ ys)) ⟨hmap.agr hagr ⟨hbl, hvb⟩, hv', fun c hc => (hown c hc).agr hagr (fun k hk => ⟨hlt c hc k hk, hapv c k hc hk⟩) (fun _ hk => hk.elim), hap, fun c k hc hk hk' => ?_, hb, fun hk => ?_⟩ (fun k hk => ?_) (fun k hk => ?_) hsz) hagr
  · rcases hfr k hk' with h | h
    · exact hapv c k hc hk h
    · have := hlt c hc k hk; omega
  · rcases hfr b hk with h | h
    · exact hvb h
    · omega
  · rcases hk with hk | hk | hk
    · exact .inl (.inl hk)
    · rcases hfr k hk with h | h
      · exact .inl (.inr (.inl h))
      · exact .inr h
    · exact .inl (.inr (.inr hk))
  · rcases hk with hk | hk | ⟨c, hc, hk⟩
    · have : k = b := hk; omega
    · exact (hv'.lt hk).2
    · have := hlt c hc k hk; omega
theorem mputQo {v : Value} {x : List β} {z : Value} {K : Heap → Prop} (st : StB B H0 H ps) (i : Nat) (ht : MapTW P t kt et z) (hk : KeyW P kt Ok enc) (ha : Ok a) (hp : ps[i]? = some (pMQo Ok enc T e b m xs a v x))
    (k : ∀ m' H', StB B H0 H' (ps.set i (pMQ Ok enc T e b m' (upd xs a x))) → K H') : VEffU P (Instr.mapUpdate t (.map (some b)) (enc a) v) H K := by
  obtain ⟨hmap, hv, hown, hap, hapv, hb, hvb⟩ := st.at_ i hp
  refine mputW ht hk ha hmap ?_
  intro H' h1 h2 h3
  have e1 : slAt (put m a (some v)) a = v := slAt_put m a v
  have e2 : ∀ c, c ≠ a → slAt (put m a (some v)) c = slAt m c := fun c hc => slAt_ne hc
  refine k _ H' (st.upd i hp (h2.mono fun k hk hkb => hk.2 (.inl hkb)) (pMQ Ok enc T e b (put m a (some v)) (upd xs a x)) ⟨h1, fun c => ?_, fun c c' k hcc => ?_, fun c => ?_⟩ (fun k hk => ?_) (fun k hk => ?_) (by omega))
  · by_cases hc : c = a
    · subst hc; rw [e1, upd_self]; exact hv.agr h2 (fun k hk hkb => hvb (hkb ▸ hk)) (fun _ hk => hk.elim)
    · rw [e2 c hc, upd_ne hc]; exact (hown c hc).agr h2 (fun k hk hkb => hb c hc (hkb ▸ hk)) (fun _ hk => hk.elim)
  · by_cases hc : c = a
    · subst hc
      rw [e1, e2 c' (Ne.symm hcc)]
      exact fun h1 h2 => hapv c' _ (Ne.symm hcc) h2 h1
    · by_cases hc' : c' = a
      · subst hc'
        rw [e1, e2 c hc]
        exact hapv c _ hc
      · rw [e2 c hc, e2 c' hc']; exact hap c c' k hc hc' hcc
  · by_cases hc : c = a
    · subst hc; rw [e1]; exact hvb
    · rw [e2 c hc]; exact hb c hc
  · refine .inl ?_
    rcases hk with hk | ⟨c, hk⟩
    · exact .inl hk
    · by_cases hc : c = a
      · subst hc; rw [e1] at hk; exact .inr (.inl hk)
      · rw [e2 c hc] at hk; exact .inr (.inr ⟨c, hc, hk⟩)
  · rw [h3]
    rcases hk with hk | ⟨c, hk⟩
    · exact (st.in_ i hp (.inl hk)).2
    · by_cases hc : c = a
      · subst hc; rw [e1] at hk; exact (st.in_ i hp (.inr (.inl hk))).2
      · rw [e2 c hc] at hk; exact (st.in_ i hp (.inr (.inr ⟨c, hc, hk⟩))).2
end
end Go.VC
/- Nondeterministic automata in memory. -/
set_option linter.unusedVariables false
set_option linter.unusedSimpArgs false
set_option maxRecDepth 100000
namespace Go.Proofs.YtlnmhfhdjnenoaaGreatDoor
open Go.VC
/-- An edge of the program's. -/
def edL (e : EdM) : List Value := [.int .i64 e.fr, .int .i64 e.to, .bool e.sil, .int .u64 (wd e.set 0), .int .u64 (wd e.set 1), .int .u64 (wd e.set 2), .int .u64 (wd e.set 3)]
theorem edL_set (e : EdM) : ∀ (j : Nat) (v : Value), (setL e.set)[j]? = some v → (edL e)[3 + j]? = some v := by
  intro j v h
  rw [show 3 + j = j + 3 by omega]
  exact h
def EdM.Ok (e : EdM) : Prop := inK .i64 e.fr ∧ inK .i64 e.to
def tEd : Ty EdM where
  size := 7
  rep _ _ cs e := cs = edL e ∧ e.Ok
  len h := by rw [h.1]; rfl
  frame h _ := h
  mono h _ := h
theorem ed_ones (e : EdM) : (edL e).all (·.oneCell') = true := rfl
def NfM.Rng (a : NfM) : Prop := inK .i64 a.st ∧ inK .i64 a.start ∧ inK .i64 a.fin
def nfL (a : NfM) (v : Value) : List Value := [.int .i64 a.st, .int .i64 a.start, .int .i64 a.fin, v]
/-- An automaton of the program's, to be read. -/
def NfV (S : Nat → Prop) (H : Heap) (v : Value) (a : NfM) : Prop := a.Rng ∧ a.edges.length ≤ 1048576 ∧ ∃ ea ec, v = .agg (nfL a (.slice ea a.edges.length ec)).toArray ∧ SlD tEd S H ea ec a.edges
section
variable {S S' : Nat → Prop} {H H' : Heap} {v : Value} {a : NfM}
end
theorem edge_z : (Tryz.prog.info? 104).bind (·.zero) = some (.agg #[.int .i64 0, .int .i64 0, .bool false, .int .u64 0, .int .u64 0, .int .u64 0, .int .u64 0]) := rfl
theorem nfa_z : (Tryz.prog.info? 37).bind (·.zero) = some (.agg #[.int .i64 0, .int .i64 0, .int .i64 0, .slice none 0 0]) := rfl
/-- Boxing an automaton, and reading it. -/
theorem nf_box {S : Nat → Prop} {H : Heap} {v : Value} {a : NfM} {K : Value → Heap → Prop} {t : TypeId} (h : NfV S H v a)
    (k : ∀ ea ec, v = .agg (nfL a (.slice ea a.edges.length ec)).toArray → SlD tEd S H ea ec a.edges → New H (fun b H' => K (.pointer (some ⟨b, 0, none⟩)) H') t (nfL a (.slice ea a.edges.length ec))) : VEff Tryz.prog (Instr.box t v) H K := by
  obtain ⟨hr, hl, ea, ec, rfl, h1⟩ := h
  exact vbox (nfL a (.slice ea a.edges.length ec)) rfl (k ea ec rfl h1)
theorem nf_load {S S0 : Nat → Prop} {H : Heap} {a : NfM} {pb : Nat} {ea : Option Addr} {ec : Nat} {K : Value → Prop} {t : TypeId} (hr : a.Rng) (hl : a.edges.length ≤ 1048576) (hb : Blk H pb t (nfL a (.slice ea a.edges.length ec))) (hag : AggT Tryz.prog t 4) (hS : S0 pb) (h1 : SlD tEd S H ea ec a.edges)
    (k : ∀ v, NfV S H v a → K v) : VDet Tryz.prog (Instr.loadAt t (.pointer (some ⟨pb, 0, none⟩))) S0 H K :=
  ldN (cs := nfL a (.slice ea a.edges.length ec)) hag (hb.cells fun j v hv => by rw [Nat.zero_add]; exact hv) hS (k _ ⟨hr, hl, ea, ec, rfl, h1⟩)
/-! ### has -/
theorem has_p {S : Nat → Prop} {H : Heap} {v : Value} {a : NfM} {q : Int} (h : NfV S H v a) : Pure Tryz.prog 64 #[v, .int .i64 q] H (.bool (a.has q)) := by
  refine FnOk.of_vc Tryz.func64 rfl (Tryz.call64 _) ?_
  (conv => whnf); refine nf_box h fun ea ec he h1 => ?_
  subst he
  intro p H1 hp hs1 hb1 ha1
  have st1 := (St.nil H).box hp hs1 hb1 ha1
  by_cases h0 : 0 ≤ q
  · have d0 : decide (0 ≤ q) = true := decide_eq_true h0
    (conv => whnf); rw [d0]
    (conv => whnf); refine fa fl37_0 ?_
    (conv => whnf); refine ld1 (v := .int .i64 a.st) ct3 (by rw [hb1.cell]; rfl) trivial ?_
    by_cases h2 : q < a.st
    · have d1 : decide (q < a.st) = true := decide_eq_true h2
      (conv => whnf); rw [d1]
      (conv => whnf); refine fa fl37_0 ?_
      (conv => whnf); refine ld1 (v := .int .i64 a.st) ct3 (by rw [hb1.cell]; rfl) trivial ?_
      (conv => whnf)
      exact ⟨by unfold NfM.has; rw [d0, d1]; rfl, st1.old⟩
    · have d1 : decide (q < a.st) = false := decide_eq_false h2
      (conv => whnf); rw [d1]
      (conv => whnf)
      exact ⟨by unfold NfM.has; rw [d0, d1]; rfl, st1.old⟩
  · have d0 : decide (0 ≤ q) = false := decide_eq_false h0
    (conv => whnf); rw [d0]
    (conv => whnf)
    exact ⟨by unfold NfM.has; rw [d0]; rfl, st1.old⟩
end Go.Proofs.YtlnmhfhdjnenoaaGreatDoor
/- Trees of expressions. -/
set_option linter.unusedVariables false
set_option linter.unusedSimpArgs false
namespace Go.Proofs.YtlnmhfhdjnenoaaGreatDoor
open Go.VC
inductive ReM
  | eps
  | cls (s : BitVec 256)
  | cat (a b : ReM)
  | alt (a b : ReM)
  | star (a : ReM)
  | and_ (a b : ReM)
  | minus (a b : ReM)
def nodeV : ReM → Value
  | .eps => .iface 127 (.agg #[])
  | .cls s => .iface 130 (setV s)
  | .cat a b => .iface 132 (.agg #[nodeV a, nodeV b])
  | .alt a b => .iface 163 (.agg #[nodeV a, nodeV b])
  | .star a => .iface 165 (.agg #[nodeV a])
  | .and_ a b => .iface 166 (.agg #[nodeV a, nodeV b])
  | .minus a b => .iface 167 (.agg #[nodeV a, nodeV b])
theorem nodeV_if (r : ReM) : ∃ T v, nodeV r = .iface T v := by cases r <;> exact ⟨_, _, rfl⟩
theorem nodeV_one (r : ReM) : (nodeV r).oneCell' = true := by cases r <;> rfl
def ReM.nodes : ReM → Nat
  | .eps => 1
  | .cls _ => 1
  | .cat a b => 1 + a.nodes + b.nodes
  | .alt a b => 1 + a.nodes + b.nodes
  | .star a => 1 + a.nodes
  | .and_ a b => 1 + a.nodes + b.nodes
  | .minus a b => 1 + a.nodes + b.nodes
def ReM.plain : ReM → Bool
  | .eps => true
  | .cls _ => true
  | .cat a b => a.plain && b.plain
  | .alt a b => a.plain && b.plain
  | .star a => a.plain
  | .and_ _ _ => false
  | .minus _ _ => false
end Go.Proofs.YtlnmhfhdjnenoaaGreatDoor
/- Interface values: asking for their type, comparing with nil, calling their methods. -/
set_option linter.unusedVariables false
set_option linter.unusedSimpArgs false
namespace Go.VC
section
variable {P : Program} {t : TypeId} {x y : Operand} {S : Nat → Prop} {H : Heap} {K : Value → Prop} {T A : TypeId} {v z : Value} {d : TypeDesc}
theorem vta_yes (hd : P.underlying A = some d) (hn : ∀ ms, d ≠ .interface ms) (k : K (.tuple #[v, .bool true])) : VDet P (Instr.typeAssert (.iface A v) t A true) S H K := by
  refine VDet.mk _ (fun w _ => ?_) k
  unfold Instr.typeAssert
  simp only [Sem.run_bind, run_underlying hd, Result.andThen_ok]
  cases d <;> first | (exact absurd rfl (hn _)) | simp
theorem vta_no (hd : P.underlying A = some d) (hn : ∀ ms, d ≠ .interface ms) (hz : (P.info? A).bind (·.zero) = some z) (hne : T ≠ A) (k : K (.tuple #[z, .bool false])) : VDet P (Instr.typeAssert (.iface T v) t A true) S H K := by
  refine VDet.mk _ (fun w _ => ?_) k
  have hzr : (zeroValue A).run P w = .ok z w := by
    cases hi : P.info? A with
    | none => rw [hi] at hz; cases hz
    | some i =>
      have hz' : i.zero = some z := by simpa [hi] using hz
      simp [zeroValue, typeInfo, hi, hz']
  unfold Instr.typeAssert
  simp only [Sem.run_bind, run_underlying hd, Result.andThen_ok]
  cases d <;> first | (exact absurd rfl (hn _)) | simp [hne, hzr]
theorem run_if_nil {ms : Array (String × TypeId)} (h : P.underlying t = some (.interface ms)) (w : World) : (Op.equal t (.iface T v) .nilIface).run P w = .ok false w := by
  have : ∀ d : Nat, (Op.equalIn (d + 1) t (.iface T v) .nilIface).run P w = .ok false w := fun d => by
    simp [Op.equalIn, run_underlying h]
  exact this 9999
theorem run_nil_nil {ms : Array (String × TypeId)} (h : P.underlying t = some (.interface ms)) (w : World) : (Op.equal t .nilIface .nilIface).run P w = .ok true w := by
  have : ∀ d : Nat, (Op.equalIn (d + 1) t .nilIface .nilIface).run P w = .ok true w := fun d => by
    simp [Op.equalIn, run_underlying h]
  exact this 9999
theorem ifeq {ms : Array (String × TypeId)} (h : P.underlying t = some (.interface ms)) (k : K (.bool false)) : VDet P (do eqGuard .eql t x y (.iface T v) .nilIface; binOp .eql t (.iface T v) .nilIface) S H K := by
  refine VDet.mk _ (fun w _ => ?_) k
  simp [eqGuard, binOp, run_if_nil h]
theorem ifneq {ms : Array (String × TypeId)} (h : P.underlying t = some (.interface ms)) (k : K (.bool true)) : VDet P (do eqGuard .neq t x y (.iface T v) .nilIface; binOp .neq t (.iface T v) .nilIface) S H K := by
  refine VDet.mk _ (fun w _ => ?_) k
  simp [eqGuard, binOp, run_if_nil h]
theorem ifeqN {ms : Array (String × TypeId)} {c : Value} (h : P.underlying t = some (.interface ms)) (k : K (.bool true)) : VDet P (do eqGuard .eql t x (.const c) .nilIface .nilIface; binOp .eql t .nilIface .nilIface) S H K := by
  refine VDet.mk _ (fun w _ => ?_) k
  simp [eqGuard, binOp, run_nil_nil h]
theorem ifneqN {ms : Array (String × TypeId)} {c : Value} (h : P.underlying t = some (.interface ms)) (k : K (.bool false)) : VDet P (do eqGuard .neq t x (.const c) .nilIface .nilIface; binOp .neq t .nilIface .nilIface) S H K := by
  refine VDet.mk _ (fun w _ => ?_) k
  simp [eqGuard, binOp, run_nil_nil h]
end
end Go.VC
namespace Go.Proofs.YtlnmhfhdjnenoaaGreatDoor
open Go.VC
theorem m_eps_size (x : Value) (w : World) : (callMethod (.iface 127 x) "Size" #[]).run Tryz.prog w = .ok (.enter 161 #[x]) w := by kernel_rfl
theorem m_cls_size (x : Value) (w : World) : (callMethod (.iface 130 x) "Size" #[]).run Tryz.prog w = .ok (.enter 163 #[x]) w := by kernel_rfl
theorem m_cat_size (x : Value) (w : World) : (callMethod (.iface 132 x) "Size" #[]).run Tryz.prog w = .ok (.enter 165 #[x]) w := by kernel_rfl
theorem m_alt_size (x : Value) (w : World) : (callMethod (.iface 163 x) "Size" #[]).run Tryz.prog w = .ok (.enter 168 #[x]) w := by kernel_rfl
theorem m_star_size (x : Value) (w : World) : (callMethod (.iface 165 x) "Size" #[]).run Tryz.prog w = .ok (.enter 170 #[x]) w := by kernel_rfl
theorem m_and_size (x : Value) (w : World) : (callMethod (.iface 166 x) "Size" #[]).run Tryz.prog w = .ok (.enter 172 #[x]) w := by kernel_rfl
theorem m_minus_size (x : Value) (w : World) : (callMethod (.iface 167 x) "Size" #[]).run Tryz.prog w = .ok (.enter 174 #[x]) w := by kernel_rfl
end Go.Proofs.YtlnmhfhdjnenoaaGreatDoor
/- The library's slices.Sort at []int, by the kit's shelf (laid by its tool); as1 an operation on own slices. -/
set_option linter.unusedVariables false
set_option linter.unusedSimpArgs false
set_option maxRecDepth 100000
namespace Go.VC
open Go.Sort
/-- A function that sorts ints. -/
structure SortsI (P : Program) (f : FuncId) : Prop where
  call : ∀ (args : Array Value) (w : World), (callFunc f args).run P w = .ok (.enter f args) w
  some_ : ∀ (blk off cap : Nat) (zs : List Int) (w : World), Holds (Value.int .i64) w blk off zs.toArray → blk < w.heap.size → zs.length < 4611686018427387904 →
    Calls P f #[.slice (some ⟨blk, off, none⟩) zs.length cap] w fun e w' => e = .returned (.tuple #[]) ∧ ∃ n os, w' = grow (putRow (Value.int .i64) (Sort.ahead w n) blk off (zs.mergeSort fun x y => decide (x ≤ y)).toArray) os
  none_ : ∀ (p : Option Addr) (cap : Nat) (w : World), Calls P f #[.slice p 0 cap] w fun e w' => e = .returned (.tuple #[]) ∧ w' = w
theorem reps_ints {S : Nat → Prop} {H : Heap} : ∀ {xs : List Int} {cs : List Value}, (tInt .i64).reps S H cs xs → cs = xs.map (Value.int .i64) ∧ ∀ x ∈ xs, inK .i64 x
  | [], _, h => by cases h; exact ⟨rfl, fun x hx => by cases hx⟩
  | x :: xs, _, h => by
    obtain ⟨c, r, rfl, ⟨rfl, h1⟩, h2⟩ := h
    obtain ⟨rfl, h3⟩ := reps_ints h2
    refine ⟨rfl, fun y hy => ?_⟩
    rcases List.mem_cons.1 hy with rfl | hy
    · exact h1
    · exact h3 y hy
theorem ints_reps {S : Nat → Prop} {H : Heap} : ∀ {xs : List Int}, (∀ x ∈ xs, inK .i64 x) → (tInt .i64).reps S H (xs.map (Value.int .i64)) xs
  | [], _ => rfl
  | x :: xs, h => ⟨[.int .i64 x], xs.map (Value.int .i64), rfl, ⟨rfl, h x (by simp)⟩, ints_reps fun y hy => h y (by simp [hy])⟩
theorem sortI {P : Program} {f : FuncId} {B : Nat → Prop} {H0 H : Heap} {ps : List Pc} {e : TypeId} {a : Option Addr} {n cap : Nat} {xs : List Int} {K : Value → Heap → Prop} (hf : SortsI P f) (st : StB B H0 H ps) (i : Nat) (hp : ps[i]? = some (pS (tInt .i64) e a n cap xs)) (hlen : xs.length < 4611686018427387904)
    (k : ∀ H', StB B H0 H' (ps.set i (pS (tInt .i64) e a n cap (xs.mergeSort fun x y => decide (x ≤ y)))) → K (.tuple #[]) H') : VCall P f #[.slice a n cap] H K := by
  obtain ⟨hown, -⟩ := st.at_ i hp
  obtain ⟨cs, ⟨hcl, hcase⟩, hreps⟩ := hown
  obtain ⟨rfl, hrng⟩ := reps_ints hreps
  refine ⟨fun w hw => ⟨hf.call _ w, ?_⟩⟩
  subst hw
  rcases hcase with ⟨he, hn0⟩ | ⟨b, c, l, he, -, hb, hnc, hcm, hll, htk⟩
  · injection he with e1 e2 e3
    subst e1; subst e2; subst e3
    obtain rfl := List.eq_nil_of_length_eq_zero hn0
    refine (hf.none_ none 0 w).mono ?_
    rintro _ _ ⟨rfl, rfl⟩
    exact ⟨_, rfl, Env.refl _, k _ (by rw [show ([] : List Int).mergeSort (fun x y => decide (x ≤ y)) = [] by simp]; exact st.say i hp _ (st.at_ i hp) (fun k hk => hk))⟩
  · injection he with e1 e2 e3
    subst e1; subst e2; subst e3
    rw [show xs.length * (tInt .i64).size = xs.length from Nat.mul_one _] at htk
    rw [show cap * (tInt .i64).size = cap from Nat.mul_one _] at hll
    have hbl := (Array.getElem?_eq_some_iff.1 hb).1
    have hsl : (xs.mergeSort fun x y => decide (x ≤ y)).length = xs.length := List.length_mergeSort _
    have hH : Holds (Value.int .i64) w b 0 xs.toArray := holds_of_blockI (e := e) (cur := l.toArray) hb (by simpa using htk)
    refine (hf.some_ b 0 cap xs w hH hbl hlen).mono ?_
    rintro _ w' ⟨rfl, n, os, rfl⟩
    have hbw := heap_sortedI (n := n) (os := os) (xs.mergeSort fun x y => decide (x ≤ y)).toArray hb
    obtain ⟨-, -, -, hsz, hoth⟩ := grownBy_sortedI (w := w) (g := b) (n := n) (os := os) (xs.mergeSort fun x y => decide (x ≤ y)).toArray
    refine ⟨_, rfl, ⟨rfl, rfl, rfl⟩, k _ (st.upd i hp (fun j hj => hoth j hj.1 fun e => ?_) _ ⟨⟨_, ⟨?_, .inr ⟨b, cap, (putCells (Value.int .i64) 0 (xs.mergeSort fun x y => decide (x ≤ y)).toArray l.toArray).toList, ?_, Nat.zero_le _, ?_, by omega, hcm, ?_, ?_⟩⟩, ints_reps fun x hx => hrng x (List.mem_mergeSort.1 hx)⟩, fun k hk => hk.elim⟩ (fun k hk => .inl hk) (fun k hk => ?_) hsz)⟩
    · cases e
      exact hj.2 (.inl ⟨0, _, _, rfl⟩)
    · rw [List.length_map]; exact (Nat.mul_one _).symm
    · rw [hsl]
    · show _ = _
      rw [hbw]
    · rw [Array.length_toList]
      unfold putCells
      rw [Array.size_mapIdx]
      simp only [List.size_toArray, hll]
      exact (Nat.mul_one _).symm
    · rw [show (xs.mergeSort fun x y => decide (x ≤ y)).length * (tInt .i64).size = (xs.mergeSort fun x y => decide (x ≤ y)).length from Nat.mul_one _]
      exact take_putCellsI l.toArray _ (by rw [hsl]; simpa [hll] using hnc)
    · have h1 := (st.in_ i hp hk).2
      exact Nat.lt_of_lt_of_le h1 hsz
end Go.VC
namespace Go.Proofs.YtlnmhfhdjnenoaaGreatDoor
open Go.VC
def sort_ren : Go.Shelf.Ren := ⟨fun | 189 => 89 | 125 => 105 | 257 => 104 | 128 => 121 | 129 => 122 | 294 => 113 | 295 => 114 | 296 => 115 | 297 => 116 | 298 => 117 | 299 => 118 | 216 => 61 | 300 => 119 | 301 => 120 | 328 => 129 | 329 => 130 | 330 => 131 | 331 => 132 | 332 => 133 | 215 => 87 | 343 => 138 | n => n, fun | 28 => 54 | 3 => 3 | 46 => 144 | 0 => 0 | 51 => 202 | 53 => 56 | 4 => 4 | 183 => 196 | 182 => 195 | 131 => 108 | 5 => 5 | 9 => 9 | 218 => 208 | 222 => 212 | 228 => 216 | 229 => 119 | n => n, fun | n => n⟩
theorem lays189 : Go.Proofs.Lays.n189 Tryz.prog sort_ren := {
  mixed := by kernel_rfl
  f125 := Tryz.func105.trans (congrArg some (by kernel_rfl))
  f128 := Tryz.func121.trans (congrArg some (by kernel_rfl))
  f129 := Tryz.func122.trans (congrArg some (by kernel_rfl))
  f189 := Tryz.func89.trans (congrArg some (by kernel_rfl))
  f215 := Tryz.func87.trans (congrArg some (by kernel_rfl))
  f216 := Tryz.func61.trans (congrArg some (by kernel_rfl))
  f257 := Tryz.func104.trans (congrArg some (by kernel_rfl))
  f294 := Tryz.func113.trans (congrArg some (by kernel_rfl))
  f295 := Tryz.func114.trans (congrArg some (by kernel_rfl))
  f296 := Tryz.func115.trans (congrArg some (by kernel_rfl))
  f297 := Tryz.func116.trans (congrArg some (by kernel_rfl))
  f298 := Tryz.func117.trans (congrArg some (by kernel_rfl))
  f299 := Tryz.func118.trans (congrArg some (by kernel_rfl))
  f300 := Tryz.func119.trans (congrArg some (by kernel_rfl))
  f301 := Tryz.func120.trans (congrArg some (by kernel_rfl))
  f328 := Tryz.func129.trans (congrArg some (by kernel_rfl))
  f329 := Tryz.func130.trans (congrArg some (by kernel_rfl))
  f330 := Tryz.func131.trans (congrArg some (by kernel_rfl))
  f331 := Tryz.func132.trans (congrArg some (by kernel_rfl))
  f332 := Tryz.func133.trans (congrArg some (by kernel_rfl))
  f343 := Tryz.func138.trans (congrArg some (by kernel_rfl))
  t0 := Tryz.underlying0
  a0 := Tryz.isAgg0
  z0 := Tryz.sizeOf0
  v0 := Tryz.zeroValue0
  t3 := Tryz.underlying3
  a3 := Tryz.isAgg3
  z3 := Tryz.sizeOf3
  v3 := Tryz.zeroValue3
  t4 := Tryz.underlying4
  a4 := Tryz.isAgg4
  z4 := Tryz.sizeOf4
  v4 := Tryz.zeroValue4
  t5 := Tryz.underlying5
  a5 := Tryz.isAgg5
  z5 := Tryz.sizeOf5
  v5 := Tryz.zeroValue5
  t9 := Tryz.underlying9
  a9 := Tryz.isAgg9
  z9 := Tryz.sizeOf9
  v9 := Tryz.zeroValue9
  t28 := Tryz.underlying54
  a28 := Tryz.isAgg54
  z28 := Tryz.sizeOf54
  v28 := Tryz.zeroValue54
  t46 := Tryz.underlying144
  a46 := Tryz.isAgg144
  z46 := Tryz.sizeOf144
  v46 := Tryz.zeroValue144
  t51 := Tryz.underlying202
  a51 := Tryz.isAgg202
  z51 := Tryz.sizeOf202
  v51 := Tryz.zeroValue202
  t53 := Tryz.underlying56
  a53 := Tryz.isAgg56
  z53 := Tryz.sizeOf56
  v53 := Tryz.zeroValue56
  t131 := Tryz.underlying108
  a131 := Tryz.isAgg108
  z131 := Tryz.sizeOf108
  v131 := Tryz.zeroValue108
  t182 := Tryz.underlying195
  a182 := Tryz.isAgg195
  z182 := Tryz.sizeOf195
  v182 := Tryz.zeroValue195
  t183 := Tryz.underlying196
  a183 := Tryz.isAgg196
  z183 := Tryz.sizeOf196
  v183 := Tryz.zeroValue196
  t218 := Tryz.underlying208
  a218 := Tryz.isAgg208
  z218 := Tryz.sizeOf208
  v218 := Tryz.zeroValue208
  t222 := Tryz.underlying212
  a222 := Tryz.isAgg212
  z222 := Tryz.sizeOf212
  v222 := Tryz.zeroValue212
  t228 := Tryz.underlying216
  a228 := Tryz.isAgg216
  z228 := Tryz.sizeOf216
  v228 := Tryz.zeroValue216
  t229 := Tryz.underlying119
  a229 := Tryz.isAgg119
  z229 := Tryz.sizeOf119
  v229 := Tryz.zeroValue119 }
theorem sorts_ : SortsI Tryz.prog 89 where
  call := Tryz.call89
  some_ := fun blk off cap zs w hH hblk hsz => Any.slices_Sort_int lays189 blk off cap zs w hH hblk hsz
  none_ := fun p cap w => Any.slices_Sort_int_none lays189 p cap w
end Go.Proofs.YtlnmhfhdjnenoaaGreatDoor
/- A range over a function: its rounds, and the code around it (the calculus once more, within a fence that holds everything). -/
set_option linter.unusedVariables false
set_option linter.unusedSimpArgs false
namespace Go.VC
/-- The fence that holds everything; ro: the round that the frame is of. -/
def FW (ro : Option Nat) : Fence := { Fence.wide with round := ro }
theorem roomW (ro : Option Nat) (n : Nat) : (FW ro).room n := fun _ h => by cases h
theorem callsW {ro : Option Nat} {n : Nat} {P : Program} {f : FuncId} {args : Array Value} {w : World} {R : Ending → World → Prop} (h : Calls P f args w R) : CallsIn (FW ro) n P f args w R :=
  ⟨trivial, fun cs _ => (callsIn_wide (n := n).2 h).2 cs (room_wide _)⟩
theorem rowsW {ro : Option Nat} {n : Nat} {P : Program} {row : String} {args : Array Value} {w : World} {R : Value → World → Prop} (h : Rows P row args w R) : RowsIn (FW ro) n P row args w R :=
  fun c cs _ => let ⟨v, w', r, s⟩ := h c cs; ⟨v, w', r, stepsIn_wide.2 s⟩
theorem roundW {ro ro' : Option Nat} {n n' : Nat} {P : Program} {l : Nat} {f : FuncId} {tmps : Array Value} {assign body : Code} {w : World} {R : Ending → World → Prop} (h : RoundIn (FW ro) n P l f tmps assign body w R) : RoundIn (FW ro') n' P l f tmps assign body w R :=
  ⟨trivial, fun c cs _ => h.2 c cs (roomW ro _)⟩
/-- The marks that loops over functions have left. -/
def marks (ds : List Nat) : List Deferred := ds.map fun D => { target := .collected D, args := #[] }
structure AtD (ds : List Nat) (fr : Fr) (a : Act) : Prop where
  tmps : a.tmps.toList = fr
  defers : a.defers = marks ds
theorem AtD.bare {ds : List Nat} {fr : Fr} {a : Act} (h : AtD ds fr a) : At fr { tmps := a.tmps, defers := [] } := ⟨h.tmps, rfl⟩
theorem AtD.evalF {ds : List Nat} {fr : Fr} {a : Act} (h : AtD ds fr a) : a.eval = evF fr := by
  rw [← h.bare.evalF]
  funext x
  cases x <;> rfl
theorem AtD.put {ds : List Nat} {fr : Fr} {a : Act} (h : AtD ds fr a) (dst : Option Tmp) (v : Value) : AtD ds (match dst with | none => fr | some d => fr.set d v) (a.put dst v) := by
  obtain ⟨rfl, h2⟩ := h
  cases dst with
  | none => exact ⟨rfl, h2⟩
  | some d => exact ⟨by simp [Act.put], h2⟩
theorem put_same {a : Act} {dst : Option Tmp} {v v' : Value} (h : ({ tmps := a.tmps, defers := [] } : Act).put dst v = ({ tmps := a.tmps, defers := [] } : Act).put dst v') : a.put dst v = a.put dst v' := by
  cases dst with
  | none => rfl
  | some d =>
    have := congrArg Act.tmps h
    simp only [Act.put] at this ⊢
    rw [this]
theorem op_in {ro : Option Nat} {n : Nat} {P : Program} {o : Oper} {a : Act} {w : World} {K : Value → Heap → Prop} (h : OpOk P o { tmps := a.tmps, defers := [] } w K) (hd : ∀ c, o.op ≠ .defer c) (Q : Exit → Act → World → Prop) :
    o.wpIn (FW ro) n P a w (fun a' w' => ∃ v, a' = a.put o.dst v ∧ Env w w' ∧ K v w'.heap) Q := by
  refine ⟨fun _ _ => trivial, ?_⟩
  rw [Oper.semAt_eq _ _ _ hd]
  have h1 := h (fun e _ w => Q e a w)
  unfold Oper.wp at h1
  have ev : ({ tmps := a.tmps, defers := [] } : Act).eval = a.eval := by funext x; cases x <;> rfl
  rw [ev] at h1
  revert h1
  generalize (execOp a.eval o).run P w = r
  intro h1
  cases r with
  | ok nx w' =>
    cases nx with
    | value v =>
      obtain ⟨v', e, h2, h3⟩ := h1
      exact ⟨v', put_same e, h2, h3⟩
    | skip =>
      obtain ⟨v', e, h2, h3⟩ := h1
      exact ⟨v', put_same e, h2, h3⟩
    | defer d =>
      obtain ⟨v', e, h2, h3⟩ := h1
      have := congrArg Act.defers e
      cases hdst : o.dst <;> rw [hdst] at this <;> simp [Act.put] at this
    | enter f args =>
      refine ⟨(fun h => by cases h), callsW (Calls.mono h1 ?_)⟩
      intro e w'' h2
      cases e with
      | returned v =>
        obtain ⟨v', e, h3, h4⟩ := h2
        exact ⟨v', put_same e, h3, h4⟩
      | panicked c => exact h2
      | outgrown => obtain ⟨_, w, h3⟩ := h2; exact ⟨a, w, h3⟩
    | row row args =>
      refine ⟨(fun h => by cases h), rowsW (Rows.mono h1 ?_)⟩
      intro v w'' h2
      obtain ⟨v', e, h3, h4⟩ := h2
      exact ⟨v', put_same e, h3, h4⟩
    | _ => exact h1.elim
  | halt s w' =>
    cases s <;> first | exact h1 | exact h1.elim
theorem oper_mono {F : Fence} {n : Nat} {P : Program} {o : Oper} {a : Act} {w : World} {N N' : Act → World → Prop} {Q : Exit → Act → World → Prop} (hn : ∀ a w, N a w → N' a w) (h : o.wpIn F n P a w N Q) : o.wpIn F n P a w N' Q := by
  refine ⟨h.1, ?_⟩
  have h1 := h.2
  revert h1
  generalize (o.semAt F.round a.eval).run P w = r
  intro h1
  cases r with
  | ok nx w' =>
    cases nx with
    | value v => exact hn _ _ h1
    | skip => exact hn _ _ h1
    | defer d => exact hn _ _ h1
    | enter f args =>
      refine ⟨h1.1, h1.2.1, fun cs hr => ?_⟩
      obtain ⟨e, w'', fr, h2, h3⟩ := h1.2.2 cs hr
      refine ⟨e, w'', fr, ?_, h3⟩
      cases e with
      | returned v => exact hn _ _ h2
      | panicked c => exact h2
      | outgrown => exact h2
    | row row args => exact ⟨h1.1, h1.2.mono fun v w'' h2 => hn _ _ h2⟩
    | round l f tmps assign body =>
      refine ⟨h1.1, h1.2.mono fun e w'' h2 => ?_⟩
      cases e with
      | returned v => exact hn _ _ h2
      | panicked c => exact h2
      | outgrown => exact h2
    | _ => exact h1.elim
  | halt s w' =>
    cases s <;> first | exact h1 | exact h1.elim
/-! ### yield -/
/-- A call of yield. -/
structure VRound (P : Program) (l : Nat) (args : Array Value) (H : Heap) (K : Value → Heap → Prop) : Prop where
  in_ ::
  out_ : ∀ w : World, w.heap = H → ∃ f tmps assign body, (Instr.yield l args).run P w = .ok (.round l f tmps assign body) w ∧ RoundIn (FW none) 0 P l f tmps assign body w fun e w' => ∃ v, e = .returned v ∧ Env w w' ∧ K v w'.heap
/-- One operation; a call of yield is taken in, a deferred call is not. -/
def yK (P : Program) (o : Oper) (fr : Fr) (H : Heap) (K : Value → Heap → Prop) : Prop :=
  match o.op with
  | .call { callee := .value f, args, .. } => evK fr f fun g => match g with
    | .func (.yield l) first cap => evsK fr args.toList fun vs => VRound P l (first.toList ++ vs).toArray H K
    | _ => opK P false (fun _ => True) o fr H K
  | .defer _ => False
  | _ => opK P false (fun _ => True) o fr H K
theorem VRound.out {P : Program} {l : Nat} {args : Array Value} {H : Heap} {K : Value → Heap → Prop} (h : VRound P l args H K) :
    ∀ w : World, w.heap = H → ∃ f tmps assign body, (Instr.yield l args).run P w = .ok (.round l f tmps assign body) w ∧ RoundIn (FW none) 0 P l f tmps assign body w fun e w' => ∃ v, e = .returned v ∧ Env w w' ∧ K v w'.heap := by exact h.out_
theorem yK_sound {ro : Option Nat} {n : Nat} {P : Program} {o : Oper} {ds : List Nat} {fr : Fr} {a : Act} {w : World} {K : Value → Heap → Prop} (hat : AtD ds fr a) (h : yK P o fr w.heap K) (Q : Exit → Act → World → Prop) :
    o.wpIn (FW ro) n P a w (fun a' w' => ∃ v, a' = a.put o.dst v ∧ Env w w' ∧ K v w'.heap) Q := by
  unfold yK at h
  split at h
  · rename_i f args argTypes ho
    rw [evK_eq] at h
    split at h
    · rename_i l first cap hg
      rw [evsK_eq, ← Array.toList_map] at h
      refine ⟨fun _ _ => trivial, ?_⟩
      rw [Oper.semAt_eq _ _ _ (fun c e => by rw [ho] at e; cases e)]
      obtain ⟨fn, tmps, assign, body, hy, hrnd⟩ := h.out w rfl
      have e : (first.toList ++ (Array.map (evF fr) args).toList).toArray = first ++ Array.map (evF fr) args := Array.ext' (by simp)
      have h3 : (execOp a.eval o).run P w = .ok (.round l fn tmps assign body) w := by
        rw [hat.evalF, ← hy, e]
        simp only [execOp, ho, resolve, hg, Deferred.ofValue]
        simp [invoke, callFunc]
      rw [h3]
      refine ⟨(fun h => by cases h), (roundW hrnd).mono ?_⟩
      rintro e w' ⟨v, rfl, henv, hk⟩
      exact ⟨v, rfl, henv, hk⟩
    · exact op_in (opK_sound hat.bare h) (fun c e => by rw [ho] at e; cases e) Q
  · exact h.elim
  · rename_i h1 h2
    exact op_in (opK_sound hat.bare h) (fun c e => h2 c e) Q
/-- An operation under a condition. -/
def guardYK (P : Program) (o : Oper) (want : Bool) (t : Nat) (fr : Fr) (H : Heap) (K : Fr → Heap → Prop) : Prop :=
  rdK fr t fun v => match v with
    | .bool b => VIte b
      (wrK fr t (.bool true) fun fr1 => match want with
        | true => yK P o fr1 H fun v H' => putK o.dst fr1 v fun fr' => apK K fr' H'
        | false => putK o.dst fr1 undef fun fr' => apK K fr' H)
      (wrK fr t (.bool false) fun fr1 => match want with
        | false => yK P o fr1 H fun v H' => putK o.dst fr1 v fun fr' => apK K fr' H'
        | true => putK o.dst fr1 undef fun fr' => apK K fr' H)
    | .tuple _ => putK o.dst fr undef fun fr' => apK K fr' H
    | _ => False
/-- Operations in the text's order. -/
def opsYK (P : Program) (all : List Oper) (l : List Oper) : Fr → Heap → (Fr → Heap → Prop) → Prop :=
  List.rec (motive := fun _ => Fr → Heap → (Fr → Heap → Prop) → Prop) (fun fr H K => K fr H) (fun o _ ih fr H K =>
    match o.guard with
    | none => yK P o fr H fun v H' => putK o.dst fr v fun fr' => ih fr' H' K
    | some (j, want) => match (all[j]?).bind (·.dst) with
      | none => False
      | some t => guardYK P o want t fr H fun fr' H' => ih fr' H' K) l
theorem opsYK_cons (P : Program) (all rest : List Oper) (o : Oper) (fr : Fr) (H : Heap) (K : Fr → Heap → Prop) : opsYK P all (o :: rest) fr H K =
    (match o.guard with
    | none => yK P o fr H fun v H' => putK o.dst fr v fun fr' => opsYK P all rest fr' H' K
    | some (j, want) => match (all[j]?).bind (·.dst) with
      | none => False
      | some t => guardYK P o want t fr H fun fr' H' => opsYK P all rest fr' H' K) := rfl
theorem opsYK_sound {ro : Option Nat} {n : Nat} {P : Program} {ds : List Nat} {all : List Oper} {Q : Exit → Act → World → Prop} : ∀ (l : List Oper) (fr : Fr) (a : Act) (w : World) (K : Fr → Heap → Prop), AtD ds fr a →
    (∀ fr' a' w', AtD ds fr' a' → Env w w' → K fr' w'.heap → Q .normal a' w') → opsYK P all l fr w.heap K → wpListIn (FW ro) n P all.toArray Q l a w
  | [], fr, a, w, K, hat, hq, h => hq fr a w hat (Env.refl w) h
  | o :: l, fr, a, w, K, hat, hq, h => by
    have go : ∀ (want : Bool), (want = true → yK P o fr w.heap fun v H' => putK o.dst fr v fun fr' => opsYK P all l fr' H' K) →
        (want = false → putK o.dst fr undef fun fr' => opsYK P all l fr' w.heap K) →
        Region.wanted o (yielded all.toArray a.tmps) = want → wpListIn (FW ro) n P all.toArray Q (o :: l) a w := by
      intro want h1 h2 hw
      unfold wpListIn
      rw [hw]
      cases want with
      | true =>
        rw [if_pos rfl]
        refine oper_mono ?_ (yK_sound hat (h1 rfl) Q)
        rintro a' w' ⟨v, rfl, henv, hk⟩
        rw [putK_eq] at hk
        exact opsYK_sound l _ _ _ K (hat.put o.dst v) (fun fr' a' w'' h1 h2 h3 => hq fr' a' w'' h1 (henv.trans h2) h3) hk
      | false =>
        rw [if_neg Bool.false_ne_true]
        have h3 := h2 rfl
        rw [putK_eq] at h3
        exact ⟨fun _ _ => trivial, opsYK_sound l _ _ _ K (hat.put o.dst undef) hq h3⟩
    rw [opsYK_cons] at h
    split at h
    · rename_i hg
      exact go true (fun _ => h) (fun h => by cases h) (by simp [Region.wanted, hg])
    · rename_i j want hg
      split at h
      · exact h.elim
      · rename_i t ht
        unfold guardYK at h
        simp only [apK] at h
        rw [rdK_eq] at h
        split at h
        · rename_i b hb
          have hy := yielded_at hat.bare ht hb
          have hs : fr.set t (.bool b) = fr := rd_set_self hb (by simp [undef])
          cases b <;> cases want <;> simp only [VIte, wrK_eq, hs] at h
          · exact go true (fun _ => h) (fun h => by cases h) (by simp [Region.wanted, hg, hy])
          · exact go false (fun h => by cases h) (fun _ => h) (by simp [Region.wanted, hg, hy])
          · exact go false (fun h => by cases h) (fun _ => h) (by simp [Region.wanted, hg, hy])
          · exact go true (fun _ => h) (fun h => by cases h) (by simp [Region.wanted, hg, hy])
        · rename_i vs hb
          exact go false (fun h => by cases h) (fun _ => h) (by simp [Region.wanted, hg, yielded_no hat.bare ht hb])
        · exact h.elim

/-! ### code -/
abbrev KD := Fr → List Nat → Heap → Prop
def LiftD (w0 : World) (Q : Exit → Fr → List Nat → Heap → Prop) : Exit → Act → World → Prop
  | .panic _, _, _ => False
  | .outgrown, _, _ => False
  | e, a, w => ∃ fr ds, AtD ds fr a ∧ Env w0 w ∧ Q e fr ds w.heap
def exitKD (X : List (Nat × KD)) (id : Nat) (fr : Fr) (ds : List Nat) (H : Heap) : Prop :=
  match X with
  | [] => False
  | (j, k) :: X => match Nat.beq j id with
    | true => k fr ds H
    | false => exitKD X id fr ds H
def QxD (kn : KD) (X : List (Nat × KD)) (kr : KD) (e : Exit) (fr : Fr) (ds : List Nat) (H : Heap) : Prop :=
  match e with
  | .normal => kn fr ds H
  | .exit id => exitKD X id fr ds H
  | .ret => kr fr ds H
  | _ => False
structure VLoopD (P : Program) (ro : Option Nat) (c : Code) (fr : Fr) (ds : List Nat) (H : Heap) (X : List (Nat × KD)) (kr : KD) : Prop where
  in_ ::
  out_ : ∀ (n : Nat) (a : Act) (w : World), AtD ds fr a → w.heap = H → (Code.loop c).wpIn (FW ro) n P (LiftD w (QxD (fun _ _ _ => False) X kr)) a w
/-- A range over a function. -/
structure VRF (P : Program) (g : Operand) (ps : Array Tmp) (assign body : Code) (fr : Fr) (ds : List Nat) (H : Heap) (kn : KD) (X : List (Nat × KD)) (kr : KD) : Prop where
  in_ ::
  out_ : ∀ (n : Nat) (a : Act) (w : World), AtD ds fr a → w.heap = H → (Code.rangeFunc g ps assign body).wpIn (FW none) n P (LiftD w (QxD kn X kr)) a w
def vcI (P : Program) (ro : Option Nat) (c : Code) : Fr → List Nat → Heap → KD → List (Nat × KD) → KD → Prop :=
  Code.rec (motive := fun _ => Fr → List Nat → Heap → KD → List (Nat × KD) → KD → Prop)
    (fun fr ds H kn _ _ => kn fr ds H)
    (fun _ ops draw fr ds H kn _ _ => match draw with
      | false => opsYK P ops.toList ops.toList fr H fun fr' H' => kn fr' ds H'
      | true => False)
    (fun _ _ iha ihb fr ds H kn X kr => iha fr ds H (fun fr' ds' H' => ihb fr' ds' H' kn X kr) X kr)
    (fun c _ _ ihx ihy fr ds H kn X kr => match c with
      | .tmp t => rdK fr t fun v => match v with
        | .bool b => VIte b (wrK fr t (.bool true) fun fr1 => ihx fr1 ds H kn X kr) (wrK fr t (.bool false) fun fr1 => ihy fr1 ds H kn X kr)
        | _ => False
      | _ => False)
    (fun id _ ih fr ds H kn X kr => ih fr ds H kn ((id, kn) :: X) kr)
    (fun c _ fr ds H _ X kr => VLoopD P ro c fr ds H X kr)
    (fun g ps a b _ _ fr ds H kn X kr => match ro with
      | none => VRF P g ps a b fr ds H kn X kr
      | some _ => False)
    (fun id fr ds H _ X _ => exitKD X id fr ds H)
    (fun _ _ _ _ _ _ _ _ => False)
    (fun _ _ _ _ _ _ _ => False)
    (fun _ _ _ _ _ _ _ => False)
    (fun fr ds H _ _ kr => kr fr ds H)
    (fun _ _ _ _ _ _ _ => False) c
section
variable (P : Program) (ro : Option Nat) (a b : Code) (fr : Fr) (ds : List Nat) (H : Heap) (kn : KD) (X : List (Nat × KD)) (kr : KD)
theorem vcI_region (id : Nat) (ops : Array Oper) (draw : Bool) : vcI P ro (.region id ops draw) fr ds H kn X kr = (match draw with
      | false => opsYK P ops.toList ops.toList fr H fun fr' H' => kn fr' ds H'
      | true => False) := rfl
theorem vcI_seq : vcI P ro (.seq a b) fr ds H kn X kr = vcI P ro a fr ds H (fun fr' ds' H' => vcI P ro b fr' ds' H' kn X kr) X kr := rfl
theorem vcI_cond (c : Operand) : vcI P ro (.cond c a b) fr ds H kn X kr = (match c with
      | .tmp t => rdK fr t fun v => match v with
        | .bool x => VIte x (wrK fr t (.bool true) fun fr1 => vcI P ro a fr1 ds H kn X kr) (wrK fr t (.bool false) fun fr1 => vcI P ro b fr1 ds H kn X kr)
        | _ => False
      | _ => False) := rfl
theorem vcI_block (id : Nat) : vcI P ro (.block id a) fr ds H kn X kr = vcI P ro a fr ds H kn ((id, kn) :: X) kr := rfl
theorem vcI_range (g : Operand) (ps : Array Tmp) : vcI P ro (.rangeFunc g ps a b) fr ds H kn X kr = (match ro with
      | none => VRF P g ps a b fr ds H kn X kr
      | some _ => False) := rfl
end
theorem VLoopD.out {P : Program} {ro : Option Nat} {c : Code} {fr : Fr} {ds : List Nat} {H : Heap} {X : List (Nat × KD)} {kr : KD} (h : VLoopD P ro c fr ds H X kr) :
    ∀ (n : Nat) (a : Act) (w : World), AtD ds fr a → w.heap = H → (Code.loop c).wpIn (FW ro) n P (LiftD w (QxD (fun _ _ _ => False) X kr)) a w := by exact h.out_
theorem VRF.out {P : Program} {g : Operand} {ps : Array Tmp} {assign body : Code} {fr : Fr} {ds : List Nat} {H : Heap} {kn : KD} {X : List (Nat × KD)} {kr : KD} (h : VRF P g ps assign body fr ds H kn X kr) :
    ∀ (n : Nat) (a : Act) (w : World), AtD ds fr a → w.heap = H → (Code.rangeFunc g ps assign body).wpIn (FW none) n P (LiftD w (QxD kn X kr)) a w := by exact h.out_
theorem LiftD.env {w0 w1 : World} {Q : Exit → Fr → List Nat → Heap → Prop} (henv : Env w0 w1) : ∀ {e : Exit} {a : Act} {w : World}, LiftD w1 Q e a w → LiftD w0 Q e a w
  | .normal, _, _, ⟨fr, ds, h1, h2, h3⟩ | .exit _, _, _, ⟨fr, ds, h1, h2, h3⟩ | .goto _, _, _, ⟨fr, ds, h1, h2, h3⟩ | .ret, _, _, ⟨fr, ds, h1, h2, h3⟩ => ⟨fr, ds, h1, henv.trans h2, h3⟩
theorem LiftD.mono {w0 : World} {Q Q' : Exit → Fr → List Nat → Heap → Prop} (hq : ∀ e fr ds H, Q e fr ds H → Q' e fr ds H) : ∀ {e : Exit} {a : Act} {w : World}, LiftD w0 Q e a w → LiftD w0 Q' e a w
  | .normal, _, _, ⟨fr, ds, h1, h2, h3⟩ | .exit _, _, _, ⟨fr, ds, h1, h2, h3⟩ | .goto _, _, _, ⟨fr, ds, h1, h2, h3⟩ | .ret, _, _, ⟨fr, ds, h1, h2, h3⟩ => ⟨fr, ds, h1, h2, hq _ _ _ _ h3⟩
theorem seq_liftD {P : Program} {ro : Option Nat} {n : Nat} {x y : Code} {kn k1 : KD} {X : List (Nat × KD)} {kr : KD} {a : Act} {w : World}
    (hx : x.wpIn (FW ro) n P (LiftD w (QxD k1 X kr)) a w)
    (hy : ∀ fr ds a' w', AtD ds fr a' → Env w w' → k1 fr ds w'.heap → y.wpIn (FW ro) n P (LiftD w' (QxD kn X kr)) a' w') : (Code.seq x y).wpIn (FW ro) n P (LiftD w (QxD kn X kr)) a w := by
  refine wpIn_seq (Code.wpIn_mono ?_ hx)
  intro e a' w' h
  cases e with
  | normal =>
    obtain ⟨fr, ds, h1, h2, h3⟩ := h
    exact Code.wpIn_mono (fun e a w h => LiftD.env h2 h) (hy fr ds a' w' h1 h2 h3)
  | exit id => exact h
  | goto l => exact h
  | ret => exact h
  | panic c => exact h
  | outgrown => exact h
theorem vcI_sound {P : Program} {ro : Option Nat} {n : Nat} : ∀ (c : Code) (fr : Fr) (ds : List Nat) (kn : KD) (X : List (Nat × KD)) (kr : KD) (a : Act) (w : World), AtD ds fr a →
    vcI P ro c fr ds w.heap kn X kr → c.wpIn (FW ro) n P (LiftD w (QxD kn X kr)) a w
  | .skip, fr, ds, kn, X, kr, a, w, hat, h => wpIn_skip ⟨fr, ds, hat, Env.refl w, h⟩
  | .region id ops draw, fr, ds, kn, X, kr, a, w, hat, h => by
    rw [vcI_region] at h
    cases draw with
    | false =>
      have := wpIn_region_lit (id := id) (opsYK_sound (ro := ro) (n := n) (all := ops.toList) (Q := LiftD w (QxD kn X kr)) ops.toList fr a w _ hat (fun fr' a' w' h1 h2 h3 => ⟨fr', ds, h1, h2, h3⟩) h)
      simpa using this
    | true => exact h.elim
  | .seq x y, fr, ds, kn, X, kr, a, w, hat, h => by
    rw [vcI_seq] at h
    exact seq_liftD (vcI_sound x fr ds _ X kr a w hat h) fun fr' ds' a' w' h1 _ h3 => vcI_sound y fr' ds' kn X kr a' w' h1 h3
  | .cond c x y, fr, ds, kn, X, kr, a, w, hat, h => by
    rw [vcI_cond] at h
    split at h
    · rename_i t
      rw [rdK_eq] at h
      split at h
      · rename_i b hb
        have hs : fr.set t (.bool b) = fr := rd_set_self hb (by simp [undef])
        have he : a.eval (.tmp t) = .bool b := by rw [hat.evalF]; exact hb
        cases b <;> simp only [VIte, wrK_eq, hs] at h
        · exact wpIn_cond_false he (vcI_sound y fr ds kn X kr a w hat h)
        · exact wpIn_cond_true he (vcI_sound x fr ds kn X kr a w hat h)
      · exact h.elim
    · exact h.elim
  | .block id c, fr, ds, kn, X, kr, a, w, hat, h => by
    rw [vcI_block] at h
    refine wpIn_block (Code.wpIn_mono ?_ (vcI_sound c fr ds kn _ kr a w hat h))
    intro e a' w' h
    cases e with
    | exit id' =>
      obtain ⟨fr', ds', h1, h2, h3⟩ := h
      simp only [QxD, exitKD] at h3
      simp only [Exit.inBlock]
      split at h3
      · rename_i hid
        have := Nat.eq_of_beq_eq_true hid
        rw [if_pos this.symm]
        exact ⟨fr', ds', h1, h2, h3⟩
      · rename_i hid
        have : id ≠ id' := Nat.ne_of_beq_eq_false hid
        rw [if_neg (Ne.symm this)]
        exact ⟨fr', ds', h1, h2, h3⟩
    | normal => exact h
    | goto l => exact h
    | ret => exact h
    | panic c => exact h
    | outgrown => exact h
  | .loop c, fr, ds, kn, X, kr, a, w, hat, h => Code.wpIn_mono (fun e a w => LiftD.mono fun e fr ds H hq => by
      cases e <;> first | exact hq | exact hq.elim) (h.out n a w hat rfl)
  | .exit id, fr, ds, kn, X, kr, a, w, hat, h => wpIn_exit ⟨fr, ds, hat, Env.refl w, h⟩
  | .ret, fr, ds, kn, X, kr, a, w, hat, h => wpIn_ret ⟨fr, ds, hat, Env.refl w, h⟩
  | .rangeFunc g ps x y, fr, ds, kn, X, kr, a, w, hat, h => by
    rw [vcI_range] at h
    cases ro with
    | none => exact h.out n a w hat rfl
    | some l => exact h.elim
  | .scope _, _, _, _, _, _, _, _, _, h => h.elim
  | .label _, _, _, _, _, _, _, _, _, h => h.elim
  | .goto _, _, _, _, _, _, _, _, _, h => h.elim
  | .refuse _, _, _, _, _, _, _, _, _, h => h.elim
/-! ### loops -/
theorem wpIn_loop_rel {P : Program} {ro : Option Nat} {n : Nat} {c : Code} {Q : Exit → Act → World → Prop} (J : Nat → Act → World → Prop)
    (round : ∀ m a w, J m a w → c.wpIn (FW ro) n P (Exit.then (fun a' w' => ∃ m', m' < m ∧ J m' a' w') Q) a w) : ∀ m a w, J m a w → (Code.loop c).wpIn (FW ro) n P Q a w := by
  intro m0 a0 w0 h0 b k cs hro hb hr
  have key : ∀ m a w, J m a w → ∃ e a' w', Q e a' w' ∧ ArrivesIn (Machine.fenced P (FW ro)) P (lone (b.atR a (.code c :: .inLoop c :: k)) cs w) b k cs e a' w' := by
    intro m
    induction m using Nat.strongRecOn with
    | _ m ih =>
      intro a w hI
      obtain ⟨e, a₁, w₁, hq, harr⟩ := round m a w hI b (.inLoop c :: k) cs hro hb hr
      cases e with
      | normal =>
        obtain ⟨m', hlt, hI₁⟩ := hq
        obtain ⟨e₂, a₂, w₂, hq₂, harr₂⟩ := ih m' hlt a₁ w₁ hI₁
        exact ⟨e₂, a₂, w₂, hq₂, .of_steps (StepsIn.trans harr (.one (fenced_calm hb hr rfl) stepR_inLoop)) harr₂⟩
      | exit id => exact ⟨_, a₁, w₁, hq, .pass (x := .inLoop c) rfl (fun _ _ => .inl (by simp)) harr⟩
      | goto l => exact ⟨_, a₁, w₁, hq, .pass (x := .inLoop c) rfl (fun _ _ => .inl (by simp)) harr⟩
      | ret => exact ⟨_, a₁, w₁, hq, .pass (x := .inLoop c) rfl (fun _ _ => .inl (by simp)) harr⟩
      | panic ch => exact ⟨_, a₁, w₁, hq, .pass (x := .inLoop c) rfl (fun _ _ => .inl (by simp)) harr⟩
      | outgrown => exact ⟨_, a₁, w₁, hq, .pass (x := .inLoop c) rfl (fun _ _ => .inl (by simp)) harr⟩
  obtain ⟨e, a', w', hq, harr⟩ := key m0 a0 w0 h0
  exact ⟨e, a', w', hq, .of_steps (.one (fenced_calm hb hr rfl) stepR_loop) harr⟩
theorem VLoopD.mk {P : Program} {ro : Option Nat} {c : Code} {fr : Fr} {ds : List Nat} {H : Heap} {X : List (Nat × KD)} {kr : KD} {α : Type} (ts : List Nat) (enc : α → List Value) (I : α → List Nat → Heap → Prop) (m : α → Heap → Nat)
    (h0 : rdsK fr ts fun vs => ∃ x, vs = enc x ∧ I x ds H)
    (hr : ∀ (x : α) (ds1 : List Nat) (H1 : Heap) (junk : Nat → Value), I x ds1 H1 → havocK junk fr (wset c []) fun fr0 => wrsK fr0 ts (enc x) fun fr1 =>
      vcI P ro c fr1 ds1 H1 (fun fr' ds' H' => keptK (wset c []) fr fr' (rdsK fr' ts fun vs => ∃ y, vs = enc y ∧ I y ds' H' ∧ m y H' < m x H1)) X kr) : VLoopD P ro c fr ds H X kr := by
  generalize wset c [] = ws at hr
  refine ⟨?_⟩
  intro n a w hat hw
  subst hw
  have h0' := h0
  rw [rdsK_eq] at h0'
  obtain ⟨x0, hx0, hi0⟩ := h0'
  let J (k : Nat) (a' : Act) (w' : World) : Prop := ∃ fr' ds' x, AtD ds' fr' a' ∧ Env w w' ∧ havoc (fun _ => undef) fr' ws = havoc (fun _ => undef) fr ws ∧ ts.map (rd fr') = enc x ∧ I x ds' w'.heap ∧ m x w'.heap = k
  refine wpIn_loop_rel J ?_ _ a w ⟨fr, ds, x0, hat, Env.refl w, rfl, hx0, hi0, rfl⟩
  rintro k a1 w1 ⟨fr1, ds1, x1, hat1, henv1, hk1, hx1, hi1, rfl⟩
  have h := hr x1 ds1 w1.heap (rd fr1) hi1
  rw [havocK_eq, wrsK_eq, havoc_of_blank hk1, ← hx1, wrs_self ts fr1] at h
  refine Code.wpIn_mono ?_ (vcI_sound c fr1 ds1 _ X kr a1 w1 hat1 h)
  intro e a2 w2 h2
  cases e with
  | normal =>
    obtain ⟨fr2, ds2, hat2, henv2, h2⟩ := h2
    simp only [QxD, keptK, havocK_eq, rdsK_eq] at h2
    obtain ⟨hk2, y, hy, hiy, hm⟩ := h2
    exact ⟨m y w2.heap, hm, fr2, ds2, y, hat2, henv1.trans henv2, hk2, hy, hiy, rfl⟩
  | exit id => exact LiftD.env henv1 h2
  | goto l => exact LiftD.env henv1 h2
  | ret => exact LiftD.env henv1 h2
  | panic c => exact h2
  | outgrown => exact h2
/-! ### functions -/
/-- A function's end: the marks are taken, then the results are read. -/
structure VRet (P : Program) (rs : List ResultVar) (R : Value → Heap → Prop) (fr : Fr) (ds : List Nat) (H : Heap) : Prop where
  in_ ::
  nd : ds.Nodup
  open_ : ∀ D ∈ ds, H[D]? = some (.deferred (some []))
  res : ∀ H', Agr (fun k => k ∉ ds) H H' → H'.size = H.size → resK P rs fr H' R
theorem VRet.nil {P : Program} {rs : List ResultVar} {R : Value → Heap → Prop} {fr : Fr} {H : Heap} (h : resK P rs fr H R) : VRet P rs R fr [] H :=
  ⟨List.Pairwise.nil, (fun _ h => by cases h), fun H' ha _ => by rw [agr_all (ha.mono fun k _ => by simp)]; exact h⟩
theorem envPut (w : World) (r : Nat) (o : Obj) : Env w (w.putObj r o) := ⟨rfl, rfl, rfl⟩
theorem hwide : FW none = Fence.wide := rfl
theorem leaves_marks {P : Program} {fn : Func} {tmps : Array Value} {R : Ending → World → Prop} : ∀ (ds : List Nat) (w : World), ds.Nodup → (∀ D ∈ ds, w.heap[D]? = some (.deferred (some []))) →
    (∀ w', Env w w' → Agr (fun k => k ∉ ds) w.heap w'.heap → w'.heap.size = w.heap.size → ∃ v, (results fn tmps).run P w' = .ok v w' ∧ R (.returned v) w') → LeavesInM (FW none) 0 P fn tmps R (marks ds) .returning w
  | [], w, _, _, h => by
    obtain ⟨v, h1, h2⟩ := h w (Env.refl w) (Agr.refl _ _) rfl
    exact ⟨v, h1, h2⟩
  | D :: ds, w, hn, ho, h => by
    obtain ⟨hn1, hn2⟩ := List.nodup_cons.1 hn
    have hD := ho D (by simp)
    have hlt := (Array.getElem?_eq_some_iff.1 hD).1
    have ha : Agr (fun k => k ≠ D) w.heap (w.putObj D (.deferred none)).heap := fun k hk => World.putObj_heap_other hk
    refine ⟨by simp, .inl ⟨D, w.putObj D (.deferred none), rfl, run_takeDeferred hD, leaves_marks ds _ hn2 (fun E hE => ?_) fun w' h1 h2 h3 => ?_⟩⟩
    · rw [World.putObj_heap_other (by rintro rfl; exact hn1 hE)]; exact ho E (by simp [hE])
    · refine h w' ((envPut w D _).trans h1) ((ha.mono fun k hk => ?_).trans (h2.mono fun k hk => ?_)) (by rw [h3]; simp)
      · intro e; exact hk (by simp [e])
      · intro e; exact hk (by simp [e])
theorem FnOk.of_vcI {P : Program} {f : FuncId} {fn : Func} {c : Code} {args : Array Value} {H : Heap} {R : Value → Heap → Prop} (hf : P.funcs[f]? = some fn) (hb : fn.body = some c)
    (hcall : ∀ w : World, (callFunc f args).run P w = .ok (.enter f args) w)
    (h : normK (args.toList ++ List.replicate (fn.ntmps - args.size) undef) fun fr => vcI P none c fr [] H (VRet P fn.results.toList R) [] (VRet P fn.results.toList R)) :
    FnOk P f args H R := by
  intro w hw
  subst hw
  refine ⟨hcall w, ?_⟩
  refine (callsIn_wide (n := 0)).1 ?_
  rw [← hwide]
  refine callsIn_of_wp_marks (F := FW none) (n := 0) hf hb trivial ?_
  rw [normK_eq] at h
  have hat : AtD [] (args.toList ++ List.replicate (fn.ntmps - args.size) undef) { tmps := args ++ Array.replicate (fn.ntmps - args.size) undef, defers := [] } := ⟨by simp, rfl⟩
  refine Code.wpIn_mono ?_ (vcI_sound c _ _ _ _ _ _ w hat h)
  intro e a' w' h2
  have fin : ∀ fr ds, AtD ds fr a' → Env w w' → VRet P fn.results.toList R fr ds w'.heap → LeavesInM (FW none) 0 P fn a'.tmps (fun e w'' => ∃ v, e = .returned v ∧ Env w w'' ∧ R v w''.heap) a'.defers .returning w' := by
    intro fr ds h1 h2 h3
    rw [h1.defers]
    refine leaves_marks ds w' h3.nd h3.open_ fun w'' h4 h5 h6 => ?_
    obtain ⟨v, hv, hR⟩ := resK_sound h1.bare (h3.res w''.heap h5 h6)
    exact ⟨v, hv, v, rfl, h2.trans h4, hR⟩
  cases e with
  | normal => obtain ⟨fr, ds, h1, h2, h3⟩ := h2; exact fin fr ds h1 h2 h3
  | ret => obtain ⟨fr, ds, h1, h2, h3⟩ := h2; exact fin fr ds h1 h2 h3
  | exit id => obtain ⟨fr, ds, h1, h2, h3⟩ := h2; exact h3.elim
  | goto l => obtain ⟨fr, ds, h1, h2, h3⟩ := h2; exact h3.elim
  | panic c => exact h2.elim
  | outgrown => exact h2.elim
/-! ### the statement, and its rounds -/
theorem VRF.mk {P : Program} {g : Operand} {ps : Array Tmp} {assign body : Code} {fr : Fr} {ds : List Nat} {H : Heap} {kn : KD} {X : List (Nat × KD)} {kr : KD} (gf : Nat) (lb : Array Value) (hg : evF fr g = .func (.func gf) #[] lb)
    (h : ∀ (rec : LoopState → Option Code → Loop), (∃ fn, rec = fun st pe => { state := st, pending := pe, fn := fn, tmps := fr.toArray, params := ps, assign := assign, body := body, defers := H.size }) →
      FnOk P gf (#[.func (.yield (H.size + 1)) #[] #[]] ++ lb) ((H.push (.deferred (some []))).push (.loop (rec .ready none))) fun _ H2 => ∃ st pe, st ≠ .busy ∧ H2[H.size + 1]? = some (.loop (rec st pe)) ∧
        ((pe = none ∧ kn fr (H.size :: ds) (H2.setIfInBounds (H.size + 1) (.loop (rec .exhausted pe)))) ∨
          (pe = some .ret ∧ kr fr (H.size :: ds) (H2.setIfInBounds (H.size + 1) (.loop (rec .exhausted pe)))))) : VRF P g ps assign body fr ds H kn X kr := by
  refine ⟨?_⟩
  intro n a w hat hw
  subst hw
  refine wpIn_rangeFunc ?_
  intro fn _
  obtain ⟨rec, hrec⟩ : ∃ rec : LoopState → Option Code → Loop, rec = fun st pe => { state := st, pending := pe, fn, tmps := fr.toArray, params := ps, assign, body, defers := w.heap.size } := ⟨_, rfl⟩
  have hk := h rec ⟨fn, hrec⟩
  have hta : a.tmps = fr.toArray := by rw [← hat.tmps]
  obtain ⟨W1, hW1⟩ : ∃ W1, (w.alloc (.deferred (some []))).alloc (.loop (rec .ready none)) = W1 := ⟨_, rfl⟩
  have hW1h : W1.heap = (w.heap.push (.deferred (some []))).push (.loop (rec .ready none)) := by rw [← hW1]; rfl
  have hW1e : Env w W1 := by rw [← hW1]; exact ⟨rfl, rfl, rfl⟩
  obtain ⟨hc1, hc2⟩ := hk W1 hW1h
  refine ⟨w.heap.size + 1, [{ target := .collected w.heap.size, args := #[] }], W1, { target := .fn (.func gf) lb, args := #[.func (.yield (w.heap.size + 1)) #[] #[]] }, W1, gf,
    #[.func (.yield (w.heap.size + 1)) #[] #[]] ++ lb, W1, ?_, ?_, ?_, ?_, ?_, ?_⟩
  · rw [← hW1, hrec, hta]; exact run_enterLoop_outer _ _ _ _ _
  · have hga : a.eval g = .func (.func gf) #[] lb := by rw [hat.evalF]; exact hg
    simp only [resolve, hga]
    simp [go_sem]
  · exact fun _ _ => trivial
  · have e1 : (invoke (.fn (.func gf) lb) #[.func (.yield (w.heap.size + 1)) #[] #[]]).run P W1 = (callFunc gf (#[.func (.yield (w.heap.size + 1)) #[] #[]] ++ lb)).run P W1 := by simp [invoke]
    exact e1.trans hc1
  · intro h; cases h
  · refine callsW (Calls.mono hc2 ?_)
    rintro e W2 ⟨v, rfl, henv2, st, pe, hst, hl, hpe⟩
    refine ⟨pe, W2.putObj (w.heap.size + 1) (.loop { rec st pe with state := .exhausted }), ?_, ?_⟩
    · have := run_endLoop (P := P) hl (by rw [hrec]; exact hst)
      rw [hrec] at this ⊢
      exact this
    · have hat2 : AtD (w.heap.size :: ds) fr { a with defers := [{ target := .collected w.heap.size, args := #[] }] ++ a.defers } := ⟨hat.tmps, by rw [hat.defers]; rfl⟩
      have he2 : Env w (W2.putObj (w.heap.size + 1) (.loop { rec st pe with state := .exhausted })) := (hW1e.trans henv2).trans (envPut W2 _ _)
      have hrx : ({ rec st pe with state := .exhausted } : Loop) = rec .exhausted pe := by rw [hrec]
      have hhp : (W2.putObj (w.heap.size + 1) (.loop { rec st pe with state := .exhausted })).heap = W2.heap.setIfInBounds (w.heap.size + 1) (.loop (rec .exhausted pe)) := by rw [hrx]; rfl
      rcases hpe with ⟨rfl, hpe⟩ | ⟨rfl, hpe⟩
      · exact ⟨fr, _, hat2, he2, by rw [hhp]; exact hpe⟩
      · exact wpIn_ret ⟨fr, _, hat2, he2, by rw [hhp]; exact hpe⟩
theorem fold_wrs : ∀ (l : List (Tmp × Value)) (t : Array Value), ((l.foldl (fun t (x : Tmp × Value) => t.setIfInBounds x.1 x.2) t)).toList = wrs t.toList (l.map (·.1)) (l.map (·.2))
  | [], t => by cases t; rfl
  | (p, v) :: l, t => by
    rw [List.foldl_cons, fold_wrs l]
    simp [wrs]
/-- One round. -/
theorem VRound.mk {P : Program} {l : Nat} {args : Array Value} {H : Heap} {K : Value → Heap → Prop} (r : Loop) (hr : H[l]? = some (.loop r)) (hst : r.state = .ready) (hs : args.size = r.params.size)
    (h : normK (wrs r.tmps.toList r.params.toList args.toList) fun fr => vcI P (some l) r.assign fr [] H (fun fr1 ds1 H1 => ds1 = [] ∧ H1[l]? = some (.loop r) ∧
      vcI P (some l) r.body fr1 [] (H1.setIfInBounds l (.loop { r with state := .busy })) (fun _ _ H2 => H2[l]? = some (.loop { r with state := .busy }) ∧ K (.bool true) (H2.setIfInBounds l (.loop { r with state := .ready, pending := none }))) []
        (fun _ _ H2 => H2[l]? = some (.loop { r with state := .busy }) ∧ K (.bool false) (H2.setIfInBounds l (.loop { r with state := .done, pending := some .ret })))) [] (fun _ _ _ => False)) : VRound P l args H K := by
  refine ⟨?_⟩
  intro w hw
  subst hw
  rw [normK_eq] at h
  refine ⟨_, _, _, _, run_yield hr hs, ?_⟩
  have hfold : ((r.params.zip args).foldl (fun tmps (t, a) => tmps.setIfInBounds t a) r.tmps).toList = wrs r.tmps.toList r.params.toList args.toList := by
    rw [← Array.foldl_toList]
    have := fold_wrs (r.params.zip args).toList r.tmps
    rw [Array.toList_zip] at this ⊢
    rw [show (fun (tmps : Array Value) (x : Tmp × Value) => tmps.setIfInBounds x.1 x.2) = (fun tmps (x : Tmp × Value) => match x with | (t, a) => tmps.setIfInBounds t a) from rfl] at this
    rw [List.map_fst_zip (by simp [hs]), List.map_snd_zip (by simp [hs])] at this
    exact this
  have hro : FW (some l) = (FW none).inRound l := rfl
  refine roundW (ro := none) (n := 0) (roundIn_of_wpIn (F := FW none) trivial ?_)
  rw [← hro]
  have hat : AtD [] (wrs r.tmps.toList r.params.toList args.toList) { tmps := (r.params.zip args).foldl (fun tmps (t, a) => tmps.setIfInBounds t a) r.tmps, defers := [] } := ⟨hfold, rfl⟩
  refine Code.wpIn_mono ?_ (vcI_sound r.assign _ [] _ [] _ _ w hat h)
  intro e a1 w1 h1
  cases e with
  | normal =>
    obtain ⟨fr1, ds1, hat1, henv1, rfl, hl1, h1⟩ := h1
    refine ⟨_, run_beginRound hl1 hst, ?_⟩
    have hb := vcI_sound (n := 0) r.body fr1 [] _ [] _ a1 (w1.putObj l (.loop { r with state := .busy })) hat1 h1
    refine Code.wpIn_mono ?_ hb
    intro e a2 w2 h2
    cases e with
    | normal =>
      obtain ⟨fr2, ds2, hat2, henv2, hl2, hk2⟩ := h2
      exact ⟨_, _, run_endRound none hl2, _, rfl, (henv1.trans (envPut w1 l _)).trans (henv2.trans (envPut w2 l _)), hk2⟩
    | ret =>
      obtain ⟨fr2, ds2, hat2, henv2, hl2, hk2⟩ := h2
      exact ⟨_, _, run_endRound (some .ret) hl2, _, rfl, (henv1.trans (envPut w1 l _)).trans (henv2.trans (envPut w2 l _)), hk2⟩
    | exit id => obtain ⟨_, _, _, _, h3⟩ := h2; exact h3.elim
    | goto l => obtain ⟨_, _, _, _, h3⟩ := h2; exact h3.elim
    | panic c => exact h2.elim
    | outgrown => exact h2.elim
  | exit id => obtain ⟨_, _, _, _, h3⟩ := h1; exact h3.elim
  | goto l => obtain ⟨_, _, _, _, h3⟩ := h1; exact h3.elim
  | ret => obtain ⟨_, _, _, _, h3⟩ := h1; exact h3.elim
  | panic c => exact h1.elim
  | outgrown => exact h1.elim
end Go.VC
/- Appending to an own slice that is used on as1 it was; pieces in another order, bundled, put aside. -/
set_option linter.unusedVariables false
set_option linter.unusedSimpArgs false
namespace Go.VC
section
variable {B : Nat → Prop} {H0 H : Heap} {ps qs : List Pc} {p : Pc}
theorem StB.perm (st : StB B H0 H ps) (h : ps.Perm qs) : StB B H0 H qs :=
  ⟨st.old, st.lt0, st.size, fun p hp => st.oks p (h.mem_iff.2 hp), fun p hp => st.rng p (h.mem_iff.2 hp), (h.pairwise_iff fun {x y} hxy k hk hk' => hxy k hk' hk).1 st.dis⟩
theorem StB.sub (st : StB B H0 H ps) (h : qs.Sublist ps) : StB B H0 H qs :=
  ⟨st.old, st.lt0, st.size, fun p hp => st.oks p (h.subset hp), fun p hp => st.rng p (h.subset hp), st.dis.sublist h⟩
/-- Pieces as1 one. -/
def pAll (qs : List Pc) : Pc where
  foot k := ∃ q ∈ qs, q.foot k
  ok H := (∀ q ∈ qs, q.ok H) ∧ qs.Pairwise Dis
  fr h hp := ⟨fun q hq => q.fr (h.mono fun k hk => ⟨q, hq, hk⟩) (hp.1 q hq), hp.2⟩
/-- The bundle looked at by itself. -/
theorem StB.open_ (st : StB B H0 H ps) (i : Nat) (hp : ps[i]? = some (pAll qs)) : StB (fun k => k < H.size ∧ ¬ (pAll qs).foot k) H H qs := by
  obtain ⟨h1, h2⟩ := st.at_ i hp
  exact ⟨Agr.refl _ _, fun k hk => hk.1, Nat.le_refl _, h1, fun q hq k hk => ⟨fun h => h.2 ⟨q, hq, hk⟩, (st.in_ i hp ⟨q, hq, hk⟩).2⟩, h2⟩
theorem StB.close {H' : Heap} {qs' : List Pc} (st : StB B H0 H ps) (i : Nat) (hp : ps[i]? = some (pAll qs)) (st' : StB (fun k => k < H.size ∧ ¬ (pAll qs).foot k) H H' qs') : StB B H0 H' (ps.set i (pAll qs')) := by
  refine st.upd i hp st'.old _ ⟨st'.oks, st'.dis⟩ (fun k hk => ?_) (fun k hk => ?_) st'.size
  · obtain ⟨q, hq, hk⟩ := hk
    have := (st'.rng q hq k hk).1
    by_cases h1 : k < H.size
    · by_cases h2 : (pAll qs).foot k
      · exact .inl h2
      · exact absurd ⟨h1, h2⟩ this
    · exact .inr (by omega)
  · obtain ⟨q, hq, hk⟩ := hk
    exact (st'.rng q hq k hk).2
/-- The first pieces bundled. -/
theorem StB.bundle {rs : List Pc} (st : StB B H0 H (qs ++ rs)) : StB B H0 H (pAll qs :: rs) := by
  obtain ⟨d1, d2, d3⟩ := List.pairwise_append.1 st.dis
  refine ⟨st.old, st.lt0, st.size, fun p hp => ?_, fun p hp k hk => ?_, List.pairwise_cons.2 ⟨fun r hr k hk hk' => ?_, d2⟩⟩
  · rcases List.mem_cons.1 hp with rfl | hp
    · exact ⟨fun q hq => st.oks q (List.mem_append.2 (.inl hq)), d1⟩
    · exact st.oks p (List.mem_append.2 (.inr hp))
  · rcases List.mem_cons.1 hp with rfl | hp
    · obtain ⟨q, hq, hk⟩ := hk
      exact st.rng q (List.mem_append.2 (.inl hq)) k hk
    · exact st.rng p (List.mem_append.2 (.inr hp)) k hk
  · obtain ⟨q, hq, hk⟩ := hk
    exact d3 q hq r hr k hk hk'
theorem StB.unbundle {rs : List Pc} (st : StB B H0 H (pAll qs :: rs)) : StB B H0 H (qs ++ rs) := by
  obtain ⟨d1, d2⟩ := List.pairwise_cons.1 st.dis
  have h0 := st.oks _ (List.mem_cons_self ..)
  refine ⟨st.old, st.lt0, st.size, fun p hp => ?_, fun p hp k hk => ?_, List.pairwise_append.2 ⟨h0.2, d2, fun q hq r hr k hk hk' => d1 r hr k ⟨q, hq, hk⟩ hk'⟩⟩
  · rcases List.mem_append.1 hp with hp | hp
    · exact h0.1 p hp
    · exact st.oks p (List.mem_cons.2 (.inr hp))
  · rcases List.mem_append.1 hp with hp | hp
    · exact st.rng _ (List.mem_cons_self ..) k ⟨p, hp, hk⟩
    · exact st.rng p (List.mem_cons.2 (.inr hp)) k hk
end
section
variable {α : Type} {T : Ty α} {e : TypeId} {a : Option Addr} {n cap : Nat} {xs : List α} {B : Nat → Prop} {H0 H : Heap} {p1 p2 : Pc} {rest : List Pc}
end
end Go.VC
/- slices.Sorted of maps.Keys of a map of ints: the walk. -/
set_option linter.unusedVariables false
set_option linter.unusedSimpArgs false
set_option maxRecDepth 100000
namespace Go.VC
theorem VRound.mk2 {P : Program} {l : Nat} {args : Array Value} {H : Heap} {K : Value → Heap → Prop} (fn : FuncId) (tmps : Array Value) (ps : Array Tmp) (assign body : Code) (D : Nat) (rec : LoopState → Option Code → Loop)
    (hrec : rec = fun st pe => { state := st, pending := pe, fn := fn, tmps := tmps, params := ps, assign := assign, body := body, defers := D }) (hr : H[l]? = some (.loop (rec .ready none))) (hs : args.size = ps.size)
    (h : normK (wrs tmps.toList ps.toList args.toList) fun fr => vcI P (some l) assign fr [] H (fun fr1 ds1 H1 => ds1 = [] ∧ H1[l]? = some (.loop (rec .ready none)) ∧
      vcI P (some l) body fr1 [] (H1.setIfInBounds l (.loop (rec .busy none))) (fun _ _ H2 => H2[l]? = some (.loop (rec .busy none)) ∧ K (.bool true) (H2.setIfInBounds l (.loop (rec .ready none)))) []
        (fun _ _ H2 => H2[l]? = some (.loop (rec .busy none)) ∧ K (.bool false) (H2.setIfInBounds l (.loop (rec .done (some .ret)))))) [] (fun _ _ _ => False)) : VRound P l args H K := by
  subst hrec
  exact VRound.mk _ hr rfl hs h
theorem VRound_mono {P : Program} {l : Nat} {args : Array Value} {H : Heap} {K K' : Value → Heap → Prop} (h : VRound P l args H K) (k : ∀ v H', K v H' → K' v H') : VRound P l args H K' :=
  ⟨fun w hw => by
    obtain ⟨f, t, a, b, h1, h2⟩ := h.out w hw
    exact ⟨f, t, a, b, h1, h2.mono fun e w' ⟨v, h3, h4, h5⟩ => ⟨v, h3, h4, k _ _ h5⟩⟩⟩
/-- The record of a loop over a function. -/
def pLp (L : Nat) (r : Loop) : Pc := ⟨fun k => k = L, fun H => H[L]? = some (.loop r), fun h hp => (h L rfl).trans hp⟩
/-- Marks: blocks for deferred calls, none of which holds any. -/
def pDs (ds : List Nat) : Pc := ⟨fun k => k ∈ ds, fun H => ∀ D ∈ ds, H[D]? = some (.deferred (some [])), fun h hp D hD => (h D hD).trans (hp D hD)⟩
section
variable {B : Nat → Prop} {H0 H : Heap} {ps rest : List Pc}
theorem StB.lpSet {L : Nat} {r : Loop} (st : StB B H0 H ps) (i : Nat) (hp : ps[i]? = some (pLp L r)) (r' : Loop) : StB B H0 (H.setIfInBounds L (.loop r')) (ps.set i (pLp L r')) := by
  have hl : H[L]? = some (.loop r) := st.at_ i hp
  have hlt := (Array.getElem?_eq_some_iff.1 hl).1
  refine st.upd i hp (fun k hk => ?_) _ ?_ (fun k hk => .inl hk) (fun k hk => ?_) (by simp)
  · have : k ≠ L := fun e => hk.2 e
    rw [Array.getElem?_setIfInBounds_ne (Ne.symm this)]
  · show (H.setIfInBounds L _)[L]? = _
    rw [Array.getElem?_setIfInBounds_self_of_lt hlt]
  · have : k = L := hk
    subst this
    simpa using hlt
theorem StB.push (st : StB B H0 H ps) (o : Obj) (p : Pc) (hf : ∀ k, p.foot k → k = H.size) (hok : p.ok (H.push o)) : StB B H0 (H.push o) (ps ++ [p]) :=
  st.add (heap_push_old H o) p hok fun k hk => by have := hf k hk; subst this; simp
theorem StB.pushMark (st : StB B H0 H ps) : StB B H0 (H.push (.deferred (some []))) (ps ++ [pDs [H.size]]) :=
  st.push _ _ (fun k hk => by simpa [pDs] using hk) (fun D hD => by rw [List.mem_singleton] at hD; subst hD; simp)
theorem StB.pushLoop (st : StB B H0 H ps) (r : Loop) : StB B H0 (H.push (.loop r)) (ps ++ [pLp H.size r]) :=
  st.push _ _ (fun k hk => hk) (by show (H.push _)[H.size]? = _; simp)
theorem StB.dsOff {ds : List Nat} {H' : Heap} (st : StB B H0 H (pDs ds :: rest)) (ha : Agr (fun k => k ∉ ds) H H') (hs : H'.size = H.size) : StB B H0 H' rest := by
  have := st.upd 0 (p := pDs ds) rfl (ha.mono fun k hk => hk.2) ⟨fun _ => False, fun _ => True, fun _ _ => trivial⟩ trivial (fun k hk => hk.elim) (fun k hk => hk.elim) (by omega)
  exact this.sub (List.sublist_cons_self _ _)
/-- Some of the first n pieces, in another order, and the others. -/
theorem StB.pickN (st : StB B H0 H ps) (n : Nat) (is : List Nat) (hn : is.Nodup) : StB B H0 H ((is.filterMap fun i => (ps.take n)[i]?) ++ ps.drop n) := by
  have e := List.take_append_drop n ps
  rw [← e] at st
  generalize ps.take n = qs at *
  generalize ps.drop n = rs at *
  obtain ⟨d1, d2, d3⟩ := List.pairwise_append.1 st.dis
  have st1 : StB B H0 H qs := st.sub (List.sublist_append_left _ _)
  have st2 := st1.pick is hn
  have hm : ∀ q, q ∈ is.filterMap (fun i => qs[i]?) → q ∈ qs := fun q hq => by
    obtain ⟨i, -, hi⟩ := List.mem_filterMap.1 hq
    exact List.mem_of_getElem? hi
  refine ⟨st.old, st.lt0, st.size, fun q hq => ?_, fun q hq k hk => ?_, List.pairwise_append.2 ⟨st2.dis, d2, fun q hq r hr => d3 q (hm q hq) r hr⟩⟩
  · rcases List.mem_append.1 hq with hq | hq
    · exact st2.oks q hq
    · exact st.oks q (List.mem_append.2 (.inr hq))
  · rcases List.mem_append.1 hq with hq | hq
    · exact st2.rng q hq k hk
    · exact st.rng q (List.mem_append.2 (.inr hq)) k hk
end
end Go.VC
namespace Go.Proofs.YtlnmhfhdjnenoaaGreatDoor
open Go.VC
abbrev kI : Int → Value := Value.int .i64
theorem keyIW : KeyW Tryz.prog 3 (anyK (α := Int)) kI := KeyW.ofE Tryz.underlying3 (keyI .i64)
theorem mapII : MapTW Tryz.prog 149 3 3 (.int .i64 0) := ⟨rfl, rfl⟩
abbrev Dom (mm : Int → Option Value) : Int → Prop := fun q => (mm q).isSome = true
abbrev tIk : Ty Int := tInt .i64
/-- What a call of yield does: the int is put to the others. -/
def YOkI (l : Nat) (ok : Int → Prop) (Q : List Int → Pc → Prop) : Prop :=
  ∀ {B : Nat → Prop} {H0 H : Heap} {ps : List Pc} (st : StB B H0 H ps) (i : Nat) (p : Pc) (pre : List Int) (x : Int), ps[i]? = some p → Q pre p → pre.length < 65536 → ok x →
    VRound Tryz.prog l #[.int .i64 x] H fun v H' => v = .bool true ∧ ∃ p', Q (pre ++ [x]) p' ∧ StB B H0 H' (ps.set i p')
theorem nodupI_len : ∀ (n : Nat) (l : List Int), l.Nodup → (∀ x ∈ l, 0 ≤ x ∧ x < (n : Int)) → l.length ≤ n
  | 0, l, _, h => by
    cases l with
    | nil => exact Nat.le_refl _
    | cons x l => have := h x List.mem_cons_self; omega
  | n + 1, l, hd, h => by
    have h1 := nodupI_len n (l.filter fun x => decide (x < (n : Int))) (hd.filter _) (fun x hx => by
      obtain ⟨h1, h2⟩ := List.mem_filter.1 hx
      exact ⟨(h x h1).1, by simpa using h2⟩)
    have h2 : l.length ≤ (l.filter fun x => decide (x < (n : Int))).length + 1 := by
      clear h1
      induction l with
      | nil => simp
      | cons x l ih =>
        rw [List.nodup_cons] at hd
        by_cases hx : x < (n : Int)
        · rw [List.filter_cons_of_pos (by simpa using hx)]
          have := ih hd.2 (fun y hy => h y (List.mem_cons_of_mem _ hy))
          simp only [List.length_cons]; omega
        · rw [List.filter_cons_of_neg (by simpa using hx)]
          have hxn : x = (n : Int) := by have := h x List.mem_cons_self; omega
          have : l.filter (fun x => decide (x < (n : Int))) = l := List.filter_eq_self.2 fun y hy => by
            have h3 := h y (List.mem_cons_of_mem _ hy)
            have : y ≠ x := fun e => hd.1 (e ▸ hy)
            rw [decide_eq_true_eq]; omega
          rw [this]; simp
    omega
set_option maxHeartbeats 4000000 in
theorem keys1_c {B : Nat → Prop} {H0 H : Heap} {l nb bx : Nat} {Q : List Int → Pc → Prop} {mm : Int → Option Value} {rest : List Pc} {p : Pc} (hr : ∀ q, Dom mm q → 0 ≤ q ∧ q < 65536) (hy : YOkI l (fun x => 0 ≤ x ∧ x < 65536) Q)
    (st : StB B H0 H (p :: pMW anyK kI nb mm :: pB 149 bx [.map (some nb)] :: rest)) (hQ : Q [] p) :
    FnOk Tryz.prog 90 #[.func (.yield l) #[] #[], .pointer (some ⟨bx, 0, none⟩)] H fun _ H' => ∃ ks p', Q ks p' ∧ ks.Nodup ∧ (∀ q, q ∈ ks ↔ Dom mm q) ∧ StB B H0 H' (p' :: pMW anyK kI nb mm :: pB 149 bx [.map (some nb)] :: rest) := by
  refine FnOk.of_vcI Tryz.func90 rfl (Tryz.call90 _) ?_
  (conv => whnf); refine ld1 (v := .map (some nb)) ct149 (by rw [(st.blk 2 rfl).cell]; rfl) trivial ?_
  (conv => whnf); refine mrangeP st 1 mapII rfl fun r n H1 st1 => ?_
  (conv => whnf)
  refine VLoopD.mk [] (fun _ : List Int × Nat => []) (fun x ds H2 => ds = [] ∧ x.1.Nodup ∧ (∀ q ∈ x.1, Dom mm q) ∧ ∃ D last p', (∀ q, D q ↔ q ∈ x.1) ∧ Q x.1 p' ∧ StB B H0 H2 (p' :: pIW anyK kI nb r mm D last x.2 :: pB 149 bx [.map (some nb)] :: rest)) (fun x _ => x.2) ?_ ?_
  · (conv => whnf)
    exact ⟨([], n), rfl, rfl, List.Pairwise.nil, (fun q h => by cases h), _, none, p, fun q => ⟨fun h => h.elim, fun h => by cases h⟩, hQ, st1⟩
  · rintro ⟨ks, n2⟩ ds H2 junk ⟨rfl, hnd, hin, D, last, p', hD, hQ2, st2⟩
    simp only at hnd hin hD hQ2 st2
    have hlen := nodupI_len 65536 ks hnd fun x hx => hr x (hin x hx)
    (conv => whnf); refine mnextP st2 1 keyIW.inj rfl (fun hall => ?_) fun q v H3 n3 hq hnD hlt st3 => ?_
    · (conv => whnf); refine VRet.nil ?_
      (conv => whnf)
      exact ⟨ks, p', hQ2, hnd, fun q => ⟨hin q, fun h => (hD q).1 (hall q h)⟩, st2.iterEnd 1 rfl⟩
    · have hdq : Dom mm q := by unfold Dom; rw [hq]; rfl
      have hqk : q ∉ ks := fun h => hnD ((hD q).2 h)
      have hlt2 : ks.length < 65536 := by
        have := nodupI_len 65536 (ks ++ [q]) (List.nodup_append.2 ⟨hnd, by simp, fun x hx y hy e => by rw [List.mem_singleton] at hy; subst hy; subst e; exact hqk hx⟩) fun x hx => by
          rcases List.mem_append.1 hx with h | h
          · exact hr x (hin x h)
          · rw [List.mem_singleton] at h; subst h; exact hr x hdq
        simp at this
        omega
      (conv => whnf); refine mhere (st3.iterW 1 rfl) keyIW.inj hq ?_
      (conv => whnf); refine VRound_mono (hy st3 0 p' ks q rfl hQ2 hlt2 (hr q hdq)) fun v' H4 h4 => ?_
      obtain ⟨rfl, p2, hQ4, st4⟩ := h4
      (conv => whnf)
      refine ⟨rfl, (ks ++ [q], n3), rfl, ⟨rfl, List.nodup_append.2 ⟨hnd, by simp, fun x hx y hy e => by rw [List.mem_singleton] at hy; subst hy; subst e; exact hqk hx⟩, fun x hx => ?_, _, _, p2, fun x => ?_, hQ4, st4⟩, hlt⟩
      · rcases List.mem_append.1 hx with h | h
        · exact hin x h
        · rw [List.mem_singleton] at h; subst h; exact hdq
      · simp only [List.mem_append, List.mem_singleton, hD]
/-- What the loop's body holds. -/
def SQ (L : Nat) (rec : LoopState → Option Code → Loop) (b : Nat) (pre : List Int) (p : Pc) : Prop :=
  ∃ a cap, p = pAll [pLp L (rec .ready none), pB 54 b [.slice a pre.length cap], pS tIk 3 a pre.length cap pre]
theorem kint {x : Int} (h : 0 ≤ x ∧ x < 65536) : inK .i64 x := ⟨by simp [IntKind.min, IntKind.signed, IntKind.bits]; omega, by simp [IntKind.max, IntKind.signed, IntKind.bits]; omega⟩
set_option maxHeartbeats 4000000 in
theorem appendSeq_c {B : Nat → Prop} {H0 H : Heap} {nb bx : Nat} {mm : Int → Option Value} {rest : List Pc} (hr : ∀ q, Dom mm q → 0 ≤ q ∧ q < 65536)
    (st : StB B H0 H (pMW anyK kI nb mm :: pB 149 bx [.map (some nb)] :: rest)) :
    FnOk Tryz.prog 103 #[.slice none 0 0, .func (.func 90) #[] #[.pointer (some ⟨bx, 0, none⟩)]] H fun r H' => ∃ ks a cap, r = .slice a ks.length cap ∧ ks.Nodup ∧ (∀ q, q ∈ ks ↔ Dom mm q) ∧ StB B H0 H' (pS tIk 3 a ks.length cap ks :: pMW anyK kI nb mm :: pB 149 bx [.map (some nb)] :: rest) := by
  refine FnOk.of_vcI Tryz.func103 rfl (Tryz.call103 _) ?_
  (conv => whnf); refine vbox [.slice none 0 0] rfl ?_
  intro b2 H1 hb2 hs1 hk1 ha1
  have st1 : StB B H0 H1 (pB 54 b2 [.slice none 0 0] :: pMW anyK kI nb mm :: pB 149 bx [.map (some nb)] :: rest) := (st.box hb2 hs1 hk1 ha1).perm (List.perm_append_singleton _ _)
  have st2 : StB B H0 H1 (pS tIk 3 none 0 0 [] :: pB 54 b2 [.slice none 0 0] :: pMW anyK kI nb mm :: pB 149 bx [.map (some nb)] :: rest) := (st1.nils tIk 3).perm (List.perm_append_singleton _ _)
  (conv => whnf); refine VRF.mk 90 #[.pointer (some ⟨bx, 0, none⟩)] rfl ?_
  rintro rec ⟨fn, hrec⟩
  have st3 := st2.pushMark.perm (List.perm_append_singleton _ _)
  have st4 := (st3.pushLoop (rec .ready none)).perm (List.perm_append_singleton _ _)
  rw [Array.size_push] at st4
  have st5 : StB B H0 _ ([pLp (H1.size + 1) (rec .ready none), pB 54 b2 [.slice none 0 0], pS tIk 3 none 0 0 []] ++ (pMW anyK kI nb mm :: pB 149 bx [.map (some nb)] :: pDs [H1.size] :: rest)) := st4.pickN 6 [0, 3, 2, 4, 5, 1] (by decide)
  have st6 := st5.bundle
  have hy : YOkI (H1.size + 1) (fun x => 0 ≤ x ∧ x < 65536) (SQ (H1.size + 1) rec b2) := by
    intro B' H0' H'' ps st i p pre x hp hQ hle hx
    obtain ⟨a', cap', rfl⟩ := hQ
    have so := st.open_ i hp
    refine VRound.mk2 _ _ _ _ _ _ rec hrec (so.at_ 0 rfl) rfl ?_
    (conv => whnf)
    refine ⟨rfl, so.at_ 0 rfl, ?_⟩
    have so1 := so.lpSet 0 rfl (rec .busy none)
    (conv => whnf); refine ld1 (v := .slice a' pre.length cap') ct54 (by rw [(so1.blk 1 rfl).cell]; rfl) trivial ?_
    (conv => whnf); refine vbuild1 sl54 [.int .i64 x] rfl rfl (by decide) (by decide) ?_
    intro q21 H21 hq21 hs21 hb21 ha21
    (conv => whnf); refine app1 (x := x) (so1.skip hq21 ha21) 2 sl54 rfl hb21 ⟨rfl, kint hx⟩ rfl (by omega) (by decide) fun a'' c'' H22 so2 _ => ?_
    (conv => whnf); refine st1B so2 1 ct54 rfl (by simp) rfl fun H23 so3 => ?_
    (conv => whnf)
    have so4 := so3.lpSet 0 rfl (rec .ready none)
    have el : pre.length + 1 = (pre ++ [x]).length := by simp
    refine ⟨so3.at_ 0 rfl, rfl, _, ⟨a'', c'', rfl⟩, ?_⟩
    rw [el] at so4
    exact st.close i hp so4
  refine (keys1_c (Q := SQ (H1.size + 1) rec b2) hr hy st6 ⟨none, 0, rfl⟩).mono fun _ H8 hE => ?_
  obtain ⟨ks, p1, ⟨a1, c1, rfl⟩, hnd, hin, st7⟩ := hE
  have st8 := st7.unbundle
  refine ⟨.ready, none, by decide, st8.at_ 0 rfl, .inl ⟨rfl, ?_⟩⟩
  have st9 := st8.lpSet 0 rfl (rec .exhausted none)
  have st10 : StB B H0 _ (pDs [H1.size] :: pS tIk 3 a1 ks.length c1 ks :: pMW anyK kI nb mm :: pB 149 bx [.map (some nb)] :: pB 54 b2 [.slice a1 ks.length c1] :: rest) := st9.pickN 6 [5, 2, 3, 4, 1] (by decide)
  (conv => whnf); refine ld1 (v := .slice a1 ks.length c1) ct54 (by rw [(st10.blk 4 rfl).cell]; rfl) trivial ?_
  (conv => whnf)
  refine VRet.in_ (by simp) (st10.at_ 0 rfl) fun H'' ha hs => ?_
  have st11 := st10.dsOff ha hs
  (conv => whnf)
  exact ⟨ks, a1, c1, rfl, hnd, hin, st11.pickN 4 [0, 1, 2] (by decide)⟩
theorem sorted_srt {ks : List Int} (h : ks.Nodup) : (ks.mergeSort fun x y => decide (x ≤ y)).Pairwise (· < ·) := by
  have h1 : (ks.mergeSort fun x y => decide (x ≤ y)).Pairwise (· ≤ ·) := (List.pairwise_mergeSort (fun a b c h1 h2 => by simp only [decide_eq_true_eq] at *; omega) (fun a b => by simp only [Bool.or_eq_true, decide_eq_true_eq]; omega) _).imp fun h => of_decide_eq_true h
  have h2 : (ks.mergeSort fun x y => decide (x ≤ y)).Nodup := (List.mergeSort_perm _ _).nodup_iff.2 h
  exact (h1.and h2).imp fun ⟨h3, h4⟩ => by omega
set_option maxHeartbeats 4000000 in
/-- The keys in order, as1 a list of the call's own. -/
theorem sortedKeys_c {B : Nat → Prop} {H0 H : Heap} {nb bx : Nat} {mm : Int → Option Value} {rest : List Pc} (hr : ∀ q, Dom mm q → 0 ≤ q ∧ q < 65536)
    (st : StB B H0 H (pMW anyK kI nb mm :: pB 149 bx [.map (some nb)] :: rest)) :
    FnOk Tryz.prog 67 #[.func (.func 90) #[] #[.pointer (some ⟨bx, 0, none⟩)]] H fun r H' => ∃ ks a cap, r = .slice a ks.length cap ∧ ks.Pairwise (· < ·) ∧ (∀ q, q ∈ ks ↔ Dom mm q) ∧ StB B H0 H' (pS tIk 3 a ks.length cap ks :: pMW anyK kI nb mm :: pB 149 bx [.map (some nb)] :: rest) := by
  refine FnOk.of_vc Tryz.func67 rfl (Tryz.call67 _) ?_
  (conv => whnf); refine VCall.mk (R := fun r H' => ∃ ks a cap, r = .slice a ks.length cap ∧ ks.Nodup ∧ (∀ q, q ∈ ks ↔ Dom mm q) ∧ StB B H0 H' (pS tIk 3 a ks.length cap ks :: pMW anyK kI nb mm :: pB 149 bx [.map (some nb)] :: rest)) ?_ ?_
  · refine FnOk.of_vc Tryz.func88 rfl (Tryz.call88 _) ?_
    (conv => whnf); refine VCall.mk (appendSeq_c hr st) ?_
    rintro _ H1 ⟨ks, a, cap, rfl, h1, h2, h3⟩
    (conv => whnf)
    exact ⟨ks, a, cap, rfl, h1, h2, h3⟩
  · rintro _ H1 ⟨ks, a, cap, rfl, hnd, hin, st1⟩
    have hlen := nodupI_len 65536 ks hnd fun x hx => hr x ((hin x).1 hx)
    (conv => whnf); refine sortI sorts_ st1 0 rfl (by omega) fun H2 st2 => ?_
    (conv => whnf)
    have el : (ks.mergeSort fun x y => decide (x ≤ y)).length = ks.length := List.length_mergeSort _
    refine ⟨ks.mergeSort fun x y => decide (x ≤ y), a, cap, by rw [el], sorted_srt hnd, fun q => by rw [List.mem_mergeSort]; exact hin q, ?_⟩
    rw [el]
    exact st2
end Go.Proofs.YtlnmhfhdjnenoaaGreatDoor
/- Trees of expressions; the builder of layer 4 over trees without signs: the plain law and the walks. -/
set_option linter.unusedVariables false
set_option linter.unusedSimpArgs false
set_option maxRecDepth 100000
namespace Go.Proofs.YtlnmhfhdjnenoaaGreatDoor
open Go.VC
/-- How many states a tree's automaton has. -/
def stM : ReM → Nat
  | .eps => 2
  | .cls _ => 2
  | .cat a b => stM a + stM b
  | .alt a b => stM a + stM b + 2
  | .star a => stM a + 2
  | .and_ _ _ => 0
  | .minus _ _ => 0
def silE (p q : Nat) : EdM := ⟨p, q, true, 0#256⟩
def setE (p q : Nat) (s : BitVec 256) : EdM := ⟨p, q, false, s⟩
/-- What a tree's rules make from state n on: the start, the end, the edges. -/
def bldM : ReM → Nat → Nat × Nat × List EdM
  | .eps, n => (n, n + 1, [silE n (n + 1)])
  | .cls s, n => (n, n + 1, [setE n (n + 1) s])
  | .cat a b, n => ((bldM a n).1, (bldM b (n + stM a)).2.1, (bldM a n).2.2 ++ (bldM b (n + stM a)).2.2 ++ [silE (bldM a n).2.1 (bldM b (n + stM a)).1])
  | .alt a b, n => (n, n + 1 + stM a + stM b, (bldM a (n + 1)).2.2 ++ (bldM b (n + 1 + stM a)).2.2 ++
      [silE n (bldM a (n + 1)).1, silE n (bldM b (n + 1 + stM a)).1, silE (bldM a (n + 1)).2.1 (n + 1 + stM a + stM b), silE (bldM b (n + 1 + stM a)).2.1 (n + 1 + stM a + stM b)])
  | .star a, n => (n, n + 1 + stM a, (bldM a (n + 1)).2.2 ++ [silE n (bldM a (n + 1)).1, silE n (n + 1 + stM a), silE (bldM a (n + 1)).2.1 (bldM a (n + 1)).1, silE (bldM a (n + 1)).2.1 (n + 1 + stM a)])
  | .and_ _ _, n => (n, n, [])
  | .minus _ _, n => (n, n, [])
theorem bldM_len : ∀ (r : ReM), r.plain = true → ∀ n, (bldM r n).2.2.length + 1 ≤ 2 * stM r
  | .eps, _, n => by simp [bldM, stM]
  | .cls _, _, n => by simp [bldM, stM]
  | .cat a b, h, n => by
    simp only [ReM.plain, Bool.and_eq_true] at h
    have h1 := bldM_len a h.1 n
    have h2 := bldM_len b h.2 (n + stM a)
    simp only [bldM, stM, List.length_append, List.length_cons, List.length_nil]; omega
  | .alt a b, h, n => by
    simp only [ReM.plain, Bool.and_eq_true] at h
    have h1 := bldM_len a h.1 (n + 1)
    have h2 := bldM_len b h.2 (n + 1 + stM a)
    simp only [bldM, stM, List.length_append, List.length_cons, List.length_nil]; omega
  | .star a, h, n => by
    have h1 := bldM_len a h (n + 1)
    simp only [bldM, stM, List.length_append, List.length_cons, List.length_nil]; omega
  | .and_ _ _, h, _ => by cases h
  | .minus _ _, h, _ => by cases h
/-- The ends lie among the states. -/
theorem bldM_in : ∀ (r : ReM), r.plain = true → ∀ n, n ≤ (bldM r n).1 ∧ (bldM r n).1 < n + stM r ∧ n ≤ (bldM r n).2.1 ∧ (bldM r n).2.1 < n + stM r
  | .eps, _, n => by simp only [bldM, stM]; omega
  | .cls _, _, n => by simp only [bldM, stM]; omega
  | .cat a b, h, n => by
    simp only [ReM.plain, Bool.and_eq_true] at h
    have h1 := bldM_in a h.1 n
    have h2 := bldM_in b h.2 (n + stM a)
    simp only [bldM, stM]; omega
  | .alt a b, h, n => by simp only [bldM, stM]; omega
  | .star a, h, n => by simp only [bldM, stM]; omega
  | .and_ _ _, h, _ => by cases h
  | .minus _ _, h, _ => by cases h
/-! ### the builder -/
def bdL (n : Nat) (v sub : Value) : List Value := [.int .i64 (n : Int), .int .i64 0, .int .i64 0, v, sub, .int .i64 0]
abbrev tBd : TypeId := 118
section
variable {B : Nat → Prop} {H0 H : Heap} {rest : List Pc} {bb n : Nat} {v sub : Value}
theorem bstate_v {K : Value → Heap → Prop} (st : StB B H0 H (pB tBd bb (bdL n v sub) :: rest)) (hn : n ≤ 2000000) (k : ∀ H', StB B H0 H' (pB tBd bb (bdL (n + 1) v sub) :: rest) → K (.int .i64 (n : Int)) H') :
    VCall Tryz.prog 70 #[.pointer (some ⟨bb, 0, none⟩)] H K := by
  refine VCall.mk (R := fun r H' => r = .int .i64 (n : Int) ∧ StB B H0 H' (pB tBd bb (bdL (n + 1) v sub) :: rest)) ?_ fun r H' ⟨h1, h2⟩ => by rw [h1]; exact k H' h2
  refine FnOk.of_vc Tryz.func70 rfl (Tryz.call70 _) ?_
  (conv => whnf); refine fa fl118_0 ?_
  (conv => whnf); refine fa fl37_0 ?_
  (conv => whnf); refine ld1 (v := .int .i64 (n : Int)) ct3 (by rw [(st.blk 0 rfl).cell]; rfl) trivial ?_
  (conv => whnf); rw [w64 (x := (n : Int) + 1) (by omega) (by omega)]
  (conv => whnf); refine fa fl118_0 ?_
  (conv => whnf); refine fa fl37_0 ?_
  (conv => whnf); refine st1B st 0 ct3 rfl (show 0 < 6 by decide) rfl fun H1 st1 => ?_
  (conv => whnf); refine fa fl118_0 ?_
  (conv => whnf); refine fa fl37_0 ?_
  (conv => whnf); refine ld1 (v := .int .i64 ((n : Int) + 1)) ct3 (by rw [(st1.blk 0 rfl).cell]; rfl) trivial ?_
  (conv => whnf); rw [w64 (x := (n : Int) + 1 - 1) (by omega) (by omega), show (n : Int) + 1 - 1 = (n : Int) by omega]
  (conv => whnf)
  exact ⟨rfl, st1⟩
theorem edge_ok {p q : Nat} (hp : p ≤ 2000000) (hq : q ≤ 2000000) (s : Bool) (t : BitVec 256) : (EdM.mk p q s t).Ok := ⟨inI64 (by omega), inI64 (by omega)⟩
theorem sil_build (p q : Nat) {S : Nat → Prop} {H : Heap} {K : Value → Prop} (k : K (.agg (edL (silE p q)).toArray)) :
    VDet Tryz.prog (Instr.build 104 [(0, .int .i64 (p : Int)), (1, .int .i64 (q : Int)), (2, .bool true)].toArray) S H K := by
  have e : edL (silE p q) = [.int .i64 (p : Int), .int .i64 (q : Int), .bool true, .int .u64 0, .int .u64 0, .int .u64 0, .int .u64 0] := by
    have h : ∀ i, wd 0#256 i = 0 := fun i => by unfold wd; simp
    simp [edL, silE, h]
  rw [e] at k
  exact vbuildS Tryz.underlying104 rfl _ edge_z _ (by kernel_rfl) k
theorem set_fill (x y : Int) (w0 w1 w2 w3 : Value) {S : Nat → Prop} {H : Heap} {K : Value → Prop} (h0 : w0.oneCell' = true) (h1 : w1.oneCell' = true) (h2 : w2.oneCell' = true) (h3 : w3.oneCell' = true) (k : K (.agg [.int .i64 x, .int .i64 y, .bool false, w0, w1, w2, w3].toArray)) :
    VDet Tryz.prog (Instr.build 104 [(0, .int .i64 x), (1, .int .i64 y), (3, .agg [w0, w1, w2, w3].toArray)].toArray) S H K :=
  vbuildS Tryz.underlying104 rfl _ edge_z [.int .i64 x, .int .i64 y, .bool false, w0, w1, w2, w3] (by kernel_rfl) k
theorem set_build (p q : Nat) (s : BitVec 256) {S : Nat → Prop} {H : Heap} {K : Value → Prop} (k : K (.agg (edL (setE p q s)).toArray)) :
    VDet Tryz.prog (Instr.build 104 [(0, .int .i64 (p : Int)), (1, .int .i64 (q : Int)), (3, .agg (setL s).toArray)].toArray) S H K := by
  unfold setE edL at k
  unfold setL
  exact set_fill _ _ _ _ _ _ rfl rfl rfl rfl k
theorem bsil_v {K : Value → Heap → Prop} {a : Option Addr} {c p q : Nat} {es : List EdM} (st : StB B H0 H (pB tBd bb (bdL n (.slice a es.length c) sub) :: pS tEd 104 a es.length c es :: rest)) (hp : p ≤ 2000000) (hq : q ≤ 2000000) (hl : es.length + 1 ≤ 4194304)
    (k : ∀ a' c' H', StB B H0 H' (pB tBd bb (bdL n (.slice a' (es ++ [silE p q]).length c') sub) :: pS tEd 104 a' (es ++ [silE p q]).length c' (es ++ [silE p q]) :: rest) → K (.tuple #[]) H') :
    VCall Tryz.prog 71 #[.pointer (some ⟨bb, 0, none⟩), .int .i64 (p : Int), .int .i64 (q : Int)] H K := by
  refine VCall.mk (R := fun r H' => r = .tuple #[] ∧ ∃ a' c', StB B H0 H' (pB tBd bb (bdL n (.slice a' (es ++ [silE p q]).length c') sub) :: pS tEd 104 a' (es ++ [silE p q]).length c' (es ++ [silE p q]) :: rest)) ?_ fun r H' ⟨h1, a', c', h2⟩ => by rw [h1]; exact k a' c' H' h2
  refine FnOk.of_vc Tryz.func71 rfl (Tryz.call71 _) ?_
  (conv => whnf); refine fa fl118_0 ?_
  (conv => whnf); refine fa fl37_3 ?_
  (conv => whnf); refine ld1 (v := .slice a es.length c) ct35 (by rw [(st.blk 0 rfl).cell]; rfl) trivial ?_
  (conv => whnf); refine sil_build p q ?_
  (conv => whnf); refine vbuild1 sl35 (edL (silE p q)) rfl rfl (by decide) (by decide) ?_
  intro y H1 hy hs1 hb1 ha1
  have st1 := st.skip hy ha1
  (conv => whnf); refine appO (ys := [silE p q]) st1 1 sl35 rfl (hb1.cells (o := 0) (cs := edL (silE p q)) fun j v hv => by rw [Nat.zero_add]; exact hv) (Ty.reps_one ⟨rfl, edge_ok hp hq _ _⟩) rfl (fun u hu => List.all_eq_true.1 (ed_ones _) u hu) (by simpa using hl) (by decide) fun a9 c9 H9 st9 _ => ?_
  (conv => whnf); refine fa fl118_0 ?_
  (conv => whnf); refine fa fl37_3 ?_
  (conv => whnf); refine st1B st9 0 ct35 rfl (show 3 < 6 by decide) rfl fun H10 st10 => ?_
  (conv => whnf)
  have el : es.length + [silE p q].length = (es ++ [silE p q]).length := by simp
  rw [el] at st10
  exact ⟨rfl, a9, c9, st10⟩
theorem btake_v {K : Value → Heap → Prop} {a : Option Addr} {c : Nat} {es : List EdM} {s : BitVec 256} (st : StB B H0 H (pB tBd bb (bdL n (.slice a es.length c) sub) :: pS tEd 104 a es.length c es :: rest)) (hn : n ≤ 1000000) (hl : es.length + 1 ≤ 4194304)
    (k : ∀ a' c' H', StB B H0 H' (pB tBd bb (bdL (n + 2) (.slice a' (es ++ [setE n (n + 1) s]).length c') sub) :: pS tEd 104 a' (es ++ [setE n (n + 1) s]).length c' (es ++ [setE n (n + 1) s]) :: rest) → K (.tuple #[.int .i64 (n : Int), .int .i64 ((n + 1 : Nat) : Int)]) H') :
    VCall Tryz.prog 72 #[.pointer (some ⟨bb, 0, none⟩), setV s] H K := by
  refine VCall.mk (R := fun r H' => r = .tuple #[.int .i64 (n : Int), .int .i64 ((n + 1 : Nat) : Int)] ∧ ∃ a' c', StB B H0 H' (pB tBd bb (bdL (n + 2) (.slice a' (es ++ [setE n (n + 1) s]).length c') sub) :: pS tEd 104 a' (es ++ [setE n (n + 1) s]).length c' (es ++ [setE n (n + 1) s]) :: rest)) ?_ fun r H' ⟨h1, a', c', h2⟩ => by rw [h1]; exact k a' c' H' h2
  refine FnOk.of_vc Tryz.func72 rfl (Tryz.call72 _) ?_
  (conv => whnf); refine vbox (setL s) rfl ?_
  intro x H1 hx hs1 hb1 ha1
  have st1 := (st.box hx hs1 hb1 ha1).perm (List.perm_append_singleton _ _)
  have st2 : StB B H0 H1 (pB tBd bb (bdL n (.slice a es.length c) sub) :: pB 102 x (setL s) :: pS tEd 104 a es.length c es :: rest) := st1.perm (List.Perm.swap _ _ _)
  (conv => whnf); refine bstate_v st2 (by omega) fun H3 st3 => ?_
  (conv => whnf); refine bstate_v st3 (by omega) fun H4 st4 => ?_
  have hdis := st4.apart2 (i := 0) (j := 2) rfl rfl (by decide)
  have hdis2 := st4.apart2 (i := 1) (j := 2) rfl rfl (by decide)
  (conv => whnf); refine VDraw.heldZ (fun k => k < H4.size ∧ ¬ slB (.slice a es.length c) k) [15] (sq [0,1,2,3,4,5,6,7,8,9] (.f 10 (.f 11 (sq [12,13,14] (.f 15 .e))))) rfl (by kernel_rfl) ?_
  have hb4 : bb < H4.size ∧ ¬ slB (.slice a es.length c) bb := ⟨(st4.in_ 0 rfl rfl).2, fun h => hdis bb rfl (.inl h)⟩
  have hx4 : x < H4.size ∧ ¬ slB (.slice a es.length c) x := ⟨(st4.in_ 1 rfl rfl).2, fun h => hdis2 x rfl (.inl h)⟩
  (conv => whnf); refine fa fl118_0 ?_
  (conv => whnf); refine fa fl37_3 ?_
  (conv => whnf); refine ld1 (v := .slice a es.length c) ct35 (by rw [(st4.blk 0 rfl).cell]; rfl) hb4 ?_
  (conv => whnf); refine ldN (cs := setL s) ag102 ((st4.blk 1 rfl).cells fun j v hv => by rw [Nat.zero_add]; exact hv) hx4 ?_
  (conv => whnf); refine set_build n (n + 1) s ?_
  (conv => whnf); refine vbuild1 sl35 (edL (setE n (n + 1) s)) rfl rfl (by decide) (by decide) ?_
  intro y H5 hy hs5 hb5 ha5
  have st5 := st4.skip hy ha5
  refine ⟨ha5.mono fun k hk => by have := hk.1; omega, ?_⟩
  (conv => whnf); refine appO (ys := [setE n (n + 1) s]) st5 2 sl35 rfl (hb5.cells (o := 0) (cs := edL (setE n (n + 1) s)) fun j v hv => by rw [Nat.zero_add]; exact hv) (Ty.reps_one ⟨rfl, edge_ok (by omega) (by omega) _ _⟩) rfl (fun u hu => List.all_eq_true.1 (ed_ones _) u hu) (by simpa using hl) (by decide) fun a9 c9 H9 st9 ha9 => ?_
  refine ⟨(ha5.mono fun k hk => by have := hk.1; omega).trans (ha9.mono fun k hk => ⟨by have := hk.1; omega, hk.2⟩), ?_⟩
  (conv => whnf); refine fa fl118_0 ?_
  (conv => whnf); refine fa fl37_3 ?_
  (conv => whnf); refine st1B st9 0 ct35 rfl (show 3 < 6 by decide) rfl fun H10 st10 => ?_
  (conv => whnf)
  have el : es.length + [setE n (n + 1) s].length = (es ++ [setE n (n + 1) s]).length := by simp
  rw [el] at st10
  exact ⟨rfl, a9, c9, (st10.perm (List.Perm.swap _ _ _)).sub (List.sublist_cons_self _ _)⟩
end
theorem node_z1 : (Tryz.prog.info? 127).bind (·.zero) = some (.agg #[]) := rfl
theorem node_z2 : (Tryz.prog.info? 130).bind (·.zero) = some (.agg #[.int .u64 0, .int .u64 0, .int .u64 0, .int .u64 0]) := rfl
theorem node_z3 : (Tryz.prog.info? 132).bind (·.zero) = some (.agg #[.nilIface, .nilIface]) := rfl
theorem node_z4 : (Tryz.prog.info? 163).bind (·.zero) = some (.agg #[.nilIface, .nilIface]) := rfl
theorem node_z5 : (Tryz.prog.info? 165).bind (·.zero) = some (.agg #[.nilIface]) := rfl
set_option maxHeartbeats 16000000 in
theorem part_c {B : Nat → Prop} {H0 : Heap} {bb : Nat} {sub : Value} : ∀ (r : ReM), r.plain = true → ∀ {H : Heap} {rest : List Pc} {n : Nat} {a : Option Addr} {c : Nat} {es : List EdM} (st : StB B H0 H (pB tBd bb (bdL n (.slice a es.length c) sub) :: pS tEd 104 a es.length c es :: rest)), n + stM r ≤ 1000000 → es.length + 2 * stM r ≤ 4000000 →
    FnOk Tryz.prog 44 #[.pointer (some ⟨bb, 0, none⟩), nodeV r] H fun v H' => v = .tuple #[.int .i64 ((bldM r n).1 : Nat), .int .i64 ((bldM r n).2.1 : Nat)] ∧ ∃ a' c', StB B H0 H' (pB tBd bb (bdL (n + stM r) (.slice a' (es ++ (bldM r n).2.2).length c') sub) :: pS tEd 104 a' (es ++ (bldM r n).2.2).length c' (es ++ (bldM r n).2.2) :: rest) := fun r => by
  induction r with
  | eps =>
    intro hpl H rest n a c es st hn hl
    simp only [stM] at hn hl
    refine FnOk.of_vc Tryz.func44 rfl (Tryz.call44 _) ?_
    (conv => whnf); refine fa fl118_2 ?_
    (conv => whnf); refine ld1 (v := .int .i64 0) ct25 (by rw [(st.blk 0 rfl).cell]; rfl) trivial ?_
    (conv => whnf); refine vta_yes Tryz.underlying127 (by intro ms h; cases h) ?_
    (conv => whnf); refine valloc (.agg #[]) [] rfl rfl ?_
    intro x H1 hx hs1 hb1 ha1
    have st1 : StB B H0 H1 (pB 127 x [] :: pB tBd bb (bdL n (.slice a es.length c) sub) :: pS tEd 104 a es.length c es :: rest) := (st.box hx hs1 hb1 ha1).perm (List.perm_append_singleton _ _)
    (conv => whnf); refine stNB (cs := []) st1 0 rfl rfl (Nat.le_refl _) rfl fun H2 st2 => ?_
    have st3 : StB B H0 H2 (pB tBd bb (bdL n (.slice a es.length c) sub) :: pS tEd 104 a es.length c es :: rest) := st2.sub (List.sublist_cons_self _ _)
    (conv => whnf); refine bstate_v st3 (by omega) fun H4 st4 => ?_
    (conv => whnf); refine bstate_v st4 (by omega) fun H5 st5 => ?_
    (conv => whnf); refine bsil_v st5 (by omega) (by omega) (by omega) fun a' c' H6 st6 => ?_
    (conv => whnf)
    exact ⟨rfl, a', c', st6⟩
  | cls s =>
    intro hpl H rest n a c es st hn hl
    simp only [stM] at hn hl
    refine FnOk.of_vc Tryz.func44 rfl (Tryz.call44 _) ?_
    (conv => whnf); refine fa fl118_2 ?_
    (conv => whnf); refine ld1 (v := .int .i64 0) ct25 (by rw [(st.blk 0 rfl).cell]; rfl) trivial ?_
    (conv => whnf); refine vta_no Tryz.underlying127 (by intro ms h; cases h) node_z1 (by decide) ?_
    (conv => whnf); refine vta_yes Tryz.underlying130 (by intro ms h; cases h) ?_
    (conv => whnf); refine valloc _ [.int .u64 0, .int .u64 0, .int .u64 0, .int .u64 0] node_z2 rfl ?_
    intro x H1 hx hs1 hb1 ha1
    have st1 : StB B H0 H1 (pB 130 x [.int .u64 0, .int .u64 0, .int .u64 0, .int .u64 0] :: pB tBd bb (bdL n (.slice a es.length c) sub) :: pS tEd 104 a es.length c es :: rest) := (st.box hx hs1 hb1 ha1).perm (List.perm_append_singleton _ _)
    (conv => whnf); refine stNB (cs := setL s) st1 0 rfl rfl (Nat.le_refl _) rfl fun H2 st2 => ?_
    rw [splice_all (show (setL s).length = 4 from rfl)] at st2
    (conv => whnf); refine fa fl130_0 ?_
    (conv => whnf); refine ldN (cs := setL s) ag102 ((st2.blk 0 rfl).cells fun j v hv => by simpa using hv) trivial ?_
    have st3 : StB B H0 H2 (pB tBd bb (bdL n (.slice a es.length c) sub) :: pS tEd 104 a es.length c es :: rest) := st2.sub (List.sublist_cons_self _ _)
    (conv => whnf); refine btake_v st3 (by omega) (by omega) fun a' c' H4 st4 => ?_
    (conv => whnf)
    exact ⟨rfl, a', c', st4⟩
  | cat r1 r2 ih1 ih2 =>
    intro hpl H rest n a c es st hn hl
    simp only [ReM.plain, Bool.and_eq_true] at hpl
    simp only [stM] at hn hl
    have l1 := bldM_len r1 hpl.1 n
    have l2 := bldM_len r2 hpl.2 (n + stM r1)
    have i1 := bldM_in r1 hpl.1 n
    have i2 := bldM_in r2 hpl.2 (n + stM r1)
    refine FnOk.of_vc Tryz.func44 rfl (Tryz.call44 _) ?_
    (conv => whnf); refine fa fl118_2 ?_
    (conv => whnf); refine ld1 (v := .int .i64 0) ct25 (by rw [(st.blk 0 rfl).cell]; rfl) trivial ?_
    (conv => whnf); refine vta_no Tryz.underlying127 (by intro ms h; cases h) node_z1 (by decide) ?_
    (conv => whnf); refine vta_no Tryz.underlying130 (by intro ms h; cases h) node_z2 (by decide) ?_
    (conv => whnf); refine vta_yes Tryz.underlying132 (by intro ms h; cases h) ?_
    (conv => whnf); refine valloc _ [.nilIface, .nilIface] node_z3 rfl ?_
    intro x H1 hx hs1 hb1 ha1
    have st1 : StB B H0 H1 (pB 132 x [.nilIface, .nilIface] :: pB tBd bb (bdL n (.slice a es.length c) sub) :: pS tEd 104 a es.length c es :: rest) := (st.box hx hs1 hb1 ha1).perm (List.perm_append_singleton _ _)
    (conv => whnf); refine stNB (cs := [nodeV r1, nodeV r2]) st1 0 rfl rfl (Nat.le_refl _) (by simp [nodeV_one]) fun H2 st2 => ?_
    rw [splice_all (show [nodeV r1, nodeV r2].length = 2 from rfl)] at st2
    (conv => whnf); refine fa fl132_0 ?_
    (conv => whnf); refine ld1 (v := nodeV r1) ct24 (by rw [(st2.blk 0 rfl).cell]; rfl) trivial ?_
    have st3 : StB B H0 H2 (pB tBd bb (bdL n (.slice a es.length c) sub) :: pS tEd 104 a es.length c es :: pB 132 x [nodeV r1, nodeV r2] :: rest) := st2.pickN 3 [1, 2, 0] (by decide)
    (conv => whnf); refine VCall.mk (ih1 hpl.1 st3 (by omega) (by omega)) ?_
    rintro _ H4 ⟨rfl, a4, c4, st4⟩
    (conv => whnf); refine fa fl132_1 ?_
    (conv => whnf); refine ld1 (v := nodeV r2) ct24 (by rw [(st4.blk 2 rfl).cell]; rfl) trivial ?_
    (conv => whnf); refine VCall.mk (ih2 hpl.2 st4 (by omega) (by rw [List.length_append]; omega)) ?_
    rintro _ H5 ⟨rfl, a5, c5, st5⟩
    (conv => whnf); refine bsil_v st5 (by omega) (by omega) (by rw [List.length_append, List.length_append]; omega) fun a6 c6 H6 st6 => ?_
    (conv => whnf)
    have e1 : es ++ (bldM r1 n).2.2 ++ (bldM r2 (n + stM r1)).2.2 ++ [silE (bldM r1 n).2.1 (bldM r2 (n + stM r1)).1] = es ++ (bldM (.cat r1 r2) n).2.2 := by simp [bldM]
    rw [e1, Nat.add_assoc] at st6
    exact ⟨rfl, a6, c6, st6.pickN 3 [0, 1] (by decide)⟩
  | alt r1 r2 ih1 ih2 =>
    intro hpl H rest n a c es st hn hl
    simp only [ReM.plain, Bool.and_eq_true] at hpl
    simp only [stM] at hn hl
    have l1 := bldM_len r1 hpl.1 (n + 1)
    have l2 := bldM_len r2 hpl.2 (n + 1 + stM r1)
    have i1 := bldM_in r1 hpl.1 (n + 1)
    have i2 := bldM_in r2 hpl.2 (n + 1 + stM r1)
    refine FnOk.of_vc Tryz.func44 rfl (Tryz.call44 _) ?_
    (conv => whnf); refine fa fl118_2 ?_
    (conv => whnf); refine ld1 (v := .int .i64 0) ct25 (by rw [(st.blk 0 rfl).cell]; rfl) trivial ?_
    (conv => whnf); refine vta_no Tryz.underlying127 (by intro ms h; cases h) node_z1 (by decide) ?_
    (conv => whnf); refine vta_no Tryz.underlying130 (by intro ms h; cases h) node_z2 (by decide) ?_
    (conv => whnf); refine vta_no Tryz.underlying132 (by intro ms h; cases h) node_z3 (by decide) ?_
    (conv => whnf); refine vta_yes Tryz.underlying163 (by intro ms h; cases h) ?_
    (conv => whnf); refine valloc _ [.nilIface, .nilIface] node_z4 rfl ?_
    intro x H1 hx hs1 hb1 ha1
    have st1 : StB B H0 H1 (pB 163 x [.nilIface, .nilIface] :: pB tBd bb (bdL n (.slice a es.length c) sub) :: pS tEd 104 a es.length c es :: rest) := (st.box hx hs1 hb1 ha1).perm (List.perm_append_singleton _ _)
    (conv => whnf); refine stNB (cs := [nodeV r1, nodeV r2]) st1 0 rfl rfl (Nat.le_refl _) (by simp [nodeV_one]) fun H2 st2 => ?_
    rw [splice_all (show [nodeV r1, nodeV r2].length = 2 from rfl)] at st2
    have st3 : StB B H0 H2 (pB tBd bb (bdL n (.slice a es.length c) sub) :: pS tEd 104 a es.length c es :: pB 163 x [nodeV r1, nodeV r2] :: rest) := st2.pickN 3 [1, 2, 0] (by decide)
    (conv => whnf); refine bstate_v st3 (by omega) fun H4 st4 => ?_
    (conv => whnf); refine fa fl163_0 ?_
    (conv => whnf); refine ld1 (v := nodeV r1) ct24 (by rw [(st4.blk 2 rfl).cell]; rfl) trivial ?_
    (conv => whnf); refine VCall.mk (ih1 hpl.1 st4 (by omega) (by omega)) ?_
    rintro _ H5 ⟨rfl, a5, c5, st5⟩
    (conv => whnf); refine fa fl163_1 ?_
    (conv => whnf); refine ld1 (v := nodeV r2) ct24 (by rw [(st5.blk 2 rfl).cell]; rfl) trivial ?_
    (conv => whnf); refine VCall.mk (ih2 hpl.2 st5 (by omega) (by rw [List.length_append]; omega)) ?_
    rintro _ H6 ⟨rfl, a6, c6, st6⟩
    (conv => whnf); refine bstate_v st6 (by omega) fun H7 st7 => ?_
    (conv => whnf); refine bsil_v st7 (by omega) (by omega) (by simp only [List.length_append]; omega) fun a8 c8 H8 st8 => ?_
    (conv => whnf); refine bsil_v st8 (by omega) (by omega) (by simp only [List.length_append, List.length_cons, List.length_nil]; omega) fun a9 c9 H9 st9 => ?_
    (conv => whnf); refine bsil_v st9 (by omega) (by omega) (by simp only [List.length_append, List.length_cons, List.length_nil]; omega) fun a10 c10 H10 st10 => ?_
    (conv => whnf); refine bsil_v st10 (by omega) (by omega) (by simp only [List.length_append, List.length_cons, List.length_nil]; omega) fun a11 c11 H11 st11 => ?_
    (conv => whnf)
    have e1 : es ++ (bldM r1 (n + 1)).2.2 ++ (bldM r2 (n + 1 + stM r1)).2.2 ++ [silE n (bldM r1 (n + 1)).1] ++ [silE n (bldM r2 (n + 1 + stM r1)).1] ++ [silE (bldM r1 (n + 1)).2.1 (n + 1 + stM r1 + stM r2)] ++ [silE (bldM r2 (n + 1 + stM r1)).2.1 (n + 1 + stM r1 + stM r2)] = es ++ (bldM (.alt r1 r2) n).2.2 := by simp [bldM]
    rw [e1, show n + 1 + stM r1 + stM r2 + 1 = n + stM (.alt r1 r2) by simp only [stM]; omega] at st11
    exact ⟨rfl, a11, c11, st11.pickN 3 [0, 1] (by decide)⟩
  | star r1 ih1 =>
    intro hpl H rest n a c es st hn hl
    have hpl1 : r1.plain = true := hpl
    simp only [stM] at hn hl
    have l1 := bldM_len r1 hpl1 (n + 1)
    have i1 := bldM_in r1 hpl1 (n + 1)
    refine FnOk.of_vc Tryz.func44 rfl (Tryz.call44 _) ?_
    (conv => whnf); refine fa fl118_2 ?_
    (conv => whnf); refine ld1 (v := .int .i64 0) ct25 (by rw [(st.blk 0 rfl).cell]; rfl) trivial ?_
    (conv => whnf); refine vta_no Tryz.underlying127 (by intro ms h; cases h) node_z1 (by decide) ?_
    (conv => whnf); refine vta_no Tryz.underlying130 (by intro ms h; cases h) node_z2 (by decide) ?_
    (conv => whnf); refine vta_no Tryz.underlying132 (by intro ms h; cases h) node_z3 (by decide) ?_
    (conv => whnf); refine vta_no Tryz.underlying163 (by intro ms h; cases h) node_z4 (by decide) ?_
    (conv => whnf); refine vta_yes Tryz.underlying165 (by intro ms h; cases h) ?_
    (conv => whnf); refine valloc _ [.nilIface] node_z5 rfl ?_
    intro x H1 hx hs1 hb1 ha1
    have st1 : StB B H0 H1 (pB 165 x [.nilIface] :: pB tBd bb (bdL n (.slice a es.length c) sub) :: pS tEd 104 a es.length c es :: rest) := (st.box hx hs1 hb1 ha1).perm (List.perm_append_singleton _ _)
    (conv => whnf); refine stNB (cs := [nodeV r1]) st1 0 rfl rfl (Nat.le_refl _) (by simp [nodeV_one]) fun H2 st2 => ?_
    rw [splice_all (show [nodeV r1].length = 1 from rfl)] at st2
    have st3 : StB B H0 H2 (pB tBd bb (bdL n (.slice a es.length c) sub) :: pS tEd 104 a es.length c es :: pB 165 x [nodeV r1] :: rest) := st2.pickN 3 [1, 2, 0] (by decide)
    (conv => whnf); refine bstate_v st3 (by omega) fun H4 st4 => ?_
    (conv => whnf); refine fa fl165_0 ?_
    (conv => whnf); refine ld1 (v := nodeV r1) ct24 (by rw [(st4.blk 2 rfl).cell]; rfl) trivial ?_
    (conv => whnf); refine VCall.mk (ih1 hpl1 st4 (by omega) (by omega)) ?_
    rintro _ H5 ⟨rfl, a5, c5, st5⟩
    (conv => whnf); refine bstate_v st5 (by omega) fun H7 st7 => ?_
    (conv => whnf); refine bsil_v st7 (by omega) (by omega) (by simp only [List.length_append]; omega) fun a8 c8 H8 st8 => ?_
    (conv => whnf); refine bsil_v st8 (by omega) (by omega) (by simp only [List.length_append, List.length_cons, List.length_nil]; omega) fun a9 c9 H9 st9 => ?_
    (conv => whnf); refine bsil_v st9 (by omega) (by omega) (by simp only [List.length_append, List.length_cons, List.length_nil]; omega) fun a10 c10 H10 st10 => ?_
    (conv => whnf); refine bsil_v st10 (by omega) (by omega) (by simp only [List.length_append, List.length_cons, List.length_nil]; omega) fun a11 c11 H11 st11 => ?_
    (conv => whnf)
    have e1 : es ++ (bldM r1 (n + 1)).2.2 ++ [silE n (bldM r1 (n + 1)).1] ++ [silE n (n + 1 + stM r1)] ++ [silE (bldM r1 (n + 1)).2.1 (bldM r1 (n + 1)).1] ++ [silE (bldM r1 (n + 1)).2.1 (n + 1 + stM r1)] = es ++ (bldM (.star r1) n).2.2 := by simp [bldM]
    rw [e1, show n + 1 + stM r1 + 1 = n + stM (.star r1) by simp only [stM]; omega] at st11
    exact ⟨rfl, a11, c11, st11.pickN 3 [0, 1] (by decide)⟩
  | and_ => intro h; cases h
  | minus => intro h; cases h
end Go.Proofs.YtlnmhfhdjnenoaaGreatDoor
/- Regions whose order is open, with operations under conditions. -/
set_option linter.unusedVariables false
set_option linter.unusedSimpArgs false
namespace Go.VC
/-- An operation's condition: what is asked where it is wanted, and where it isn't. -/
def whenK (all : List Oper) (o : Oper) (fr : Fr) (yes no : Fr → Prop) : Prop :=
  match o.guard with
  | none => yes fr
  | some (j, want) => match (all[j]?).bind (·.dst) with
    | none => False
    | some t => rdK fr t fun v => match v with
      | .bool b => VIte b
        (wrK fr t (.bool true) fun fr1 => match want with
          | true => yes fr1
          | false => no fr1)
        (wrK fr t (.bool false) fun fr1 => match want with
          | false => yes fr1
          | true => no fr1)
      | .tuple _ => no fr
      | _ => False
theorem whenK_sound {all : List Oper} {o : Oper} {fr : Fr} {a : Act} {yes no : Fr → Prop} (hat : At fr a) (h : whenK all o fr yes no) :
    (Region.wanted o (yielded all.toArray a.tmps) = true ∧ yes fr) ∨ (Region.wanted o (yielded all.toArray a.tmps) = false ∧ no fr) := by
  unfold whenK at h
  split at h
  · rename_i hg
    exact .inl ⟨by simp [Region.wanted, hg], h⟩
  · rename_i j want hg
    split at h
    · exact h.elim
    · rename_i t ht
      rw [rdK_eq] at h
      split at h
      · rename_i b hb
        have hy := yielded_at hat ht hb
        have hs : fr.set t (.bool b) = fr := rd_set_self hb (by simp [undef])
        cases b <;> cases want <;> simp only [VIte, wrK_eq, hs] at h
        · exact .inl ⟨by simp [Region.wanted, hg, hy], h⟩
        · exact .inr ⟨by simp [Region.wanted, hg, hy], h⟩
        · exact .inr ⟨by simp [Region.wanted, hg, hy], h⟩
        · exact .inl ⟨by simp [Region.wanted, hg, hy], h⟩
      · rename_i vs hb
        exact .inr ⟨by simp [Region.wanted, hg, yielded_no hat ht hb], h⟩
      · exact h.elim
def skipG (o : Oper) (H : Heap) (K : Fr → Heap → Prop) (fr : Fr) : Prop := putK o.dst fr undef fun fr' => apK K fr' H
def quietG (P : Program) (S : Nat → Prop) (o : Oper) (H : Heap) (K : Fr → Heap → Prop) (fr : Fr) : Prop :=
  match isDet o && convDet P o with
  | true => detK P S o fr H fun v => putK o.dst fr v fun fr' => apK K fr' H
  | false => False
def doG (P : Program) (S : Nat → Prop) (z : Bool) (H0 : Heap) (o : Oper) (H : Heap) (K : Fr → Heap → Prop) (fr : Fr) : Prop :=
  match z with
  | true => opK P false (fun _ => True) o fr H fun v H' => putK o.dst fr v fun fr' => apK K fr' H'
  | false => opK P false (fun _ => True) o fr H fun v H' => Agr S H0 H' ∧ putK o.dst fr v fun fr' => apK K fr' H'
def stepG (P : Program) (S : Nat → Prop) (Z : List Nat) (H0 : Heap) (all : List Oper) (i : Nat) (fr : Fr) (H : Heap) (next : Fr → Heap → Prop) : Prop :=
  match all[i]? with
  | none => False
  | some o => whenK all o fr (doG P S (Z.contains i) H0 o H next) (skipG o H next)
def heldG (P : Program) (S : Nat → Prop) (Z : List Nat) (H0 : Heap) (all : List Oper) (s : Sch) : Fr → Heap → (Fr → Heap → Prop) → Prop :=
  Sch.rec (motive := fun _ => Fr → Heap → (Fr → Heap → Prop) → Prop) (fun fr H K => K fr H)
    (fun i _ ih fr H K => match all[i]? with
      | none => False
      | some o => whenK all o fr (quietG P S o H fun fr' H' => ih fr' H' K) (skipG o H fun fr' H' => ih fr' H' K))
    (fun i _ ih fr H K => stepG P S Z H0 all i fr H fun fr' H' => ih fr' H' K)
    (fun i _ j _ ih ih' fr H K => (stepG P S Z H0 all i fr H fun fr' H' => ih fr' H' K) ∧ stepG P S Z H0 all j fr H fun fr' H' => ih' fr' H' K) s
theorem heldG_q (P : Program) (S : Nat → Prop) (Z : List Nat) (H0 : Heap) (all : List Oper) (i : Nat) (s : Sch) (fr : Fr) (H : Heap) (K : Fr → Heap → Prop) : heldG P S Z H0 all (.q i s) fr H K =
    (match all[i]? with
      | none => False
      | some o => whenK all o fr (quietG P S o H fun fr' H' => heldG P S Z H0 all s fr' H' K) (skipG o H fun fr' H' => heldG P S Z H0 all s fr' H' K)) := rfl
theorem stepG_sound {P : Program} {S : Nat → Prop} {Z : List Nat} {w0 : World} {all : List Oper} {Q : Exit → Act → World → Prop} {i : Nat} {fr : Fr} {a : Act} {w : World} {next : Fr → Heap → Prop} {N : Act → World → Prop}
    (hat : At fr a) (hc : Env w0 w) (hcl : Z.contains i = false → Cls w0 S w) (h : stepG P S Z w0.heap all i fr w.heap next)
    (hn : ∀ fr' a' w', At fr' a' → Env w0 w' → (Z.contains i = false → Cls w0 S w') → next fr' w'.heap → N a' w') : wpOp P all.toArray Q i N a w := by
  unfold stepG at h
  split at h
  · exact h.elim
  · rename_i o ho
    have ho' : all.toArray[i]? = some o := by simpa using ho
    rcases whenK_sound hat h with ⟨hwant, h⟩ | ⟨hwant, h⟩
    · unfold wpOp
      rw [ho']
      dsimp only
      rw [if_pos hwant]
      unfold doG at h
      split at h
      · rename_i hz
        refine .inl (Oper.wp_mono ?_ (opK_sound hat h _))
        rintro a' w' ⟨v, rfl, henv, hk⟩
        rw [putK_eq] at hk
        exact hn _ _ _ (hat.put o.dst v) (hc.trans henv) (fun hne => by rw [hz] at hne; cases hne) hk
      · refine .inl (Oper.wp_mono ?_ (opK_sound hat h _))
        rintro a' w' ⟨v, rfl, henv, hagr, hk⟩
        rw [putK_eq] at hk
        exact hn _ _ _ (hat.put o.dst v) (hc.trans henv) (fun _ => ⟨hc.trans henv, hagr⟩) hk
    · unfold wpOp
      rw [ho']
      dsimp only
      rw [if_neg (by rw [hwant]; exact Bool.false_ne_true)]
      unfold skipG at h
      rw [putK_eq] at h
      exact hn _ _ _ (hat.put o.dst undef) hc hcl h
theorem heldG_sound {P : Program} {S : Nat → Prop} {Z : List Nat} {w0 : World} {all : List Oper} {Q : Exit → Act → World → Prop} (hs : Region.noSelect all.toArray = true)
    (hp : ∀ c a w, ¬ Q (.panic c) a w) : ∀ (l : Sch) (listed : Array Bool) (fr : Fr) (a : Act) (w : World) (K : Fr → Heap → Prop), At fr a → Env w0 w → (zAll Z l = false → Cls w0 S w) → Shut all.toArray listed →
    (∀ fr' a' w', At fr' a' → Env w0 w' → K fr' w'.heap → Q .normal a' w') → heldBZ all.toArray Z l listed = true → l.even = true →
    heldG P S Z w0.heap all l fr w.heap K → wpAnyZ P all.toArray Q (Cls w0 S) Z l.len listed a w
  | .e, listed, fr, a, w, K, hat, he, _, _, hq, hB, _, h => ⟨by simpa [heldBZ] using hB, hq fr a w hat he h⟩
  | .q i s, listed, fr, a, w, K, hat, he, hc, hsh, hq, hB, hev, h => by
    have hc := hc rfl
    simp only [heldBZ, Bool.and_eq_true, Bool.not_eq_true', List.all_eq_true] at hB
    obtain ⟨⟨⟨⟨b1, b2⟩, b3⟩, b4⟩, hB2⟩ := hB
    rw [heldG_q] at h
    split at h
    · exact h.elim
    · rename_i o ho
      have ho' : all.toArray[i]? = some o := by simpa using ho
      have hri : i ∈ Region.ready .any all.toArray listed := by simpa using b1
      rcases whenK_sound hat h with ⟨hwant, h⟩ | ⟨hwant, h⟩
      · unfold quietG at h
        split at h
        · obtain ⟨v, hv, hk⟩ := detK_sound h
          rw [putK_eq] at hk
          refine wpAnyZ_first (v := v) (f := all.toArray.size) ho' (Region.noSelect_spec hs) (fun c a' w' hh => (hp _ _ _ hh).elim) b3 (fun j hj => b4 j (by simpa using hj)) s.len listed a w hsh (Region.free_spec ho' b2) hri
            (.inl ⟨hwant, fun w' hw' => ?_⟩) hc ?_
          · rw [hat.evalF]
            exact hv w' fun k hk => (hw'.2 k hk).trans (hc.2 k hk).symm
          · exact heldG_sound hs hp s _ _ _ w K (hat.put o.dst v) he (fun _ => hc) (hsh.put hri) hq hB2 hev hk
        · exact h.elim
      · unfold skipG at h
        rw [putK_eq] at h
        exact wpAnyZ_first (v := undef) (f := all.toArray.size) ho' (Region.noSelect_spec hs) (fun c a' w' hh => (hp _ _ _ hh).elim) b3 (fun j hj => b4 j (by simpa using hj)) s.len listed a w hsh (Region.free_spec ho' b2) hri
          (.inr ⟨hwant, rfl⟩) hc (heldG_sound hs hp s _ _ _ w K (hat.put o.dst undef) he (fun _ => hc) (hsh.put hri) hq hB2 hev h)
  | .f i s, listed, fr, a, w, K, hat, he, hc, hsh, hq, hB, hev, h => by
    simp only [heldBZ, Bool.and_eq_true, Bool.or_eq_true, Bool.not_eq_true', beq_iff_eq] at hB
    obtain ⟨⟨b1, b2⟩, hB2⟩ := hB
    refine ⟨(fun h0 => by rw [b1] at h0; cases h0), fun j hj => ?_⟩
    have hj0 := hj
    rw [b1] at hj
    obtain rfl : j = i := by simpa using hj
    refine stepG_sound hat he (fun hz => hc (by simp only [zAll, hz, Bool.false_and])) h fun fr' a' w' h1 h2 h3 h4 => ⟨h3, heldG_sound hs hp s _ _ _ w' K h1 h2 (fun hz => ?_) (hsh.put hj0) hq hB2 hev h4⟩
    rcases b2 with b2 | b2
    · exact h3 b2
    · rw [b2] at hz; cases hz
  | .b i s j s', listed, fr, a, w, K, hat, he, hc, hsh, hq, hB, hev, h => by
    simp only [heldBZ, Bool.and_eq_true, Bool.or_eq_true, Bool.not_eq_true', beq_iff_eq] at hB
    obtain ⟨⟨⟨b1, b2⟩, hB2⟩, hB3⟩ := hB
    simp only [Sch.even, Bool.and_eq_true, beq_iff_eq] at hev
    obtain ⟨⟨e1, e2⟩, e3⟩ := hev
    refine ⟨(fun h0 => by rw [b1] at h0; cases h0), fun k hk => ?_⟩
    have hk0 := hk
    rw [b1] at hk
    rcases List.mem_cons.1 hk with rfl | hk
    · refine stepG_sound hat he (fun hz => hc (by simp only [zAll, hz, Bool.false_and])) h.1 fun fr' a' w' h1 h2 h3 h4 => ⟨h3, heldG_sound hs hp s _ _ _ w' K h1 h2 (fun hz => ?_) (hsh.put hk0) hq hB2 e1 h4⟩
      rcases b2 with b2 | b2
      · exact h3 b2.1
      · rw [b2.1] at hz; cases hz
    · obtain rfl : k = j := by simpa using hk
      rw [e3]
      refine stepG_sound hat he (fun hz => hc (by simp only [zAll, hz, Bool.and_false, Bool.false_and])) h.2 fun fr' a' w' h1 h2 h3 h4 => ⟨h3, heldG_sound hs hp s' _ _ _ w' K h1 h2 (fun hz => ?_) (hsh.put hk0) hq hB3 e2 h4⟩
      rcases b2 with b2 | b2
      · exact h3 b2.2
      · rw [b2.2] at hz; cases hz
theorem VDraw.heldG {P : Program} {l : List Oper} {fr : Fr} {H : Heap} {K : Fr → Heap → Prop} (S : Nat → Prop) (Z : List Nat) (sched : Sch) (hm : P.follows .mixedOrders = true)
    (hB : (Region.noSelect l.toArray && (sched.len == l.length) && sched.even && heldBZ l.toArray Z sched (Array.replicate l.length false)) = true)
    (h : VC.heldG P S Z H l sched fr H K) : VDraw P l fr H K := by
  refine ⟨?_⟩
  intro id Q a w hat hw hp hq
  subst hw
  simp only [Bool.and_eq_true, beq_iff_eq] at hB
  refine wp_region_any hm (wpAny_of_Z (S := Cls w S) (Z := Z) _ _ _ _ ?_)
  have hsh : Shut l.toArray (Array.replicate l.length false) := fun j o _ hj => by
    rw [Array.getD_eq_getD_getElem?, Array.getElem?_replicate] at hj
    split at hj <;> simp at hj
  have := heldG_sound (P := P) (S := S) (Z := Z) (w0 := w) (Q := Q) hB.1.1.1 hp sched (Array.replicate l.length false) fr a { w with drawn := w.drawn + 1 } K hat ⟨rfl, rfl, rfl⟩ (fun _ => ⟨⟨rfl, rfl, rfl⟩, Agr.refl _ _⟩) hsh hq hB.2 hB.1.2 h
  rw [hB.1.1.2] at this
  simpa using this
end Go.VC
/- nfa.ways, nfa.settle: the walks. -/
set_option linter.unusedVariables false
set_option linter.unusedSimpArgs false
set_option maxRecDepth 100000
namespace Go.VC
/-- What a call has left as1 a piece. -/
theorem StB.addSt {B : Nat → Prop} {H0 H H' : Heap} {ps : List Pc} {p : Pc} (st : StB B H0 H ps) (st' : St H H' [p]) : StB B H0 H' (ps ++ [p]) :=
  st.add st'.old p (st'.at_ 0 rfl) fun k hk => ⟨st'.ge 0 rfl hk, (st'.in_ 0 rfl hk).2⟩
end Go.VC
namespace Go.Proofs.YtlnmhfhdjnenoaaGreatDoor
open Go.VC
theorem mapEd : MapTW Tryz.prog 147 3 35 (.slice none 0 0) := ⟨rfl, rfl⟩
/-- The edges that leave q. -/
def outP (a : NfM) (q : Int) (e : EdM) : Bool := a.has e.fr && a.has e.to && decide (e.fr = q)
def outTo (a : NfM) (k : Nat) (q : Int) : List EdM := (a.edges.take k).filter (outP a q)
def outE (a : NfM) (q : Int) : List EdM := a.edges.filter (outP a q)
theorem outTo_all (a : NfM) : outTo a a.edges.length = outE a := by funext q; unfold outTo outE; rw [List.take_length]
theorem outTo_len (a : NfM) (k : Nat) (q : Int) : (outTo a k q).length ≤ k := Nat.le_trans (List.length_filter_le _ _) (List.length_take_le _ _)
theorem outTo_yes {a : NfM} {k : Nat} {e : EdM} (he : a.edges[k]? = some e) (h1 : a.has e.fr = true) (h2 : a.has e.to = true) : upd (outTo a k) e.fr (outTo a k e.fr ++ [e]) = outTo a (k + 1) := by
  funext q
  unfold outTo
  rw [take_succ_snoc he, List.filter_append]
  by_cases hq : q = e.fr
  · subst hq
    rw [upd_self]
    simp [outP, h1, h2]
  · rw [upd_ne hq]
    simp [outP, h1, h2, Ne.symm hq]
theorem outTo_no {a : NfM} {k : Nat} {e : EdM} (he : a.edges[k]? = some e) (h : (a.has e.fr && a.has e.to) = false) : outTo a k = outTo a (k + 1) := by
  funext q
  unfold outTo
  rw [take_succ_snoc he, List.filter_append]
  simp [outP, h]
theorem outE_mem {a : NfM} {q : Int} {e : EdM} : e ∈ outE a q ↔ e ∈ a.edges ∧ a.has e.fr = true ∧ a.has e.to = true ∧ e.fr = q := by
  unfold outE outP
  simp [List.mem_filter, and_assoc]
set_option maxHeartbeats 4000000 in
theorem ways_c {S : Nat → Prop} {H : Heap} {v : Value} {a : NfM} (hS : ∀ k, S k → k < H.size) (h : NfV S H v a) :
    FnOk Tryz.prog 63 #[v] H fun r H' => ∃ mb m, r = .map (some mb) ∧ St H H' [pMQ anyK kI tEd 104 mb m (outE a)] := by
  have hr := h.1
  have hl := h.2.1
  refine FnOk.of_vc Tryz.func63 rfl (Tryz.call63 _) ?_
  (conv => whnf); refine nf_box h fun ea ec he h1 => ?_
  subst he
  intro p H1 hp hs1 hb1 ha1
  have st1 := (St.nil H).box hp hs1 hb1 ha1
  (conv => whnf); refine mmakeW (Ok := anyK) (enc := kI) fun mb H2 hb2 hs2 hm2 ha2 => ?_
  have st2 := (st1.mapNewW hb2 hs2 hm2 ha2).mqNew (T := tEd) (e := 104) 1 rfl
  (conv => whnf); refine fa fl37_3 ?_
  (conv => whnf); refine ld1 (v := .slice ea a.edges.length ec) ct35 (by rw [(st2.blk 0 rfl).cell]; rfl) trivial ?_
  (conv => whnf)
  refine VLoop.mk [10] (fun k : Nat => [.int .i64 (k : Int)]) (fun k H5 => k ≤ a.edges.length ∧ ∃ m, St H H5 [pB 37 p (nfL a (.slice ea a.edges.length ec)), pMQ anyK kI tEd 104 mb m (outTo a k)]) (fun k _ => a.edges.length - k) ?_ ?_
  · (conv => whnf)
    exact ⟨0, rfl, Nat.zero_le _, _, st2⟩
  · rintro k H5 junk ⟨hk, m, st⟩
    (conv => whnf); refine VIte.mk (fun hz => ?_) (fun hz => ?_) <;> simp only [decide_eq_true_eq, decide_eq_false_iff_not] at hz
    · obtain ⟨e, he⟩ := get_some (l := a.edges) (k := k) (by omega)
      have hlen := outTo_len a k e.fr
      (conv => whnf); refine VSeq.run ?_
      (conv => whnf); refine ixr (i := k) sl35 (h1.frame (st.old.mono hS)) he rfl ?_
      rintro b6 o6 c6 hS6 hc6 ⟨rfl, hok⟩
      (conv => whnf); refine ldN (cs := edL e) ag104 hc6 trivial ?_
      (conv => whnf); refine valloc _ [.int .i64 0, .int .i64 0, .bool false, .int .u64 0, .int .u64 0, .int .u64 0, .int .u64 0] edge_z rfl ?_
      intro x H6 hx hs6 hb6 ha6
      have st6 := st.box hx hs6 hb6 ha6
      (conv => whnf); refine stNB (cs := edL e) st6 2 rfl rfl (Nat.le_refl _) rfl fun H7 st7 => ?_
      rw [splice_all (show (edL e).length = 7 from rfl)] at st7
      have hbx := st7.blk 2 rfl
      have h17 := h1.frame (st7.old.mono hS)
      (conv => whnf); refine nf_load hr hl (st7.blk 0 rfl) ag37 trivial h17 fun v8 hv8 => ?_
      (conv => whnf); refine fa fl104_0 ?_
      (conv => whnf); refine ld1 (v := .int .i64 e.fr) ct3 (by rw [hbx.cell]; rfl) trivial ?_
      (conv => whnf); refine pures (has_p hv8) fun H8 ha8 => ?_
      have st8 := st7.call ha8
      have skip : ∀ {H' : Heap}, (a.has e.fr && a.has e.to) = false → St H H' [pB 37 p (nfL a (.slice ea a.edges.length ec)), pMQ anyK kI tEd 104 mb m (outTo a k), pB 104 x (edL e)] →
          ∃ y : Nat, [Value.int .i64 ((k : Int) + 1)] = [.int .i64 (y : Int)] ∧ (y ≤ a.edges.length ∧ ∃ m, St H H' [pB 37 p (nfL a (.slice ea a.edges.length ec)), pMQ anyK kI tEd 104 mb m (outTo a y)]) ∧ a.edges.length - y < a.edges.length - k := fun hno st' =>
        ⟨k + 1, by simp, ⟨by omega, m, by rw [← outTo_no he hno]; exact st'.pick [0, 1] (by decide)⟩, by omega⟩
      cases hfr : a.has e.fr with
      | false =>
        (conv => whnf); rw [w64 (x := (k : Int) + 1) (by omega) (by omega)]
        exact ⟨rfl, skip (by rw [hfr]; rfl) st8⟩
      | true =>
        have hb8 := st8.blk 2 rfl
        have h18 := h1.frame (st8.old.mono hS)
        (conv => whnf); refine nf_load hr hl (st8.blk 0 rfl) ag37 trivial h18 fun v9 hv9 => ?_
        (conv => whnf); refine fa fl104_1 ?_
        (conv => whnf); refine ld1 (v := .int .i64 e.to) ct3 (by rw [hb8.cell]; rfl) trivial ?_
        (conv => whnf); refine pures (has_p hv9) fun H9 ha9 => ?_
        have st9 := st8.call ha9
        cases hto : a.has e.to with
        | false =>
          (conv => whnf); rw [w64 (x := (k : Int) + 1) (by omega) (by omega)]
          exact ⟨rfl, skip (by rw [hfr, hto]; rfl) st9⟩
        | true =>
          have hb9 := st9.blk 2 rfl
          obtain ⟨-, -, -, hself⟩ := st9.at_ 1 rfl
          have hbl : x < H9.size ∧ ¬ slB (slAt m e.fr) x := ⟨(st9.in_ 2 rfl rfl).2, fun hs => st9.apart2 (i := 1) (j := 2) rfl rfl (by decide) x (.inr ⟨e.fr, hs⟩) rfl⟩
          (conv => whnf); refine VDraw.heldZ (fun k => k < H9.size ∧ ¬ slB (slAt m e.fr) k) [10] (sq [0,1,2,3,4,5,6,7] (.f 8 (.f 9 (.f 10 .e)))) rfl (by kernel_rfl) ?_
          (conv => whnf); refine fa fl104_0 ?_
          (conv => whnf); refine ld1 (v := .int .i64 e.fr) ct3 (by rw [hb9.cell]; rfl) hbl ?_
          (conv => whnf); refine fa fl104_0 ?_
          (conv => whnf); refine ld1 (v := .int .i64 e.fr) ct3 (by rw [hb9.cell]; rfl) hbl ?_
          (conv => whnf); refine mlookW mapEd keyIW trivial (st9.mqMap 1 rfl) ⟨(st9.in_ 1 rfl (.inl rfl)).2, hself e.fr⟩ ?_
          (conv => whnf); refine ldN (cs := edL e) ag104 (hb9.cells fun j v hv => by rw [Nat.zero_add]; exact hv) hbl ?_
          (conv => whnf); refine vbuild1 sl35 (edL e) rfl rfl (by decide) (by decide) ?_
          intro y H10 hy hs10 hb10 ha10
          refine ⟨ha10.mono fun k hk => by have := hk.1; omega, ?_⟩
          have st10 := (st9.skip hy ha10).mqOut 1 rfl e.fr
          (conv => whnf); refine appQo (ys := [e]) st10 1 sl35 rfl (hb10.cells (o := 0) (cs := edL e) fun j v hv => by rw [Nat.zero_add]; exact hv) (Ty.reps_one ⟨rfl, hok⟩) rfl (fun u hu => List.all_eq_true.1 (ed_ones e) u hu) (by simp; unfold maxLen; omega) (by simp; omega) fun v11 H11 st11 ha11 => ?_
          refine ⟨(ha10.mono fun k hk => by have := hk.1; omega).trans (ha11.mono fun k hk => ⟨by have := hk.1; omega, hk.2⟩), ?_⟩
          (conv => whnf); refine mputQo st11 1 mapEd keyIW trivial rfl fun m' H12 st12 => ?_
          rw [outTo_yes he hfr hto] at st12
          (conv => whnf); rw [w64 (x := (k : Int) + 1) (by omega) (by omega)]
          exact ⟨rfl, k + 1, by simp, ⟨by omega, m', st12.pick [0, 1] (by decide)⟩, by omega⟩
    · obtain rfl : k = a.edges.length := by omega
      rw [outTo_all] at st
      (conv => whnf)
      exact ⟨mb, m, rfl, st.pick [1] (by decide)⟩
/-! ### settle -/
/-- The map of the edges, to be read. -/
structure FromV (B : Nat → Prop) (H0 : Heap) (mb : Nat) (a : NfM) : Prop where
  ex : ∃ m, MapW anyK kI H0 mb m ∧ ∀ q, ∃ ad cap, slAt m q = .slice ad (outE a q).length cap ∧ SlD tEd B H0 ad cap (outE a q)
  at_ : B mb
theorem FromV.ofSt {B : Nat → Prop} {H0 H : Heap} {ps : List Pc} {mb : Nat} {m : Int → Option Value} {a : NfM} (st : StB B H0 H ps) (i : Nat) (hp : ps[i]? = some (pMQ anyK kI tEd 104 mb m (outE a))) : FromV (Old H) H mb a :=
  ⟨⟨m, st.mqMap i hp, fun q => st.mqView i hp q⟩, (st.in_ i hp (.inl rfl)).2⟩
structure StlR (a : NfM) (X : PS) (q : Int) (Y : PS) : Prop where
  sub : ∀ p, X p → Y p
  own : Y q
  new : ∀ p, Y p → X p ∨ Sils a q p
  shut : ∀ p, Y p → ¬ X p → ∀ e ∈ a.edges, e.sil = true → e.fr = p → a.has e.to = true → Y e.to
open Classical in
noncomputable def mss (X : PS) : Nat := (lstS fun p => ¬ X p).length
theorem flt_le {p q : Int → Bool} : ∀ (l : List Int), (∀ x, p x = true → q x = true) → (l.filter p).length ≤ (l.filter q).length
  | [], _ => Nat.le_refl _
  | x :: l, h => by
    have ih := flt_le l h
    cases hp : p x with
    | true => rw [List.filter_cons_of_pos hp, List.filter_cons_of_pos (h x hp), List.length_cons, List.length_cons]; omega
    | false =>
      rw [List.filter_cons_of_neg (by rw [hp]; decide)]
      cases hq : q x with
      | true => rw [List.filter_cons_of_pos hq, List.length_cons]; omega
      | false => rw [List.filter_cons_of_neg (by rw [hq]; decide)]; exact ih
theorem flt_lt {p q : Int → Bool} {y : Int} : ∀ (l : List Int), (∀ x, p x = true → q x = true) → y ∈ l → p y = false → q y = true → (l.filter p).length < (l.filter q).length
  | [], _, hy, _, _ => by cases hy
  | x :: l, h, hy, h1, h2 => by
    have le := flt_le l h
    by_cases hxy : x = y
    · subst hxy
      rw [List.filter_cons_of_neg (by rw [h1]; decide), List.filter_cons_of_pos h2, List.length_cons]; omega
    · have hyl : y ∈ l := by
        rcases List.mem_cons.1 hy with e | e
        · exact absurd e.symm hxy
        · exact e
      have ih := flt_lt l h hyl h1 h2
      cases hp : p x with
      | true => rw [List.filter_cons_of_pos hp, List.filter_cons_of_pos (h x hp), List.length_cons, List.length_cons]; omega
      | false =>
        rw [List.filter_cons_of_neg (by rw [hp]; decide)]
        cases hq : q x with
        | true => rw [List.filter_cons_of_pos hq, List.length_cons]; omega
        | false => rw [List.filter_cons_of_neg (by rw [hq]; decide)]; exact ih
theorem mss_lt {X Y : PS} {q : Int} (h : ∀ p, X p → Y p) (h0 : 0 ≤ q) (h1 : q < 65536) (hx : ¬ X q) (hy : Y q) : mss Y < mss X := by
  unfold mss lstS
  refine flt_lt (y := q) _ (fun p hp => ?_) (List.mem_map.2 ⟨q.toNat, List.mem_range.2 (by omega), by omega⟩) ?_ ?_
  · simp only [decide_eq_true_eq] at hp ⊢
    exact fun hx => hp (h p hx)
  · simp [hy]
  · simp [hx]
theorem dom_put {mm : Int → Option Value} {q : Int} {v : Value} (p : Int) : Dom (put mm q (some v)) p ↔ Dom mm p ∨ p = q := by
  unfold Dom
  by_cases h : p = q
  · subst h; rw [put_self]; simp
  · rw [put_ne h]; simp [h]
set_option maxHeartbeats 4000000 in
theorem settle_c {B : Nat → Prop} {H0 : Heap} {a : NfM} {mb : Nat} (hf : FromV B H0 mb a) (hst : a.st ≤ 65536) :
    ∀ (n : Nat) {H : Heap} {rest : List Pc} {nb : Nat} {mm : Int → Option Value} {q : Int} (st : StB B H0 H (pMW anyK kI nb mm :: rest)), a.has q = true → mss (Dom mm) < n →
      FnOk Tryz.prog 65 #[.map (some mb), .map (some nb), .int .i64 q] H fun _ H' => ∃ mm', StB B H0 H' (pMW anyK kI nb mm' :: rest) ∧ StlR a (Dom mm) q (Dom mm') := fun n => by
  induction n with
  | zero => intro H rest nb mm q st hq hn; omega
  | succ n ih =>
    intro H rest nb mm q st hq hn
    have hqr := NfM.has_iff.1 hq
    obtain ⟨m, hmap, hview⟩ := hf.ex
    obtain ⟨ad, cap, hsl, hd⟩ := hview q
    refine FnOk.of_vc Tryz.func65 rfl (Tryz.call65 _) ?_
    (conv => whnf); refine mlookOkW (a := q) mapII keyIW trivial (st.mapW 0 rfl) trivial ?_
    cases hmq : (mm q).isSome with
    | true =>
      (conv => whnf)
      exact ⟨mm, st, fun p hp => hp, hmq, fun p hp => .inl hp, fun p hp hn => absurd hp hn⟩
    | false =>
      have hnq : ¬ Dom mm q := by unfold Dom; rw [hmq]; decide
      (conv => whnf); refine mputPW (a := q) st 0 mapII keyIW trivial rfl rfl fun H1 st1 => ?_
      (conv => whnf); refine mlookW (a := q) (m := m) mapEd keyIW trivial (hmap.agr st1.old hf.at_) trivial ?_
      have e1 : (m q).getD (.slice none 0 0) = .slice ad (outE a q).length cap := hsl
      rw [e1]
      (conv => whnf)
      refine VLoop.mk [23] (fun k : Nat => [.int .i64 (k : Int)]) (fun k H5 => k ≤ (outE a q).length ∧ ∃ my, StB B H0 H5 (pMW anyK kI nb my :: rest) ∧ (∀ p, Dom mm p → Dom my p) ∧ Dom my q ∧ (∀ p, Dom my p → Dom mm p ∨ Sils a q p) ∧
        (∀ p, Dom my p → ¬ Dom mm p → p ≠ q → ∀ e ∈ a.edges, e.sil = true → e.fr = p → a.has e.to = true → Dom my e.to) ∧ ∀ e ∈ (outE a q).take k, e.sil = true → Dom my e.to) (fun k _ => (outE a q).length - k) ?_ ?_
      · (conv => whnf)
        refine ⟨0, rfl, Nat.zero_le _, _, st1, fun p hp => (dom_put p).2 (.inl hp), (dom_put q).2 (.inr rfl), fun p hp => ?_, fun p hp hno hpq => ?_, fun e he => by cases he⟩
        · rcases (dom_put p).1 hp with h | rfl
          · exact .inl h
          · exact .inr (.refl _)
        · rcases (dom_put p).1 hp with h | h
          · exact absurd h hno
          · exact absurd h hpq
      · rintro k H5 junk ⟨hk, my, st5, hsub, hown, hnew, hshut, hdone⟩
        have hd5 := hd.frame st5.old
        (conv => whnf); refine VIte.mk (fun hz => ?_) (fun hz => ?_) <;> simp only [decide_eq_true_eq, decide_eq_false_iff_not] at hz
        · obtain ⟨e, he⟩ := get_some (l := outE a q) (k := k) (by omega)
          obtain ⟨he1, he2, he3, he4⟩ := outE_mem.1 (List.mem_of_getElem? he)
          have hlen := hd5.le
          unfold maxLen at hlen
          (conv => whnf); refine VSeq.run ?_
          (conv => whnf); refine ixr (i := k) sl35 hd5 he rfl ?_
          rintro b6 o6 c6 hS6 hc6 ⟨rfl, hok⟩
          (conv => whnf); refine ldN (cs := edL e) ag104 hc6 trivial ?_
          (conv => whnf); refine valloc _ [.int .i64 0, .int .i64 0, .bool false, .int .u64 0, .int .u64 0, .int .u64 0, .int .u64 0] edge_z rfl ?_
          intro x H6 hx hs6 hb6 ha6
          have st6 : StB B H0 H6 (pB 104 x _ :: pMW anyK kI nb my :: rest) := (st5.box hx hs6 hb6 ha6).perm (List.perm_append_singleton _ _)
          (conv => whnf); refine stNB (cs := edL e) st6 0 rfl rfl (Nat.le_refl _) rfl fun H7 st7 => ?_
          rw [splice_all (show (edL e).length = 7 from rfl)] at st7
          have hbx := st7.blk 0 rfl
          have st7' : StB B H0 H7 (pMW anyK kI nb my :: rest) := st7.sub (List.sublist_cons_self _ _)
          (conv => whnf); refine fa fl104_2 ?_
          (conv => whnf); refine ld1 (v := .bool e.sil) ct4 (by rw [hbx.cell]; rfl) trivial ?_
          cases hes : e.sil with
          | false =>
            (conv => whnf); rw [w64 (x := (k : Int) + 1) (by omega) (by omega)]
            refine ⟨rfl, k + 1, by simp, ⟨by omega, my, st7', hsub, hown, hnew, hshut, fun e' he' hs' => ?_⟩, by omega⟩
            rw [take_succ_snoc he, List.mem_append, List.mem_singleton] at he'
            rcases he' with he' | rfl
            · exact hdone e' he' hs'
            · rw [hes] at hs'; cases hs'
          | true =>
            (conv => whnf); refine fa fl104_1 ?_
            (conv => whnf); refine ld1 (v := .int .i64 e.to) ct3 (by rw [hbx.cell]; rfl) trivial ?_
            have hlt : mss (Dom my) < n := by
              have := mss_lt hsub hqr.1 (by omega) hnq hown
              omega
            (conv => whnf); refine VCall.mk (ih st7' he3 hlt) ?_
            rintro _ H8 ⟨mz, st8, hz1⟩
            (conv => whnf); rw [w64 (x := (k : Int) + 1) (by omega) (by omega)]
            have hstep : Sils a q e.to := by
              have h0 : Sils a q e.fr := by rw [he4]; exact .refl q
              exact .step h0 he1 hes he3
            refine ⟨rfl, k + 1, by simp, ⟨by omega, mz, st8, fun p hp => hz1.sub p (hsub p hp), hz1.sub q hown, fun p hp => ?_, fun p hp hno hpq => ?_, fun e' he' hs' => ?_⟩, by omega⟩
            · rcases hz1.new p hp with h | h
              · exact hnew p h
              · exact .inr (hstep.trans h)
            · by_cases hy : Dom my p
              · exact fun e' h1 h2 h3 h4 => hz1.sub _ (hshut p hy hno hpq e' h1 h2 h3 h4)
              · exact hz1.shut p hp hy
            · rw [take_succ_snoc he, List.mem_append, List.mem_singleton] at he'
              rcases he' with he' | rfl
              · exact hz1.sub _ (hdone e' he' hs')
              · exact hz1.own
        · obtain rfl : k = (outE a q).length := by omega
          rw [List.take_length] at hdone
          (conv => whnf)
          refine ⟨my, st5, hsub, hown, hnew, fun p hp hno => ?_⟩
          by_cases hpq : p = q
          · subst hpq
            exact fun e h1 h2 h3 h4 => hdone e (outE_mem.2 ⟨h1, by rw [h3]; exact hq, h4, h3⟩) h2
          · exact hshut p hp hno hpq
end Go.Proofs.YtlnmhfhdjnenoaaGreatDoor
