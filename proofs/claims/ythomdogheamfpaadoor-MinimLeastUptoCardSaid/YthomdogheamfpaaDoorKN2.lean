/- Parts of the proof: VMore, VFacts, PAppI, PLay5, PBu, VMapX, PClass, PBits, MDfa, PSound, PMerge, PWake -/
import Derived.Test.YthomdogheamfpaaDoorKN1
import Derived.MapKept
import Derived.Laws.BytesArg
import Derived.Laws.Cover1
import Derived.Test.YthomdogheamfpaaDoorProg
import Derived.Shelf.Strconv.AppendIntPublic10
import Derived.Shelf.Small.Strs
import Derived.Shelf.Strings.BuilderK
import Derived.Shelf.LaysM
import Derived.Shelf.Strconv.Itoa3
import Derived.DeepKeys3
import Derived.Maps.RangeRun
/- Maps of the call's own: what they hold; looking up, laying, striking. -/
set_option linter.unusedVariables false
set_option linter.unusedSimpArgs false
namespace Go.VC

structure MapT (P : Program) (t kt et : TypeId) (d : TypeDesc) (z : Value) : Prop where
  under : P.underlying t = some (.map kt et)
  key : P.underlying kt = some d
  zero : (P.info? et).bind (·.zero) = some z
structure KeyE (d : TypeDesc) {α : Type} (enc : α → Value) : Prop where
  isKey : ∀ a, Go.MapKept.IsKey d (enc a)
  inj : ∀ a b, enc a = enc b → a = b
theorem keyS : KeyE .string Value.string := ⟨fun _ => trivial, fun a b h => by cases h; rfl⟩
theorem keyI (k : IntKind) : KeyE (.int k) (Value.int k) := ⟨fun _ => rfl, fun a b h => by cases h; rfl⟩

/-- The map in block b holds m. -/
def MapF {α : Type} (enc : α → Value) (H : Heap) (b : Nat) (m : α → Option Value) : Prop :=
  ∃ es clock, H[b]? = some (.map es clock) ∧ Go.MapKept.Stamped es clock ∧ (∀ (i : Nat) (x : MapEntry), es[i]? = some x → ∃ a, x.key = enc a ∧ m a = some x.val) ∧
    ∀ a v, m a = some v → ∃ (i : Nat) (x : MapEntry), es[i]? = some x ∧ x.key = enc a ∧ x.val = v
theorem MapF.agr {α : Type} {enc : α → Value} {H H' : Heap} {b : Nat} {m : α → Option Value} {S : Nat → Prop} (h : MapF enc H b m) (k : Agr S H H') (hb : S b) : MapF enc H' b m := by
  obtain ⟨es, clock, h1, h2⟩ := h
  exact ⟨es, clock, (k b hb).trans h1, h2⟩
/-- The stamp of a's entry. -/
def StampF {α : Type} (enc : α → Value) (H : Heap) (b : Nat) (a : α) (s : Nat) : Prop :=
  ∃ es clock, H[b]? = some (.map es clock) ∧ ∀ (i : Nat) (x : MapEntry), es[i]? = some x → (x.born = s ↔ x.key = enc a)
open Classical in
noncomputable def put {α : Type} (m : α → Option Value) (a : α) (v : Option Value) : α → Option Value := fun b => if b = a then v else m b
theorem put_self {α : Type} (m : α → Option Value) (a : α) (v : Option Value) : put m a v a = v := if_pos rfl
theorem put_ne {α : Type} {m : α → Option Value} {a b : α} {v : Option Value} (h : b ≠ a) : put m a v b = m b := if_neg h

section
variable {α : Type} {enc : α → Value} {P : Program} {t kt et : TypeId} {d : TypeDesc} {z : Value} {S : Nat → Prop} {H : Heap} {b : Nat} {m : α → Option Value} {a : α}
theorem stamped_key {es : Array MapEntry} {clock : Nat} (h : Go.MapKept.Stamped es clock) {i j : Nat} {x y : MapEntry} (hx : es[i]? = some x) (hy : es[j]? = some y) (e : x.key = y.key) : i = j := by
  have hn := h.2.2
  have hx' : (es.toList.map (·.key))[i]? = some x.key := by simp [hx]
  have hy' : (es.toList.map (·.key))[j]? = some x.key := by simp [hy, e]
  exact (List.getElem?_inj (List.getElem?_eq_some_iff.1 hx').1 hn).1 (hx'.trans hy'.symm)
theorem stamped_born {es : Array MapEntry} {clock : Nat} (h : Go.MapKept.Stamped es clock) {i j : Nat} {x y : MapEntry} (hx : es[i]? = some x) (hy : es[j]? = some y) (e : x.born = y.born) : i = j := by
  have hn := h.2.1
  have hx' : (es.toList.map (·.born))[i]? = some x.born := by simp [hx]
  have hy' : (es.toList.map (·.born))[j]? = some x.born := by simp [hy, e]
  exact (List.getElem?_inj (List.getElem?_eq_some_iff.1 hx').1 hn).1 (hx'.trans hy'.symm)
theorem zero_run (hz : (P.info? et).bind (·.zero) = some z) (w : World) : (zeroValue et).run P w = .ok z w := by
  cases hi : P.info? et with
  | none => rw [hi] at hz; cases hz
  | some i =>
    have hz' : i.zero = some z := by simpa [hi] using hz
    simp [zeroValue, typeInfo, hi, hz']
abbrev setW (w : World) (b : Nat) (o : Obj) : World := { w with heap := w.heap.setIfInBounds b o }
theorem set_turn {w : World} {o o' : Obj} (h : w.heap[b]? = some o) : (setW w b o').heap[b]? = some o' ∧ Agr (fun k => k ≠ b) w.heap (setW w b o').heap ∧ (setW w b o').heap.size = w.heap.size :=
  ⟨(Go.MapKept.heap_set h).1, fun k hk => (Go.MapKept.heap_set h).2 k hk, by simp⟩
theorem push_new {es : Array MapEntry} {clock : Nat} (hs : Go.MapKept.Stamped es clock) (h3 : ∀ (i : Nat) (x : MapEntry), es[i]? = some x → ∃ a, x.key = enc a ∧ m a = some x.val) (h4 : ∀ a v, m a = some v → ∃ (i : Nat) (x : MapEntry), es[i]? = some x ∧ x.key = enc a ∧ x.val = v) (hne : ∀ x ∈ es.toList, x.key ≠ enc a) {H' : Heap} {v : Value}
    (hb : H'[b]? = some (.map (es.push ⟨enc a, v, clock⟩) (clock + 1))) : MapF enc H' b (put m a (some v)) ∧ StampF enc H' b a clock := by
  have hgt : ∀ i x, (es.push ⟨enc a, v, clock⟩)[i]? = some x → (i < es.size ∧ es[i]? = some x) ∨ (i = es.size ∧ x = ⟨enc a, v, clock⟩) := by
    intro i x hx
    rw [Array.getElem?_push] at hx
    by_cases hi : i = es.size
    · rw [if_pos hi] at hx; exact .inr ⟨hi, by cases hx; rfl⟩
    · rw [if_neg hi] at hx; exact .inl ⟨(Array.getElem?_eq_some_iff.1 hx).1, hx⟩
  refine ⟨⟨_, _, hb, Go.MapKept.stamped_push hs hne, fun i x hx => ?_, fun a' v' hv => ?_⟩, _, _, hb, fun i x hx => ?_⟩
  · rcases hgt i x hx with ⟨_, hx⟩ | ⟨_, rfl⟩
    · obtain ⟨a', e1, e2⟩ := h3 i x hx
      have : a' ≠ a := fun h => hne x (List.mem_of_getElem? (by simpa using hx)) (by rw [e1, h])
      exact ⟨a', e1, by rw [put_ne this]; exact e2⟩
    · exact ⟨a, rfl, put_self _ _ _⟩
  · by_cases ha : a' = a
    · subst ha
      rw [put_self] at hv
      cases hv
      exact ⟨es.size, ⟨enc a', v, clock⟩, by simp, rfl, rfl⟩
    · rw [put_ne ha] at hv
      obtain ⟨i, x, hx, e⟩ := h4 a' v' hv
      exact ⟨i, x, by rw [Array.getElem?_push, if_neg (by have := (Array.getElem?_eq_some_iff.1 hx).1; omega)]; exact hx, e⟩
  · rcases hgt i x hx with ⟨_, hx⟩ | ⟨_, rfl⟩
    · have hmem : x ∈ es.toList := List.mem_of_getElem? (by simpa using hx)
      have := hs.1 x hmem
      exact ⟨fun h => by omega, fun h => absurd h (hne x hmem)⟩
    · simp
theorem mmake {K : Value → Heap → Prop} (k : ∀ b H', b = H.size → H'.size = b + 1 → MapF enc H' b (fun _ => none) → Agr (fun k => k < b) H H' → K (.map (some b)) H') : VEff P (Instr.makeMap t none) H K := by
  refine VEff.mk fun w hw => ?_
  subst hw
  exact ⟨_, w.alloc (.map #[] 0), by simp [Instr.makeMap], ⟨rfl, rfl, rfl⟩, k w.heap.size _ rfl (by rw [alloc_heap]; simp) ⟨#[], 0, by rw [alloc_heap]; simp, Go.MapKept.stamped_empty 0, by simp, by simp⟩ (heap_push_old _ _)⟩
end

end Go.VC

/- Maps of the call's own as pieces. -/
set_option linter.unusedVariables false
set_option linter.unusedSimpArgs false
namespace Go.VC
section
variable {α : Type} {enc : α → Value} {b : Nat} {m m' : α → Option Value} {B : Nat → Prop} {H0 H H' : Heap} {ps : List Pc}
end
end Go.VC

/- Maps of slices of the call's own; cutting a slice's head off. -/
set_option linter.unusedVariables false
set_option linter.unusedSimpArgs false
namespace Go.VC
/-- What the map holds at a, nil where it holds nothing. -/
def slAt {α : Type} (m : α → Option Value) (a : α) : Value := (m a).getD (.slice none 0 0)
structure Qs {α β : Type} (enc : α → Value) (T : Ty β) (H : Heap) (lo : Nat) (e : TypeId) (mb : Nat) (m : α → Option Value) (xs : α → List β) : Prop where
  map : MapF enc H mb m
  lt : mb < lo
  own : ∀ k, SlO T (fun _ => False) H lo e (slAt m k) (xs k)
  apart : ∀ k k' b, k ≠ k' → slB (slAt m k) b → ¬ slB (slAt m k') b
section
variable {α β : Type} {enc : α → Value} {T : Ty β} {H H1 H2 : Heap} {lo mb : Nat} {e : TypeId} {m : α → Option Value} {xs : α → List β} {S' : Nat → Prop}
end

theorem text_inj {a b : ByteArray} (h : a.data.toList = b.data.toList) : a = b := by
  cases a; cases b; simp_all [Array.toList_inj]
end Go.VC

/- Slices of the call's own whose head is cut off and that are appended to: queues; bytes put together as texts. -/
set_option linter.unusedVariables false
set_option linter.unusedSimpArgs false
namespace Go.VC

section
variable {α : Type} {T : Ty α} {S S' : Nat → Prop} {H H' : Heap} {e : TypeId} {v : Value} {xs : List α}
end

/-! ### as pieces -/
section
variable {α : Type} {T : Ty α} {e : TypeId} {a : Option Addr} {n cap : Nat} {xs : List α} {B : Nat → Prop} {H0 H H' : Heap} {ps : List Pc}
end

/-! ### bytes and texts -/
theorem vb2s {P : Program} {s d e b o n cap : Nat} {H : Heap} {K : Value → Heap → Prop} (bs : List Nat) (hs : P.underlying s = some (.slice e)) (he : P.underlying e = some (.int .u8)) (hd : P.underlying d = some .string)
    (hc : ∀ (j x : Nat), bs[j]? = some x → cell H b (o + j) = some (.int .u8 (x : Int))) (hn : n = bs.length) (k : K (.string ⟨(bs.map UInt8.ofNat).toArray⟩) H) : VEff P (convert s d (.slice (some ⟨b, o, none⟩) n cap)) H K := by
  subst hn
  refine VEff.mk fun w hw => ?_
  subst hw
  have := run_convert_bytes_arg (P := P) w s e hs he b o bs.length cap (bs.map fun (n : Nat) => (n : Int)) (by simp) (fun i hi => by
    rw [cell_w, hc i bs[i] (List.getElem?_eq_getElem hi)]
    simp [List.getD, hi]) d hd
  have e1 : strOfNums (bs.map fun (n : Nat) => (n : Int)) = ⟨(bs.map UInt8.ofNat).toArray⟩ := by
    unfold strOfNums
    rw [List.map_map]
    congr 2
  rw [e1] at this
  exact ⟨_, w, this, Env.refl w, k⟩
theorem vb2s0 {P : Program} {s d e n cap : Nat} {H : Heap} {K : Value → Heap → Prop} (hs : P.underlying s = some (.slice e)) (he : P.underlying e = some (.int .u8)) (hd : P.underlying d = some .string)
    (k : K (.string ⟨#[]⟩) H) : VEff P (convert s d (.slice none n cap)) H K := by
  refine VEff.mk fun w hw => ?_
  subst hw
  exact ⟨_, w, run_convert_bytes_nil (P := P) w s e hs he n cap d hd, Env.refl w, k⟩
end Go.VC

/- Regions whose order is open, once more: the last operations may change what the quiet ones have read. -/
set_option linter.unusedVariables false
set_option linter.unusedSimpArgs false
namespace Go.VC

/-- Operation j waits for i, if only by way of others. -/
def needsB (ops : Array Oper) : Nat → Nat → Nat → Bool
  | 0, _, _ => false
  | f + 1, j, i => match ops[j]? with
    | none => false
    | some o => o.after.toList.any fun e => Region.binds .any e && (Nat.beq e.on i || needsB ops f e.on i)
/-- What is listed has all that it waits for listed. -/
def Shut (ops : Array Oper) (listed : Array Bool) : Prop :=
  ∀ (j : Nat) (o : Oper), ops[j]? = some o → listed.getD j false = true → ∀ e ∈ o.after, Region.binds .any e = true → listed.getD e.on false = true
theorem Shut.chain {ops : Array Oper} {listed : Array Bool} (h : Shut ops listed) {i : Nat} : ∀ (f j : Nat), needsB ops f j i = true → (∀ (o : Oper), ops[j]? = some o → ∀ e ∈ o.after, Region.binds .any e = true → listed.getD e.on false = true) → listed.getD i false = true
  | 0, _, hn, _ => by simp [needsB] at hn
  | f + 1, j, hn, hd => by
    unfold needsB at hn
    split at hn
    · cases hn
    · rename_i o ho
      obtain ⟨e, he, hb⟩ := List.any_eq_true.1 hn
      simp only [Bool.and_eq_true, Bool.or_eq_true] at hb
      have hl := hd o ho e (by simpa using he) hb.1
      rcases hb.2 with h1 | h1
      · rw [← Nat.eq_of_beq_eq_true h1]; exact hl
      · exact h.chain f e.on h1 fun o' ho' e' he' hb' => h e.on o' ho' hl e' he' hb'
theorem Shut.not_ready {ops : Array Oper} {listed : Array Bool} (h : Shut ops listed) {i j f : Nat} (hn : needsB ops f j i = true) (hi : listed.getD i false = false) : j ∉ Region.ready .any ops listed := by
  intro hj
  obtain ⟨_, o, ho, hall⟩ := mem_ready.1 hj
  have := h.chain f j hn fun o' ho' e he hb => by rw [ho] at ho'; cases ho'; exact hall e he hb
  rw [hi] at this; cases this
theorem getD_put {l : Array Bool} {i k : Nat} (h : (l.setIfInBounds i true).getD k false = true) : k = i ∨ l.getD k false = true := by
  by_cases hk : k = i
  · exact .inl hk
  · rw [getD_set_ne false (Ne.symm hk)] at h; exact .inr h
theorem Shut.put {ops : Array Oper} {listed : Array Bool} (h : Shut ops listed) {j : Nat} (hj : j ∈ Region.ready .any ops listed) : Shut ops (listed.setIfInBounds j true) := by
  intro k o ho hk e he hb
  rcases getD_put hk with rfl | hk
  · obtain ⟨_, o', ho', hall⟩ := mem_ready.1 hj
    rw [ho] at ho'; cases ho'
    exact getD_set_true (hall e he hb)
  · exact getD_set_true (h k o ho hk e he hb)

/-- Whatever order is picked from here on, and S holds behind every operation but those of Z. -/
def wpAnyZ (P : Program) (ops : Array Oper) (Q : Exit → Act → World → Prop) (S : World → Prop) (Z : List Nat) : Nat → Array Bool → Act → World → Prop
  | 0, listed, a, w => Region.ready .any ops listed = [] ∧ Q .normal a w
  | fuel + 1, listed, a, w =>
    (Region.ready .any ops listed = [] → Q .normal a w) ∧
    ∀ i ∈ Region.ready .any ops listed, wpOp P ops Q i (fun a' w' => (Z.contains i = false → S w') ∧ wpAnyZ P ops Q S Z fuel (listed.setIfInBounds i true) a' w') a w
theorem wpAny_of_Z {P : Program} {ops : Array Oper} {Q : Exit → Act → World → Prop} {S : World → Prop} {Z : List Nat} : ∀ (fuel : Nat) (listed : Array Bool) (a : Act) (w : World),
    wpAnyZ P ops Q S Z fuel listed a w → wpAny P .any ops Q fuel listed a w
  | 0, _, _, _, h => h
  | fuel + 1, _, _, _, h => ⟨h.1, fun i hi => wpOp_mono (fun a' w' h' => wpAny_of_Z fuel _ a' w' h'.2) (h.2 i hi)⟩
theorem wpAnyZ_first {P : Program} {ops : Array Oper} {Q : Exit → Act → World → Prop} {S : World → Prop} {Z : List Nat} {i f : Nat} {oi : Oper} {v : Value} (hi : ops[i]? = some oi)
    (hsel : ∀ (j : Nat) (o : Oper) cs b, ops[j]? = some o → o.op ≠ .select cs b)
    (hQ : ∀ c a w, Q (.panic c) (a.put oi.dst v) w → Q (.panic c) a w) (hiz : Z.contains i = false) (hz : ∀ j, Z.contains j = true → needsB ops f j i = true) :
    ∀ (fuel : Nat) (listed : Array Bool) (a : Act) (w : World), Shut ops listed →
      (∀ j oj, ops[j]? = some oj → j ≠ i → listed.getD j true = false → (∀ e ∈ oj.after, Region.binds .any e = true → e.on ≠ i) → oi.apart ops oj = true) →
      i ∈ Region.ready .any ops listed → YieldsIf P ops S oi v a → S w →
      wpAnyZ P ops Q S Z fuel (listed.setIfInBounds i true) (a.put oi.dst v) w → wpAnyZ P ops Q S Z (fuel + 1) listed a w := by
  intro fuel
  induction fuel with
  | zero =>
    intro listed a w _ _ hr hy hS H
    refine ⟨fun h => (by rw [h] at hr; cases hr), fun j hj => ?_⟩
    by_cases hji : j = i
    · subst hji; exact hy.wpOp hi hS ⟨fun _ => hS, H⟩
    · have := ready_mono hj hji
      rw [H.1] at this
      cases this
  | succ fuel ih =>
    intro listed a w hsh hfree hr hy hS H
    refine ⟨fun h => (by rw [h] at hr; cases hr), fun j hj => ?_⟩
    by_cases hji : j = i
    · subst hji; exact hy.wpOp hi hS ⟨fun _ => hS, H⟩
    · have h1 := H.2 j (ready_mono hj hji)
      obtain ⟨hjun, oj, hoj, hall⟩ := mem_ready.1 hj
      have hun : listed.getD i false = false := by
        have h0 := (mem_ready.1 hr).1
        rcases Nat.lt_or_ge i listed.size with h' | h'
        · simp [h'] at h0 ⊢; exact h0
        · simp [Array.getElem?_eq_none h'] at h0
      have hnot : ∀ e ∈ oj.after, Region.binds .any e = true → e.on ≠ i := fun e he hb heq => by
        have h1 := hall e he hb
        rw [heq, hun] at h1; cases h1
      have hjz : Z.contains j = false := by
        cases hc : Z.contains j with
        | false => rfl
        | true => exact absurd hj (hsh.not_ready (hz j hc) hun)
      have h2 := wpOp_putIf hoj (hfree j oj hoj hji hjun hnot) (fun cs b => hsel i oi cs b hi) (fun cs b => hsel j oj cs b hoj) hQ hy h1
      have hfree' : ∀ k ok, ops[k]? = some ok → k ≠ i → (listed.setIfInBounds j true).getD k true = false →
          (∀ e ∈ ok.after, Region.binds .any e = true → e.on ≠ i) → oi.apart ops ok = true := fun k ok hk hki hun hno => by
        refine hfree k ok hk hki ?_ hno
        by_cases hjk : j = k
        · subst hjk; exact hjun
        · rw [getD_set_ne true hjk] at hun; exact hun
      refine wpOp_mono (fun a' w' h3 => ⟨fun _ => h3.2.1 hjz, ih (listed.setIfInBounds j true) a' w' (hsh.put hj) hfree' (ready_mono hr (Ne.symm hji)) h3.1 (h3.2.1 hjz) ?_⟩) h2
      rw [Array.setIfInBounds_comm _ _ hji]
      exact h3.2.2

/-- One operation of the order, carried out here. -/
def stepZ (P : Program) (S : Nat → Prop) (Z : List Nat) (H0 : Heap) (all : List Oper) (i : Nat) (fr : Fr) (H : Heap) (next : Fr → Heap → Prop) : Prop :=
  match all[i]? with
  | none => False
  | some o => match o.guard with
    | some _ => False
    | none => match Z.contains i with
      | true => opK P false (fun _ => True) o fr H fun v H' => putK o.dst fr v fun fr' => next fr' H'
      | false => opK P false (fun _ => True) o fr H fun v H' => Agr S H0 H' ∧ putK o.dst fr v fun fr' => next fr' H'
def heldZ (P : Program) (S : Nat → Prop) (Z : List Nat) (H0 : Heap) (all : List Oper) (s : Sch) : Fr → Heap → (Fr → Heap → Prop) → Prop :=
  Sch.rec (motive := fun _ => Fr → Heap → (Fr → Heap → Prop) → Prop) (fun fr H K => K fr H)
    (fun i _ ih fr H K => match all[i]? with
      | none => False
      | some o => match o.guard with
        | some _ => False
        | none => match isDet o && convDet P o with
          | true => detK P S o fr H fun v => putK o.dst fr v fun fr' => ih fr' H K
          | false => False)
    (fun i _ ih fr H K => stepZ P S Z H0 all i fr H fun fr' H' => ih fr' H' K)
    (fun i _ j _ ih ih' fr H K => (stepZ P S Z H0 all i fr H fun fr' H' => ih fr' H' K) ∧ stepZ P S Z H0 all j fr H fun fr' H' => ih' fr' H' K) s
theorem heldZ_q (P : Program) (S : Nat → Prop) (Z : List Nat) (H0 : Heap) (all : List Oper) (i : Nat) (s : Sch) (fr : Fr) (H : Heap) (K : Fr → Heap → Prop) : heldZ P S Z H0 all (.q i s) fr H K =
    (match all[i]? with
      | none => False
      | some o => match o.guard with
        | some _ => False
        | none => match isDet o && convDet P o with
          | true => detK P S o fr H fun v => putK o.dst fr v fun fr' => heldZ P S Z H0 all s fr' H K
          | false => False) := rfl
/-- Z comes behind all quiet ones; behind an operation of Z there is none. -/
def hasQ : Sch → Bool
  | .e => false
  | .q _ _ => true
  | .f _ s => hasQ s
  | .b _ s _ s' => hasQ s || hasQ s'
def zAll (Z : List Nat) : Sch → Bool
  | .e => true
  | .q _ _ => false
  | .f i s => Z.contains i && zAll Z s
  | .b i s j s' => Z.contains i && Z.contains j && zAll Z s && zAll Z s'
def heldBZ (ops : Array Oper) (Z : List Nat) : Sch → Array Bool → Bool
  | .e, listed => (Region.ready .any ops listed).isEmpty
  | .q i s, listed => (Region.ready .any ops listed).contains i && Region.free .any ops listed i && !(Z.contains i) && (Z.all fun z => needsB ops ops.size z i) && heldBZ ops Z s (listed.setIfInBounds i true)
  | .f i s, listed => Region.ready .any ops listed == [i] && (!(Z.contains i) || zAll Z s) && heldBZ ops Z s (listed.setIfInBounds i true)
  | .b i s j s', listed => Region.ready .any ops listed == [i, j] && ((!(Z.contains i) && !(Z.contains j)) || (zAll Z s && zAll Z s')) && heldBZ ops Z s (listed.setIfInBounds i true) && heldBZ ops Z s' (listed.setIfInBounds j true)
theorem stepZ_sound {P : Program} {S : Nat → Prop} {Z : List Nat} {w0 : World} {all : List Oper} {Q : Exit → Act → World → Prop} {i : Nat} {fr : Fr} {a : Act} {w : World} {next : Fr → Heap → Prop} {N : Act → World → Prop}
    (hat : At fr a) (hc : Env w0 w) (h : stepZ P S Z w0.heap all i fr w.heap next)
    (hn : ∀ fr' a' w', At fr' a' → Env w0 w' → (Z.contains i = false → Cls w0 S w') → next fr' w'.heap → N a' w') : wpOp P all.toArray Q i N a w := by
  unfold stepZ at h
  split at h
  · exact h.elim
  · rename_i o ho
    have ho' : all.toArray[i]? = some o := by simpa using ho
    split at h
    · exact h.elim
    · rename_i hg
      have hwant : Region.wanted o (yielded all.toArray a.tmps) = true := by simp [Region.wanted, hg]
      unfold wpOp
      rw [ho']
      dsimp only
      rw [if_pos hwant]
      split at h
      · rename_i hz
        refine .inl (Oper.wp_mono ?_ (opK_sound hat h _))
        rintro a' w' ⟨v, rfl, henv, hk⟩
        rw [putK_eq] at hk
        exact hn _ _ _ (hat.put o.dst v) (hc.trans henv) (fun hne => by rw [hz] at hne; cases hne) hk
      · refine .inl (Oper.wp_mono ?_ (opK_sound hat h _))
        rintro a' w' ⟨v, rfl, henv, hagr, hk⟩
        rw [putK_eq] at hk
        exact hn _ _ _ (hat.put o.dst v) (hc.trans henv) (fun _ => ⟨hc.trans henv, hagr⟩) hk
theorem heldZ_sound {P : Program} {S : Nat → Prop} {Z : List Nat} {w0 : World} {all : List Oper} {Q : Exit → Act → World → Prop} (hs : Region.noSelect all.toArray = true)
    (hp : ∀ c a w, ¬ Q (.panic c) a w) : ∀ (l : Sch) (listed : Array Bool) (fr : Fr) (a : Act) (w : World) (K : Fr → Heap → Prop), At fr a → Env w0 w → (zAll Z l = false → Cls w0 S w) → Shut all.toArray listed →
    (∀ fr' a' w', At fr' a' → Env w0 w' → K fr' w'.heap → Q .normal a' w') → heldBZ all.toArray Z l listed = true → l.even = true →
    heldZ P S Z w0.heap all l fr w.heap K → wpAnyZ P all.toArray Q (Cls w0 S) Z l.len listed a w
  | .e, listed, fr, a, w, K, hat, he, _, _, hq, hB, _, h => ⟨by simpa [heldBZ] using hB, hq fr a w hat he h⟩
  | .q i s, listed, fr, a, w, K, hat, he, hc, hsh, hq, hB, hev, h => by
    have hc := hc rfl
    simp only [heldBZ, Bool.and_eq_true, Bool.not_eq_true', List.all_eq_true] at hB
    obtain ⟨⟨⟨⟨b1, b2⟩, b3⟩, b4⟩, hB2⟩ := hB
    rw [heldZ_q] at h
    split at h
    · exact h.elim
    · rename_i o ho
      have ho' : all.toArray[i]? = some o := by simpa using ho
      have hri : i ∈ Region.ready .any all.toArray listed := by simpa using b1
      split at h
      · exact h.elim
      · rename_i hg
        have hwant : Region.wanted o (yielded all.toArray a.tmps) = true := by simp [Region.wanted, hg]
        split at h
        · obtain ⟨v, hv, hk⟩ := detK_sound h
          rw [putK_eq] at hk
          refine wpAnyZ_first (v := v) (f := all.toArray.size) ho' (Region.noSelect_spec hs) (fun c a' w' hh => (hp _ _ _ hh).elim) b3 (fun j hj => b4 j (by simpa using hj)) s.len listed a w hsh (Region.free_spec ho' b2) hri
            (.inl ⟨hwant, fun w' hw' => ?_⟩) hc ?_
          · rw [hat.evalF]
            exact hv w' fun k hk => (hw'.2 k hk).trans (hc.2 k hk).symm
          · exact heldZ_sound hs hp s _ _ _ w K (hat.put o.dst v) he (fun _ => hc) (hsh.put hri) hq hB2 hev hk
        · exact h.elim
  | .f i s, listed, fr, a, w, K, hat, he, hc, hsh, hq, hB, hev, h => by
    simp only [heldBZ, Bool.and_eq_true, Bool.or_eq_true, Bool.not_eq_true', beq_iff_eq] at hB
    obtain ⟨⟨b1, b2⟩, hB2⟩ := hB
    refine ⟨(fun h0 => by rw [b1] at h0; cases h0), fun j hj => ?_⟩
    have hj0 := hj
    rw [b1] at hj
    obtain rfl : j = i := by simpa using hj
    refine stepZ_sound hat he h fun fr' a' w' h1 h2 h3 h4 => ⟨h3, heldZ_sound hs hp s _ _ _ w' K h1 h2 (fun hz => ?_) (hsh.put hj0) hq hB2 hev h4⟩
    rcases b2 with b2 | b2
    · exact h3 b2
    · rw [b2] at hz; cases hz
  | .b i s j s', listed, fr, a, w, K, hat, he, hc, hsh, hq, hB, hev, h => by
    simp only [heldBZ, Bool.and_eq_true, Bool.or_eq_true, Bool.not_eq_true', beq_iff_eq] at hB
    obtain ⟨⟨⟨b1, b2⟩, hB2⟩, hB3⟩ := hB
    simp only [Sch.even, Bool.and_eq_true, beq_iff_eq] at hev
    obtain ⟨⟨e1, e2⟩, e3⟩ := hev
    refine ⟨(fun h0 => by rw [b1] at h0; cases h0), fun k hk => ?_⟩
    have hk0 := hk
    rw [b1] at hk
    rcases List.mem_cons.1 hk with rfl | hk
    · refine stepZ_sound hat he h.1 fun fr' a' w' h1 h2 h3 h4 => ⟨h3, heldZ_sound hs hp s _ _ _ w' K h1 h2 (fun hz => ?_) (hsh.put hk0) hq hB2 e1 h4⟩
      rcases b2 with b2 | b2
      · exact h3 b2.1
      · rw [b2.1] at hz; cases hz
    · obtain rfl : k = j := by simpa using hk
      rw [e3]
      refine stepZ_sound hat he h.2 fun fr' a' w' h1 h2 h3 h4 => ⟨h3, heldZ_sound hs hp s' _ _ _ w' K h1 h2 (fun hz => ?_) (hsh.put hk0) hq hB3 e2 h4⟩
      rcases b2 with b2 | b2
      · exact h3 b2.2
      · rw [b2.2] at hz; cases hz
theorem VDraw.heldZ {P : Program} {l : List Oper} {fr : Fr} {H : Heap} {K : Fr → Heap → Prop} (S : Nat → Prop) (Z : List Nat) (sched : Sch) (hm : P.follows .mixedOrders = true)
    (hB : (Region.noSelect l.toArray && (sched.len == l.length) && sched.even && heldBZ l.toArray Z sched (Array.replicate l.length false)) = true)
    (h : VC.heldZ P S Z H l sched fr H K) : VDraw P l fr H K := by
  refine ⟨?_⟩
  intro id Q a w hat hw hp hq
  subst hw
  simp only [Bool.and_eq_true, beq_iff_eq] at hB
  refine wp_region_any hm (wpAny_of_Z (S := Cls w S) (Z := Z) _ _ _ _ ?_)
  have hsh : Shut l.toArray (Array.replicate l.length false) := fun j o _ hj => by
    rw [Array.getD_eq_getD_getElem?, Array.getElem?_replicate] at hj
    split at hj <;> simp at hj
  have := heldZ_sound (P := P) (S := S) (Z := Z) (w0 := w) (Q := Q) hB.1.1.1 hp sched (Array.replicate l.length false) fr a { w with drawn := w.drawn + 1 } K hat ⟨rfl, rfl, rfl⟩ (fun _ => ⟨⟨rfl, rfl, rfl⟩, Agr.refl _ _⟩) hsh hq hB.2 hB.1.2 h
  rw [hB.1.1.2] at this
  simpa using this
end Go.VC

/- Tables of slices: rows laid fresh, elements written. -/
set_option linter.unusedVariables false
set_option linter.unusedSimpArgs false
namespace Go.VC
section
variable {α : Type} {T : Ty α} {B : Nat → Prop} {H0 H H1 : Heap} {ps : List Pc} {e te : TypeId} {nb : Nat} {vs : List Value} {xs : List (List α)}
end
end Go.VC
/- Facts on the types of the translation, written by a program. -/
set_option maxRecDepth 100000
namespace Go.Proofs.YthomdogheamfpaaDoor
open Go.VC
theorem ct3 : CellT Tryd.prog 3 := ⟨⟨_, rfl, rfl⟩, rfl⟩
theorem ct4 : CellT Tryd.prog 4 := ⟨⟨_, rfl, rfl⟩, rfl⟩
theorem ct5 : CellT Tryd.prog 5 := ⟨⟨_, rfl, rfl⟩, rfl⟩
theorem ct9 : CellT Tryd.prog 9 := ⟨⟨_, rfl, rfl⟩, rfl⟩
theorem ct22 : CellT Tryd.prog 22 := ⟨⟨_, rfl, rfl⟩, rfl⟩
theorem sl22 : SlT Tryd.prog 22 70 4 32 (Tryd.t70.zero.getD undef) := ⟨rfl, ⟨_, rfl, rfl, rfl, rfl⟩, rfl⟩ -- [][4]uint64
theorem ct23 : CellT Tryd.prog 23 := ⟨⟨_, rfl, rfl⟩, rfl⟩
theorem sl23 : SlT Tryd.prog 23 33 1 24 (.slice none 0 0) := ⟨rfl, ⟨_, rfl, rfl, rfl, rfl⟩, rfl⟩ -- [][]int
theorem ct24 : CellT Tryd.prog 24 := ⟨⟨_, rfl, rfl⟩, rfl⟩
theorem sl24 : SlT Tryd.prog 24 4 1 1 (.bool false) := ⟨rfl, ⟨_, rfl, rfl, rfl, rfl⟩, rfl⟩ -- []bool
theorem ag26 : AggT Tryd.prog 26 3 := ⟨⟨_, rfl, rfl⟩, rfl⟩
theorem fl26_0 : FieldT Tryd.prog 26 0 0 22 1 := ⟨⟨_, _, rfl, rfl, rfl, rfl⟩, rfl, Nat.noConfusion⟩ -- Cells
theorem fl26_1 : FieldT Tryd.prog 26 1 1 23 1 := ⟨⟨_, _, rfl, rfl, rfl, rfl⟩, rfl, Nat.noConfusion⟩ -- Next
theorem fl26_2 : FieldT Tryd.prog 26 2 2 24 1 := ⟨⟨_, _, rfl, rfl, rfl, rfl⟩, rfl, Nat.noConfusion⟩ -- Final
theorem ct29 : CellT Tryd.prog 29 := ⟨⟨_, rfl, rfl⟩, rfl⟩
theorem ar32 : ArrT Tryd.prog 32 256 3 1 := ⟨rfl, rfl⟩
theorem ct33 : CellT Tryd.prog 33 := ⟨⟨_, rfl, rfl⟩, rfl⟩
theorem sl33 : SlT Tryd.prog 33 3 1 8 (.int .i64 0) := ⟨rfl, ⟨_, rfl, rfl, rfl, rfl⟩, rfl⟩ -- []int
theorem ag35 : AggT Tryd.prog 35 259 := ⟨⟨_, rfl, rfl⟩, rfl⟩
theorem fl35_0 : FieldT Tryd.prog 35 0 0 32 256 := ⟨⟨_, _, rfl, rfl, rfl, rfl⟩, rfl, Nat.noConfusion⟩ -- Cell
theorem fl35_1 : FieldT Tryd.prog 35 1 256 33 1 := ⟨⟨_, _, rfl, rfl, rfl, rfl⟩, rfl, Nat.noConfusion⟩ -- Reps
theorem fl35_2 : FieldT Tryd.prog 35 2 257 23 1 := ⟨⟨_, _, rfl, rfl, rfl, rfl⟩, rfl, Nat.noConfusion⟩ -- Next
theorem fl35_3 : FieldT Tryd.prog 35 3 258 24 1 := ⟨⟨_, _, rfl, rfl, rfl, rfl⟩, rfl, Nat.noConfusion⟩ -- Final
theorem ct69 : CellT Tryd.prog 69 := ⟨⟨_, rfl, rfl⟩, rfl⟩
theorem ar70 : ArrT Tryd.prog 70 4 69 1 := ⟨rfl, rfl⟩
theorem ag70 : AggT Tryd.prog 70 4 := ⟨⟨_, rfl, rfl⟩, rfl⟩
theorem ar73 : ArrT Tryd.prog 73 4 69 1 := ⟨rfl, rfl⟩
theorem ag73 : AggT Tryd.prog 73 4 := ⟨⟨_, rfl, rfl⟩, rfl⟩
theorem ct83 : CellT Tryd.prog 83 := ⟨⟨_, rfl, rfl⟩, rfl⟩
theorem sl83 : SlT Tryd.prog 83 73 4 32 (Tryd.t73.zero.getD undef) := ⟨rfl, ⟨_, rfl, rfl, rfl, rfl⟩, rfl⟩ -- []class.Set
theorem ct85 : CellT Tryd.prog 85 := ⟨⟨_, rfl, rfl⟩, rfl⟩
theorem sl85 : SlT Tryd.prog 85 5 1 1 (.int .u8 0) := ⟨rfl, ⟨_, rfl, rfl, rfl, rfl⟩, rfl⟩ -- []uint8
theorem sl96 : SlT Tryd.prog 96 112 256 256 (Tryd.t112.zero.getD undef) := ⟨rfl, ⟨_, rfl, rfl, rfl, rfl⟩, rfl⟩ -- []louperef01.Set
theorem ct98 : CellT Tryd.prog 98 := ⟨⟨_, rfl, rfl⟩, rfl⟩
theorem sl98 : SlT Tryd.prog 98 9 1 16 (Tryd.t9.zero.getD undef) := ⟨rfl, ⟨_, rfl, rfl, rfl, rfl⟩, rfl⟩ -- []string
theorem fl102_1 : FieldT Tryd.prog 102 1 1 85 1 := ⟨⟨_, _, rfl, rfl, rfl, rfl⟩, rfl, Nat.noConfusion⟩ -- buf
theorem ar112 : ArrT Tryd.prog 112 256 4 1 := ⟨rfl, rfl⟩
theorem ag112 : AggT Tryd.prog 112 256 := ⟨⟨_, rfl, rfl⟩, rfl⟩
theorem ct118 : CellT Tryd.prog 118 := ⟨⟨_, rfl, rfl⟩, rfl⟩
theorem sl118 : SlT Tryd.prog 118 124 2 16 (Tryd.t124.zero.getD undef) := ⟨rfl, ⟨_, rfl, rfl, rfl, rfl⟩, rfl⟩ -- [][2]int
theorem ar119 : ArrT Tryd.prog 119 1024 33 1 := ⟨rfl, rfl⟩
theorem fl121_0 : FieldT Tryd.prog 121 0 0 118 1 := ⟨⟨_, _, rfl, rfl, rfl, rfl⟩, rfl, Nat.noConfusion⟩ -- list
theorem fl121_1 : FieldT Tryd.prog 121 1 1 98 1 := ⟨⟨_, _, rfl, rfl, rfl, rfl⟩, rfl, Nat.noConfusion⟩ -- words
theorem fl121_2 : FieldT Tryd.prog 121 2 2 119 1024 := ⟨⟨_, _, rfl, rfl, rfl, rfl⟩, rfl, Nat.noConfusion⟩ -- bucket
theorem ar124 : ArrT Tryd.prog 124 2 3 1 := ⟨rfl, rfl⟩
theorem ag124 : AggT Tryd.prog 124 2 := ⟨⟨_, rfl, rfl⟩, rfl⟩
theorem ar125 : ArrT Tryd.prog 125 256 5 1 := ⟨rfl, rfl⟩
theorem fl127_0 : FieldT Tryd.prog 127 0 0 83 1 := ⟨⟨_, _, rfl, rfl, rfl, rfl⟩, rfl, Nat.noConfusion⟩ -- cells
theorem fl127_1 : FieldT Tryd.prog 127 1 1 125 256 := ⟨⟨_, _, rfl, rfl, rfl, rfl⟩, rfl, Nat.noConfusion⟩ -- cell
theorem fl127_2 : FieldT Tryd.prog 127 2 257 23 1 := ⟨⟨_, _, rfl, rfl, rfl, rfl⟩, rfl, Nat.noConfusion⟩ -- next
theorem fl127_3 : FieldT Tryd.prog 127 3 258 24 1 := ⟨⟨_, _, rfl, rfl, rfl, rfl⟩, rfl, Nat.noConfusion⟩ -- final
theorem fl127_4 : FieldT Tryd.prog 127 4 259 24 1 := ⟨⟨_, _, rfl, rfl, rfl, rfl⟩, rfl, Nat.noConfusion⟩ -- alive
theorem ag179 : AggT Tryd.prog 179 2 := ⟨⟨_, rfl, rfl⟩, rfl⟩
theorem fl179_0 : FieldT Tryd.prog 179 0 0 3 1 := ⟨⟨_, _, rfl, rfl, rfl, rfl⟩, rfl, Nat.noConfusion⟩ -- a
theorem fl179_1 : FieldT Tryd.prog 179 1 1 3 1 := ⟨⟨_, _, rfl, rfl, rfl, rfl⟩, rfl, Nat.noConfusion⟩ -- b
theorem ag181 : AggT Tryd.prog 181 2 := ⟨⟨_, rfl, rfl⟩, rfl⟩
theorem fl181_0 : FieldT Tryd.prog 181 0 0 3 1 := ⟨⟨_, _, rfl, rfl, rfl, rfl⟩, rfl, Nat.noConfusion⟩ -- from
theorem fl181_1 : FieldT Tryd.prog 181 1 1 5 1 := ⟨⟨_, _, rfl, rfl, rfl, rfl⟩, rfl, Nat.noConfusion⟩ -- by
theorem sl183 : SlT Tryd.prog 183 179 2 16 (Tryd.t179.zero.getD undef) := ⟨rfl, ⟨_, rfl, rfl, rfl, rfl⟩, rfl⟩ -- []minim.pair
theorem ar195 : ArrT Tryd.prog 195 2 73 4 := ⟨rfl, rfl⟩
theorem ag199 : AggT Tryd.prog 199 2 := ⟨⟨_, rfl, rfl⟩, rfl⟩
theorem fl199_0 : FieldT Tryd.prog 199 0 0 5 1 := ⟨⟨_, _, rfl, rfl, rfl, rfl⟩, rfl, Nat.noConfusion⟩ -- letter
theorem fl199_1 : FieldT Tryd.prog 199 1 1 5 1 := ⟨⟨_, _, rfl, rfl, rfl, rfl⟩, rfl, Nat.noConfusion⟩ -- value
theorem ar200 : ArrT Tryd.prog 200 3 199 2 := ⟨rfl, rfl⟩
theorem ag200 : AggT Tryd.prog 200 6 := ⟨⟨_, rfl, rfl⟩, rfl⟩
end Go.Proofs.YthomdogheamfpaaDoor
/- strconv.AppendInt at base 10, by the kit's shelf (laid by its tool), as an operation on an own slice of bytes. -/
set_option linter.unusedVariables false
set_option linter.unusedSimpArgs false
set_option maxRecDepth 100000
namespace Go.VC
open Go.Lib Go.RowKit
abbrev powN : String := "internal/strconv.uint64pow10"
/-- The library's table of powers lies in memory. -/
def PowH (P : Program) (H : Heap) : Prop := ∀ w : World, w.heap = H → TabIs P w powN .u64 pow10Tab
theorem var_agr {P : Program} {w w' : World} {name : String} {cs : Array Value} (h : w.var? P name = some cs) (ha : Agr (Old w.heap) w.heap w'.heap) : w'.var? P name = some cs := by
  unfold World.var? at *
  cases hg : P.globalNamed name with
  | none => simp [hg] at h
  | some g =>
    simp only [hg, Option.bind_some] at h ⊢
    have hlt : g < w.heap.size := by
      rcases Nat.lt_or_ge g w.heap.size with h' | h'
      · exact h'
      · rw [Array.getElem?_eq_none h'] at h; simp at h
    rw [ha g hlt]
    exact h
theorem PowH.agr {P : Program} {H H' : Heap} (h : PowH P H) (ha : Agr (Old H) H H') : PowH P H' := by
  intro w hw
  subst hw
  have := h { w with heap := H } rfl
  exact var_agr (w := { w with heap := H }) (w' := w) this ha
/-- A function that puts an int's decimal text behind bytes. -/
structure AppInt (P : Program) (f : FuncId) (e : TypeId) : Prop where
  call : ∀ (args : Array Value) (w : World), (callFunc f args).run P w = .ok (.enter f args) w
  run_ : ∀ (B n : Nat) (i : Int) (sv : Value) (xs : List Value) (w : World), -9223372036854775808 ≤ i → i ≤ 9223372036854775807 → w.ownsRow B e 1 sv n xs → B ≤ w.heap.size → n + 21 ≤ 140737488355328 → TabBelow P B w powN .u64 pow10Tab →
    Calls P f #[sv, .int .i64 i, .int .i64 10] w fun e' w' => ∃ v', e' = .returned v' ∧ w'.ownsRow B e 1 v' (n + (itoa i).length) (xs ++ Go.Lib.byteCells (itoa i)) ∧ Below B w w' ∧ OthersKept e none w w'
abbrev tU8 : Ty Int := tInt .u8
/-- The digits as numbers. -/
def digL (i : Int) : List Int := (itoa i).map fun b => (b.toNat : Int)
theorem digL_len (i : Int) : (digL i).length = (itoa i).length := List.length_map _
theorem reps_u8 {S : Nat → Prop} {H : Heap} : ∀ {xs : List Int} {cs : List Value}, tU8.reps S H cs xs → cs = xs.map (Value.int .u8) ∧ ∀ x ∈ xs, inK .u8 x
  | [], _, h => by cases h; exact ⟨rfl, fun x hx => by cases hx⟩
  | x :: xs, _, h => by
    obtain ⟨c, r, rfl, ⟨rfl, h1⟩, h2⟩ := h
    obtain ⟨rfl, h3⟩ := reps_u8 h2
    refine ⟨rfl, fun y hy => ?_⟩
    rcases List.mem_cons.1 hy with rfl | hy
    · exact h1
    · exact h3 y hy
theorem u8_reps {S : Nat → Prop} {H : Heap} : ∀ {xs : List Int}, (∀ x ∈ xs, inK .u8 x) → tU8.reps S H (xs.map (Value.int .u8)) xs
  | [], _ => rfl
  | x :: xs, h => ⟨[.int .u8 x], xs.map (Value.int .u8), rfl, ⟨rfl, h x (by simp)⟩, u8_reps fun y hy => h y (by simp [hy])⟩
theorem digL_cells (i : Int) : Go.Lib.byteCells (itoa i) = (digL i).map (Value.int .u8) := by
  unfold Go.Lib.byteCells digL
  rw [List.map_map]
  rfl
theorem inU8b (b : UInt8) : inK .u8 (b.toNat : Int) := inU8 (UInt8.toNat_lt b)
theorem appI {P : Program} {f : FuncId} {H0 H : Heap} {e : TypeId} {a : Option Addr} {n cap : Nat} {xs : List Int} {i : Int} {K : Value → Heap → Prop} (hf : AppInt P f e) (st : St H0 H [pS tU8 e a n cap xs]) (hpow : PowH P H0) (h0 : -9223372036854775808 ≤ i) (h1 : i ≤ 9223372036854775807) (hn : xs.length + 21 ≤ 140737488355328)
    (k : ∀ a' cap' H', St H0 H' [pS tU8 e a' (xs ++ digL i).length cap' (xs ++ digL i)] → K (.slice a' (xs ++ digL i).length cap') H') : VCall P f #[.slice a n cap, .int .i64 i, .int .i64 10] H K := by
  obtain ⟨hown, -⟩ := st.at_ 0 rfl
  obtain ⟨cs, ⟨hcl, hcase⟩, hreps⟩ := hown
  obtain ⟨rfl, hrng⟩ := reps_u8 hreps
  refine ⟨fun w hw => ⟨hf.call _ w, ?_⟩⟩
  subst hw
  have hnl : n = xs.length := by
    rcases hcase with ⟨he, hn0⟩ | ⟨b, c, l, he, -⟩
    · injection he with e1 e2 e3; omega
    · injection he
  have hrow : w.ownsRow H0.size e 1 (.slice a n cap) xs.length (xs.map (Value.int .u8)) := by
    refine ⟨by rw [List.length_map, Nat.mul_one], ?_⟩
    rcases hcase with ⟨he, hn0⟩ | ⟨b, c, l, he, -, hb, hnc, hcm, hll, htk⟩
    · exact .inl ⟨he, hn0⟩
    · have hge : H0.size ≤ b := by
        have := (st.in_ 0 rfl (k := b) (.inl ⟨0, n, cap, by rw [he]; injection he with e1 e2 e3; subst e1; subst e2; subst e3; rfl⟩)).1
        unfold Old at this
        omega
      exact .inr ⟨b, c, l.toArray, he, hge, hb, hnc, hcm, by rw [List.size_toArray]; exact hll, htk⟩
  have htab : TabBelow P H0.size w powN .u64 pow10Tab := fun w' hb => (hpow.agr (st.old.trans (show Agr (Old H0) w.heap w'.heap from fun j hj => hb.block j hj))) w' rfl
  refine (hf.run_ H0.size xs.length i _ _ w h0 h1 hrow (old_size st.old) hn htab).mono ?_
  rintro _ w' ⟨v', rfl, hown', hbel, -⟩
  obtain ⟨hl', hc'⟩ := hown'
  have hlen : xs.length + (itoa i).length = (xs ++ digL i).length := by rw [List.length_append, digL_len]
  rw [hlen] at hc' hl'
  have hag : Agr (Old H0) H0 w'.heap := st.old.trans (show Agr (Old H0) w.heap w'.heap from fun j hj => hbel.block j hj)
  have hreps' : tU8.reps none_ w'.heap (xs.map (Value.int .u8) ++ Go.Lib.byteCells (itoa i)) (xs ++ digL i) := by
    rw [digL_cells, ← List.map_append]
    refine u8_reps fun x hx => ?_
    rcases List.mem_append.1 hx with hx | hx
    · exact hrng x hx
    · obtain ⟨b, -, rfl⟩ := List.mem_map.1 hx
      exact inU8b b
  have mk : ∀ a' cap', v' = .slice a' (xs ++ digL i).length cap' → SlO tU8 none_ w'.heap H0.size e v' (xs ++ digL i) → ∃ H', H' = w'.heap ∧ St H0 H' [pS tU8 e a' (xs ++ digL i).length cap' (xs ++ digL i)] := fun a' cap' hv hs => by
    subst hv
    refine ⟨_, rfl, ?_⟩
    obtain ⟨a2, c2, e2, st2⟩ := (St.nil H0).got hag hs
    injection e2 with e21 e22 e23
    subst e21; subst e23
    exact st2
  have hs : SlO tU8 none_ w'.heap H0.size e v' (xs ++ digL i) := by
    refine ⟨_, ⟨hl', ?_⟩, hreps'⟩
    rcases hc' with ⟨he, hn0⟩ | ⟨b, c, l, he, hge, hb, hnc, hcm, hll, htk⟩
    · exact .inl ⟨he, hn0⟩
    · exact .inr ⟨b, c, l.toList, he, hge, hb, hnc, hcm, by rw [Array.length_toList]; exact hll, htk⟩
  obtain ⟨a', cap', rfl⟩ := hs.hull
  obtain ⟨_, rfl, st'⟩ := mk a' cap' rfl hs
  exact ⟨_, rfl, ⟨hbel.os.symm ▸ rfl, hbel.tape.symm ▸ rfl, hbel.output.symm ▸ rfl⟩, k a' cap' _ st'⟩
end Go.VC
namespace Go.Proofs.YthomdogheamfpaaDoor
open Go.VC
def laysM176_ren : Go.Shelf.Ren := ⟨fun | 176 => 90 | 249 => 116 | 288 => 128 | 283 => 130 | 284 => 131 | 285 => 132 | 286 => 133 | 129 => 143 | 317 => 145 | 318 => 146 | 319 => 147 | 320 => 148 | 337 => 154 | 338 => 155 | n => n, fun | 37 => 85 | 2 => 2 | 3 => 3 | 53 => 69 | 4 => 4 | 9 => 9 | 171 => 210 | 0 => 0 | 173 => 212 | 212 => 225 | 51 => 222 | 5 => 5 | 20 => 20 | 213 => 226 | 46 => 188 | 232 => 236 | 233 => 237 | n => n, fun | 17 => 1 | 18 => 3 | 19 => 4 | n => n⟩
theorem laysM176 : Go.Proofs.LaysM.n176 Tryd.prog laysM176_ren := {
  mixed := by kernel_rfl
  f129 := Tryd.func143.trans (congrArg some (by kernel_rfl))
  f176 := Tryd.func90.trans (congrArg some (by kernel_rfl))
  f249 := Tryd.func116.trans (congrArg some (by kernel_rfl))
  f283 := Tryd.func130.trans (congrArg some (by kernel_rfl))
  f284 := Tryd.func131.trans (congrArg some (by kernel_rfl))
  f285 := Tryd.func132.trans (congrArg some (by kernel_rfl))
  f286 := Tryd.func133.trans (congrArg some (by kernel_rfl))
  f288 := Tryd.func128.trans (congrArg some (by kernel_rfl))
  f317 := Tryd.func145.trans (congrArg some (by kernel_rfl))
  f318 := Tryd.func146.trans (congrArg some (by kernel_rfl))
  f319 := Tryd.func147.trans (congrArg some (by kernel_rfl))
  f320 := Tryd.func148.trans (congrArg some (by kernel_rfl))
  f337 := Tryd.func154.trans (congrArg some (by kernel_rfl))
  f338 := Tryd.func155.trans (congrArg some (by kernel_rfl))
  t0 := Tryd.underlying0
  a0 := Tryd.isAgg0
  z0 := Tryd.sizeOf0
  v0 := Tryd.zeroValue0
  t2 := Tryd.underlying2
  a2 := Tryd.isAgg2
  z2 := Tryd.sizeOf2
  v2 := Tryd.zeroValue2
  t3 := Tryd.underlying3
  a3 := Tryd.isAgg3
  z3 := Tryd.sizeOf3
  v3 := Tryd.zeroValue3
  t4 := Tryd.underlying4
  a4 := Tryd.isAgg4
  z4 := Tryd.sizeOf4
  v4 := Tryd.zeroValue4
  t5 := Tryd.underlying5
  a5 := Tryd.isAgg5
  z5 := Tryd.sizeOf5
  v5 := Tryd.zeroValue5
  t9 := Tryd.underlying9
  a9 := Tryd.isAgg9
  z9 := Tryd.sizeOf9
  v9 := Tryd.zeroValue9
  t20 := Tryd.underlying20
  a20 := Tryd.isAgg20
  z20 := Tryd.sizeOf20
  v20 := Tryd.zeroValue20
  t37 := Tryd.underlying85
  a37 := Tryd.isAgg85
  z37 := Tryd.sizeOf85
  v37 := Tryd.zeroValue85
  t46 := Tryd.underlying188
  a46 := Tryd.isAgg188
  z46 := Tryd.sizeOf188
  v46 := Tryd.zeroValue188
  t51 := Tryd.underlying222
  a51 := Tryd.isAgg222
  z51 := Tryd.sizeOf222
  v51 := Tryd.zeroValue222
  t53 := Tryd.underlying69
  a53 := Tryd.isAgg69
  z53 := Tryd.sizeOf69
  v53 := Tryd.zeroValue69
  t171 := Tryd.underlying210
  a171 := Tryd.isAgg210
  z171 := Tryd.sizeOf210
  v171 := Tryd.zeroValue210
  t173 := Tryd.underlying212
  a173 := Tryd.isAgg212
  z173 := Tryd.sizeOf212
  v173 := Tryd.zeroValue212
  t212 := Tryd.underlying225
  a212 := Tryd.isAgg225
  z212 := Tryd.sizeOf225
  v212 := Tryd.zeroValue225
  t213 := Tryd.underlying226
  a213 := Tryd.isAgg226
  z213 := Tryd.sizeOf226
  t232 := Tryd.underlying236
  a232 := Tryd.isAgg236
  z232 := Tryd.sizeOf236
  v232 := Tryd.zeroValue236
  t233 := Tryd.underlying237
  a233 := Tryd.isAgg237
  z233 := Tryd.sizeOf237
  v233 := Tryd.zeroValue237
  g17 := by kernel_rfl
  g18 := by kernel_rfl
  g19 := by kernel_rfl
  i0 := by kernel_rfl
  i2 := by kernel_rfl
  i3 := by kernel_rfl
  i4 := by kernel_rfl
  i5 := by kernel_rfl
  i9 := by kernel_rfl
  i20 := by kernel_rfl
  i37 := by kernel_rfl
  i46 := by kernel_rfl
  i51 := by kernel_rfl
  i53 := by kernel_rfl
  i171 := by kernel_rfl
  i173 := by kernel_rfl
  i212 := by kernel_rfl
  i232 := by kernel_rfl
  i233 := by kernel_rfl
  m17 := by kernel_rfl
  m18 := by kernel_rfl
  m19 := by kernel_rfl }
theorem appInt_ : AppInt Tryd.prog 90 5 where
  call := Tryd.call90
  run_ B n i sv xs w h0 h1 hown hB hlim htab := Go.Proofs.Any.strconv_AppendInt_10 laysM176 B n i h0 h1 sv xs w hown hB hlim htab
end Go.Proofs.YthomdogheamfpaaDoor
/- strconv.Itoa, strings.IndexByte, (*strings.Builder).String: the kit's shelf, laid by its tool. -/
set_option linter.unusedVariables false
set_option linter.unusedSimpArgs false
set_option maxRecDepth 100000
namespace Go.Proofs.YthomdogheamfpaaDoor
open Go.Shelf Go.Proofs Go.VC
def lays169_ren : Go.Shelf.Ren := ⟨fun | 169 => 56 | n => n, fun | 70 => 100 | 9 => 9 | 0 => 0 | 72 => 102 | 37 => 85 | 127 => 174 | 3 => 3 | 5 => 5 | n => n, fun | n => n⟩
theorem lays169 : Go.Proofs.Lays.n169 Tryd.prog lays169_ren := {
  mixed := by kernel_rfl
  f169 := Tryd.func56.trans (congrArg some (by kernel_rfl))
  t0 := Tryd.underlying0
  a0 := Tryd.isAgg0
  z0 := Tryd.sizeOf0
  v0 := Tryd.zeroValue0
  t3 := Tryd.underlying3
  a3 := Tryd.isAgg3
  z3 := Tryd.sizeOf3
  v3 := Tryd.zeroValue3
  t9 := Tryd.underlying9
  a9 := Tryd.isAgg9
  z9 := Tryd.sizeOf9
  v9 := Tryd.zeroValue9
  t37 := Tryd.underlying85
  a37 := Tryd.isAgg85
  z37 := Tryd.sizeOf85
  v37 := Tryd.zeroValue85
  t70 := Tryd.underlying100
  a70 := Tryd.isAgg100
  z70 := Tryd.sizeOf100
  v70 := Tryd.zeroValue100
  t72 := Tryd.underlying102
  a72 := Tryd.isAgg102
  z72 := Tryd.sizeOf102
  v72 := Tryd.zeroValue102
  t127 := Tryd.underlying174
  a127 := Tryd.isAgg174
  z127 := Tryd.sizeOf174
  v127 := Tryd.zeroValue174 }
theorem Builder_Extra_169 : Builder.Extra Tryd.prog lays169_ren := {
  sizeBuilder := by kernel_rfl
  liesBuilder := by kernel_rfl
  t5 := Tryd.underlying5
  a5 := Tryd.isAgg5
  z5 := Tryd.sizeOf5
  v5 := Tryd.zeroValue5
  infoByte := by kernel_rfl
  cellsByte := by kernel_rfl
  sizeByte := by kernel_rfl
  neB5 := by decide }
def lays137_ren : Go.Shelf.Ren := ⟨fun | 137 => 120 | 217 => 129 | 266 => 144 | n => n, fun | 9 => 9 | 5 => 5 | 3 => 3 | n => n, fun | n => n⟩
theorem lays137 : Go.Proofs.Lays.n137 Tryd.prog lays137_ren := {
  mixed := by kernel_rfl
  f137 := Tryd.func120.trans (congrArg some (by kernel_rfl))
  f217 := Tryd.func129.trans (congrArg some (by kernel_rfl))
  f266 := Tryd.func144.trans (congrArg some (by kernel_rfl))
  t3 := Tryd.underlying3
  a3 := Tryd.isAgg3
  z3 := Tryd.sizeOf3
  v3 := Tryd.zeroValue3
  t5 := Tryd.underlying5
  a5 := Tryd.isAgg5
  z5 := Tryd.sizeOf5
  v5 := Tryd.zeroValue5
  t9 := Tryd.underlying9
  a9 := Tryd.isAgg9
  z9 := Tryd.sizeOf9
  v9 := Tryd.zeroValue9 }
open Go.RowKit in
theorem strings_IndexByte (s : ByteArray) (c : Int) (w : World) :
    Calls Tryd.prog 120 #[.string s, .int .u8 c] w fun e w' => e = .returned (.int .i64 (Lib.indexByte s.data.toList c.toNat.toUInt8)) ∧ w' = w := Any.strings_IndexByte lays137 s c w
open Go.RowKit in
theorem Builder_String_any_k (B b : Nat) (l : List UInt8) (w : World) (h : Lib.IsBuilderF 102 5 B b (Lib.byteCells l) w) (hBw : B ≤ w.heap.size) :
    Calls Tryd.prog 56 #[.pointer (some ⟨b, 0, none⟩)] w fun e w' => e = .returned (.string ⟨l.toArray⟩) ∧ (Lib.IsBuilderF 102 5 B b (Lib.byteCells l) w' ∧ Below B w w' ∧ Lib.OthersKept 5 (some b) w w') := Any.Builder_String_any_k lays169 Builder_Extra_169 B b l w h hBw
def laysM171_ren : Go.Shelf.Ren := ⟨fun | 171 => 54 | 243 => 99 | 246 => 122 | 283 => 130 | 284 => 131 | 285 => 132 | 286 => 133 | 129 => 143 | 317 => 145 | 318 => 146 | 319 => 147 | 320 => 148 | 337 => 154 | 338 => 155 | n => n, fun | 3 => 3 | 9 => 9 | 2 => 2 | 4 => 4 | 171 => 210 | 0 => 0 | 53 => 69 | 37 => 85 | 5 => 5 | 173 => 212 | 212 => 225 | 51 => 222 | 20 => 20 | 213 => 226 | 46 => 188 | 232 => 236 | 233 => 237 | n => n, fun | 17 => 1 | 18 => 3 | 19 => 4 | n => n⟩
theorem laysM171 : Go.Proofs.LaysM.n171 Tryd.prog laysM171_ren := {
  mixed := by kernel_rfl
  f129 := Tryd.func143.trans (congrArg some (by kernel_rfl))
  f171 := Tryd.func54.trans (congrArg some (by kernel_rfl))
  f243 := Tryd.func99.trans (congrArg some (by kernel_rfl))
  f246 := Tryd.func122.trans (congrArg some (by kernel_rfl))
  f283 := Tryd.func130.trans (congrArg some (by kernel_rfl))
  f284 := Tryd.func131.trans (congrArg some (by kernel_rfl))
  f285 := Tryd.func132.trans (congrArg some (by kernel_rfl))
  f286 := Tryd.func133.trans (congrArg some (by kernel_rfl))
  f317 := Tryd.func145.trans (congrArg some (by kernel_rfl))
  f318 := Tryd.func146.trans (congrArg some (by kernel_rfl))
  f319 := Tryd.func147.trans (congrArg some (by kernel_rfl))
  f320 := Tryd.func148.trans (congrArg some (by kernel_rfl))
  f337 := Tryd.func154.trans (congrArg some (by kernel_rfl))
  f338 := Tryd.func155.trans (congrArg some (by kernel_rfl))
  t0 := Tryd.underlying0
  a0 := Tryd.isAgg0
  z0 := Tryd.sizeOf0
  v0 := Tryd.zeroValue0
  t2 := Tryd.underlying2
  a2 := Tryd.isAgg2
  z2 := Tryd.sizeOf2
  v2 := Tryd.zeroValue2
  t3 := Tryd.underlying3
  a3 := Tryd.isAgg3
  z3 := Tryd.sizeOf3
  v3 := Tryd.zeroValue3
  t4 := Tryd.underlying4
  a4 := Tryd.isAgg4
  z4 := Tryd.sizeOf4
  v4 := Tryd.zeroValue4
  t5 := Tryd.underlying5
  a5 := Tryd.isAgg5
  z5 := Tryd.sizeOf5
  v5 := Tryd.zeroValue5
  t9 := Tryd.underlying9
  a9 := Tryd.isAgg9
  z9 := Tryd.sizeOf9
  v9 := Tryd.zeroValue9
  t20 := Tryd.underlying20
  a20 := Tryd.isAgg20
  z20 := Tryd.sizeOf20
  v20 := Tryd.zeroValue20
  t37 := Tryd.underlying85
  a37 := Tryd.isAgg85
  z37 := Tryd.sizeOf85
  v37 := Tryd.zeroValue85
  t46 := Tryd.underlying188
  a46 := Tryd.isAgg188
  z46 := Tryd.sizeOf188
  v46 := Tryd.zeroValue188
  t51 := Tryd.underlying222
  a51 := Tryd.isAgg222
  z51 := Tryd.sizeOf222
  v51 := Tryd.zeroValue222
  t53 := Tryd.underlying69
  a53 := Tryd.isAgg69
  z53 := Tryd.sizeOf69
  v53 := Tryd.zeroValue69
  t171 := Tryd.underlying210
  a171 := Tryd.isAgg210
  z171 := Tryd.sizeOf210
  v171 := Tryd.zeroValue210
  t173 := Tryd.underlying212
  a173 := Tryd.isAgg212
  z173 := Tryd.sizeOf212
  v173 := Tryd.zeroValue212
  t212 := Tryd.underlying225
  a212 := Tryd.isAgg225
  z212 := Tryd.sizeOf225
  v212 := Tryd.zeroValue225
  t213 := Tryd.underlying226
  a213 := Tryd.isAgg226
  z213 := Tryd.sizeOf226
  t232 := Tryd.underlying236
  a232 := Tryd.isAgg236
  z232 := Tryd.sizeOf236
  v232 := Tryd.zeroValue236
  t233 := Tryd.underlying237
  a233 := Tryd.isAgg237
  z233 := Tryd.sizeOf237
  v233 := Tryd.zeroValue237
  g17 := by kernel_rfl
  g18 := by kernel_rfl
  g19 := by kernel_rfl
  i0 := by kernel_rfl
  i2 := by kernel_rfl
  i3 := by kernel_rfl
  i4 := by kernel_rfl
  i5 := by kernel_rfl
  i9 := by kernel_rfl
  i20 := by kernel_rfl
  i37 := by kernel_rfl
  i46 := by kernel_rfl
  i51 := by kernel_rfl
  i53 := by kernel_rfl
  i171 := by kernel_rfl
  i173 := by kernel_rfl
  i212 := by kernel_rfl
  i232 := by kernel_rfl
  i233 := by kernel_rfl
  m17 := by kernel_rfl
  m18 := by kernel_rfl
  m19 := by kernel_rfl }
open Go.RowKit Go.Sort Go.Lib in
theorem strconv_Itoa (n : Int) (h0 : -9223372036854775808 ≤ n) (h1 : n ≤ 9223372036854775807) (w : World) (htab : Lib.TabIs Tryd.prog w "internal/strconv.uint64pow10" .u64 Lib.pow10Tab) :
    Calls Tryd.prog 54 #[.int .i64 n] w fun e w' => e = .returned (.string ⟨(Lib.itoa n).toArray⟩) ∧ ∃ k os, w' = grow (w.drewN k) os := Any.strconv_Itoa laysM171 n h0 h1 w htab
end Go.Proofs.YthomdogheamfpaaDoor
/- strings.Builder: copyCheck, by the kit's own steps (its shelf's contract is for another text of copyCheck). -/
set_option linter.unusedVariables false
set_option linter.unusedSimpArgs false
set_option maxRecDepth 100000
namespace Go.Proofs.YthomdogheamfpaaDoor
open Go.Shelf Go.RowKit Go.Proofs
theorem bld_size : (Tryd.prog.info? 102).map (·.size) = some 2 := by kernel_rfl
theorem bld_lies : liesAt Tryd.prog Tryd.prog.depth 102 (2 / Tryd.prog.cellsOf 102) 0 102 1 = true := by kernel_rfl
set_option maxHeartbeats 1000000 in
theorem cc_used (b : Nat) (w : World) (h0 : w.cell? ⟨b, 0, none⟩ = some (.pointer (some ⟨b, 0, none⟩))) :
    Calls Tryd.prog 98 #[.pointer (some ⟨b, 0, none⟩)] w fun e w' => e = .returned (.tuple #[]) ∧ w' = w := by
  obtain ⟨j, hj, _⟩ := Option.map_eq_some_iff.1 bld_size
  have mixed : Tryd.prog.follows .mixedOrders = true := by kernel_rfl
  have t72 := Tryd.underlying102; have a72 := Tryd.isAgg102; have z72 := Tryd.sizeOf102; have v72 := Tryd.zeroValue102; have u72 := run_underlying t72
  have t70 := Tryd.underlying100; have a70 := Tryd.isAgg100; have z70 := Tryd.sizeOf100; have v70 := Tryd.zeroValue100; have u70 := run_underlying t70
  have t4 := Tryd.underlying4; have a4 := Tryd.isAgg4; have z4 := Tryd.sizeOf4; have v4 := Tryd.zeroValue4; have u4 := run_underlying t4
  have t164 := Tryd.underlying202; have a164 := Tryd.isAgg202; have z164 := Tryd.sizeOf202; have v164 := Tryd.zeroValue202; have u164 := run_underlying t164
  go_enter Tryd.func98, Tryd.ntmps98
  go_wp2
  rw [Lib.run_neq_ptr_same w _ t70 hj]
  go_wp2
  go_end0
  exact ⟨rfl, rfl⟩
set_option maxHeartbeats 1000000 in
theorem cc_fresh (b : Nat) (w : World) (h0 : w.cell? ⟨b, 0, none⟩ = some (.pointer none)) (hsh : w.shape? b = some (102, 2)) (hfz : w.frozen? ⟨b, 0, none⟩ = false) :
    Calls Tryd.prog 98 #[.pointer (some ⟨b, 0, none⟩)] w fun e w' => e = .returned (.tuple #[]) ∧ w' = w.setCell ⟨b, 0, none⟩ (.pointer (some ⟨b, 0, none⟩)) := by
  obtain ⟨j, hj, hjs⟩ := Option.map_eq_some_iff.1 bld_size
  have mixed : Tryd.prog.follows .mixedOrders = true := by kernel_rfl
  have t72 := Tryd.underlying102; have a72 := Tryd.isAgg102; have z72 := Tryd.sizeOf102; have v72 := Tryd.zeroValue102; have u72 := run_underlying t72
  have t70 := Tryd.underlying100; have a70 := Tryd.isAgg100; have z70 := Tryd.sizeOf100; have v70 := Tryd.zeroValue100; have u70 := run_underlying t70
  have t4 := Tryd.underlying4; have a4 := Tryd.isAgg4; have z4 := Tryd.sizeOf4; have v4 := Tryd.zeroValue4; have u4 := run_underlying t4
  have t164 := Tryd.underlying202; have a164 := Tryd.isAgg202; have z164 := Tryd.sizeOf202; have v164 := Tryd.zeroValue202; have u164 := run_underlying t164
  go_enter Tryd.func98, Tryd.ntmps98
  go_wp2
  rw [Lib.run_to_unsafe w ⟨b, 0, none⟩ t70 t164 hj (by rw [hjs]; decide) hsh (Nat.zero_lt_succ 1)]
  simp only [Result.andThen]
  rw [Oper.upon_value]
  go_wp2
  rw [run_callFunc_extern Tryd.func121 (by kernel_rfl) (by kernel_rfl) (by kernel_rfl) (e := Extern.AbiNoEscape.same) (by kernel_rfl)]
  rw [Lib.run_noEscape]
  simp only [Result.andThen]
  rw [Oper.upon_value]
  go_wp2
  rw [Lib.run_from_unsafe w ⟨b, 0, none⟩ t164 t70 hj hsh bld_lies]
  simp only [Result.andThen]
  rw [Oper.upon_value]
  go_wp2
  go_end0
  exact ⟨rfl, rfl⟩
end Go.Proofs.YthomdogheamfpaaDoor
/- Maps of the call's own whose keys are arrays or structs; going through a map. -/
set_option linter.unusedVariables false
set_option linter.unusedSimpArgs false
namespace Go.VC
structure MapTW (P : Program) (t kt et : TypeId) (z : Value) : Prop where
  under : P.underlying t = some (.map kt et)
  zero : (P.info? et).bind (·.zero) = some z
/-- What the model asks of keys, of all that are Ok. -/
structure KeyW (P : Program) (kt : TypeId) {α : Type} (Ok : α → Prop) (enc : α → Value) : Prop where
  inj : ∀ a b, enc a = enc b → a = b
  check : ∀ (w : World) (em : Bool) (a : α), Ok a → (Instr.checkKey em 10000 kt (enc a)).run P w = .ok () w
  find : ∀ (w : World) (a : α), Ok a → ∀ es : List MapEntry, (∀ e ∈ es, ∃ b, Ok b ∧ e.key = enc b) →
    ((Instr.findKey kt (enc a) es).run P w = .ok none w ∧ ∀ e ∈ es, e.key ≠ enc a) ∨ ∃ j e, (Instr.findKey kt (enc a) es).run P w = .ok (some (j, e.val)) w ∧ es[j]? = some e ∧ e.key = enc a
  stays : ∀ (w : World) (a : α), Ok a → (Instr.keyThatStays (enc a) (enc a)).run P w = .ok (enc a) w
theorem KeyW.ofLaw {P : Program} {kt : TypeId} {α : Type} {Ok : α → Prop} {enc : α → Value} (h : WideMaps.KeyLaw P kt) (hi : ∀ a b, enc a = enc b → a = b) (hk : ∀ a, Ok a → ∃ l, keyOf P kt (enc a) = some l) : KeyW P kt Ok enc :=
  ⟨hi, fun w em a ha => let ⟨_, e⟩ := hk a ha; h.check w em e, fun w a ha es hes => let ⟨_, e⟩ := hk a ha; h.find w e es fun x hx => by
      obtain ⟨b, hb, e⟩ := hes x hx
      rw [e]; exact hk b hb,
    fun w a ha => let ⟨_, e⟩ := hk a ha; h.stays w e⟩
/-- The map in block b holds m, all of whose keys are Ok. -/
def MapW {α : Type} (Ok : α → Prop) (enc : α → Value) (H : Heap) (b : Nat) (m : α → Option Value) : Prop := MapF enc H b m ∧ ∀ a v, m a = some v → Ok a
def TurnW {α : Type} (Ok : α → Prop) (enc : α → Value) (H : Heap) (K : Heap → Prop) (b : Nat) (m : α → Option Value) : Prop :=
  ∀ H', MapW Ok enc H' b m → Agr (fun k => k ≠ b) H H' → H'.size = H.size → K H'
section
variable {α : Type} {Ok : α → Prop} {enc : α → Value} {P : Program} {t kt et : TypeId} {z : Value} {S : Nat → Prop} {H : Heap} {b : Nat} {m : α → Option Value} {a : α}
theorem MapW.agr {H' : Heap} (h : MapW Ok enc H b m) (k : Agr S H H') (hb : S b) : MapW Ok enc H' b m := ⟨h.1.agr k hb, h.2⟩
theorem put_ok (h : ∀ a v, m a = some v → Ok a) (ha : Ok a) (v : Value) : ∀ b u, put m a (some v) b = some u → Ok b := fun b u hb => by
  by_cases hba : b = a
  · rw [hba]; exact ha
  · rw [put_ne hba] at hb; exact h b u hb
theorem find_specW (hk : KeyW P kt Ok enc) (ha : Ok a) (hok : ∀ a v, m a = some v → Ok a) {es : Array MapEntry} (hes : ∀ (i : Nat) (x : MapEntry), es[i]? = some x → ∃ a, x.key = enc a ∧ m a = some x.val) (hm : ∀ a v, m a = some v → ∃ (i : Nat) (x : MapEntry), es[i]? = some x ∧ x.key = enc a ∧ x.val = v) (w : World) :
    ((Instr.findKey kt (enc a) es.toList).run P w = .ok none w ∧ m a = none ∧ ∀ x ∈ es.toList, x.key ≠ enc a) ∨ ∃ j e, (Instr.findKey kt (enc a) es.toList).run P w = .ok (some (j, e.val)) w ∧ es[j]? = some e ∧ e.key = enc a ∧ m a = some e.val := by
  have hall : ∀ x ∈ es.toList, ∃ b, Ok b ∧ x.key = enc b := fun x hx => by
    obtain ⟨i, hi⟩ := List.getElem?_of_mem hx
    obtain ⟨b, e1, e2⟩ := hes i x (by simpa using hi)
    exact ⟨b, hok b _ e2, e1⟩
  rcases hk.find w a ha es.toList hall with ⟨h1, h2⟩ | ⟨j, e, h1, h2, h3⟩
  · refine .inl ⟨h1, ?_, h2⟩
    cases hma : m a with
    | none => rfl
    | some v =>
      obtain ⟨i, x, hx, he, _⟩ := hm a v hma
      exact absurd he (h2 x (List.mem_of_getElem? (by simpa using hx)))
  · have hj : es[j]? = some e := by simpa using h2
    refine .inr ⟨j, e, h1, hj, h3, ?_⟩
    obtain ⟨a', e1, e2⟩ := hes j e hj
    rw [hk.inj a a' (h3.symm.trans e1)]; exact e2
theorem mlookW (ht : MapTW P t kt et z) (hk : KeyW P kt Ok enc) (ha : Ok a) (h : MapW Ok enc H b m) (hb : S b) {K : Value → Prop} (k : K ((m a).getD z)) : VDet P (Instr.lookup t (.map (some b)) (enc a) false) S H K := by
  obtain ⟨⟨es, clock, h1, h2, h3, h4⟩, hok⟩ := h
  refine VDet.mk _ (fun w hw => ?_) k
  have hb' := (hw b hb).trans h1
  rcases find_specW hk ha hok h3 h4 w with ⟨e1, e2, e3⟩ | ⟨j, e, e1, e2, e3, e4⟩
  · simp [Instr.lookup, run_underlying ht.under, Go.MapKept.run_getObj_map hb', hk.check w _ a ha, e1, zero_run ht.zero, e2]
  · simp [Instr.lookup, run_underlying ht.under, Go.MapKept.run_getObj_map hb', hk.check w _ a ha, e1, e4]
theorem mlookOkW (ht : MapTW P t kt et z) (hk : KeyW P kt Ok enc) (ha : Ok a) (h : MapW Ok enc H b m) (hb : S b) {K : Value → Prop} (k : K (.tuple #[(m a).getD z, .bool (m a).isSome])) : VDet P (Instr.lookup t (.map (some b)) (enc a) true) S H K := by
  obtain ⟨⟨es, clock, h1, h2, h3, h4⟩, hok⟩ := h
  refine VDet.mk _ (fun w hw => ?_) k
  have hb' := (hw b hb).trans h1
  rcases find_specW hk ha hok h3 h4 w with ⟨e1, e2, e3⟩ | ⟨j, e, e1, e2, e3, e4⟩
  · simp [Instr.lookup, run_underlying ht.under, Go.MapKept.run_getObj_map hb', hk.check w _ a ha, e1, zero_run ht.zero, e2]
  · simp [Instr.lookup, run_underlying ht.under, Go.MapKept.run_getObj_map hb', hk.check w _ a ha, e1, e4]
theorem modify_oldW (hinj : ∀ a b, enc a = enc b → a = b) {es : Array MapEntry} {clock : Nat} (hs : Go.MapKept.Stamped es clock) (h3 : ∀ (i : Nat) (x : MapEntry), es[i]? = some x → ∃ a, x.key = enc a ∧ m a = some x.val) (h4 : ∀ a v, m a = some v → ∃ (i : Nat) (x : MapEntry), es[i]? = some x ∧ x.key = enc a ∧ x.val = v) {j : Nat} {e : MapEntry} (hj : es[j]? = some e) (he : e.key = enc a) {f : MapEntry → MapEntry} {v : Value}
    (hf1 : (f e).key = enc a) (hf2 : (f e).val = v) (hf3 : ∀ x, (f x).born = x.born) {H' : Heap}
    (hb : H'[b]? = some (.map (es.modify j f) clock)) : MapF enc H' b (put m a (some v)) ∧ StampF enc H' b a e.born := by
  have hgt : ∀ i x, (es.modify j f)[i]? = some x → (i ≠ j ∧ es[i]? = some x) ∨ (i = j ∧ x = f e) := by
    intro i x hx
    rw [Array.getElem?_modify] at hx
    by_cases hi : j = i
    · subst hi; rw [if_pos rfl, hj] at hx; exact .inr ⟨rfl, by cases hx; rfl⟩
    · rw [if_neg hi] at hx; exact .inl ⟨Ne.symm hi, hx⟩
  refine ⟨⟨_, _, hb, Go.MapKept.stamped_modify hs _ _ (fun x _ => hf3 x) (fun x _ hx => ?_), fun i x hx => ?_, fun a' v' hv => ?_⟩, _, _, hb, fun i x hx => ?_⟩
  · rw [hj] at hx; cases hx; rw [hf1, he]
  · rcases hgt i x hx with ⟨hne, hx⟩ | ⟨_, rfl⟩
    · obtain ⟨a', e1, e2⟩ := h3 i x hx
      have : a' ≠ a := fun h => hne (stamped_key hs hx hj (by rw [e1, h, he]))
      exact ⟨a', e1, by rw [put_ne this]; exact e2⟩
    · exact ⟨a, hf1, by rw [put_self, hf2]⟩
  · by_cases ha : a' = a
    · subst ha
      rw [put_self] at hv
      cases hv
      exact ⟨j, f e, by rw [Array.getElem?_modify, if_pos rfl, hj]; rfl, hf1, hf2⟩
    · rw [put_ne ha] at hv
      obtain ⟨i, x, hx, e1, e2⟩ := h4 a' v' hv
      refine ⟨i, x, ?_, e1, e2⟩
      rw [Array.getElem?_modify, if_neg ?_]
      · exact hx
      · rintro rfl
        rw [hj] at hx; cases hx
        exact ha (hinj _ _ (e1.symm.trans he))
  · rcases hgt i x hx with ⟨hne, hx⟩ | ⟨_, rfl⟩
    · exact ⟨fun h => absurd (stamped_born hs hx hj h) hne, fun h => absurd (stamped_key hs hx hj (h.trans he.symm)) hne⟩
    · exact ⟨fun _ => hf1, fun _ => hf3 e⟩
theorem mputW (ht : MapTW P t kt et z) (hk : KeyW P kt Ok enc) (ha : Ok a) (h : MapW Ok enc H b m) {v : Value} {K : Heap → Prop} (k : TurnW Ok enc H K b (put m a (some v))) : VEffU P (Instr.mapUpdate t (.map (some b)) (enc a) v) H K := by
  obtain ⟨⟨es, clock, h1, h2, h3, h4⟩, hok⟩ := h
  refine VEffU.mk fun w hw => ?_
  subst hw
  rcases find_specW hk ha hok h3 h4 w with ⟨e1, e2, e3⟩ | ⟨j, e, e1, e2, e3, e4⟩
  · obtain ⟨t1, t2, t3⟩ := set_turn (o' := .map (es.push ⟨enc a, v, clock⟩) (clock + 1)) h1
    exact ⟨setW w b (.map (es.push ⟨enc a, v, clock⟩) (clock + 1)), by simp [Instr.mapUpdate, run_underlying ht.under, Go.MapKept.run_getObj_map h1, hk.check w _ a ha, e1, Go.MapKept.run_setObj_map _ h1], ⟨rfl, rfl, rfl⟩, k _ ⟨(push_new h2 h3 h4 e3 t1).1, put_ok hok ha v⟩ t2 t3⟩
  · obtain ⟨t1, t2, t3⟩ := set_turn (o' := .map (es.modify j fun e => { e with key := enc a, val := v }) clock) h1
    exact ⟨setW w b (.map (es.modify j fun e => { e with key := enc a, val := v }) clock), by simp [Instr.mapUpdate, run_underlying ht.under, Go.MapKept.run_getObj_map h1, hk.check w _ a ha, e1, Go.MapKept.run_setObj_map _ h1, e2, e3, hk.stays w a ha], ⟨rfl, rfl, rfl⟩, k _ ⟨(modify_oldW hk.inj h2 h3 h4 e2 e3 (f := fun e => { e with key := enc a, val := v }) rfl rfl (fun _ => rfl) t1).1, put_ok hok ha v⟩ t2 t3⟩
theorem mmakeW {K : Value → Heap → Prop} (k : ∀ b H', b = H.size → H'.size = b + 1 → MapW Ok enc H' b (fun _ => none) → Agr (fun k => k < b) H H' → K (.map (some b)) H') : VEff P (Instr.makeMap t none) H K :=
  mmake fun b H' h1 h2 h3 h4 => k b H' h1 h2 ⟨h3, fun a v h => by cases h⟩ h4
end
end Go.VC

/- Going through a map of the call's own; wide-keyed maps and loops over them as pieces. -/
set_option linter.unusedVariables false
set_option linter.unusedSimpArgs false
namespace Go.VC
section
variable {α : Type} {Ok : α → Prop} {enc : α → Value} {P : Program} {t kt et : TypeId} {z : Value} {S : Nat → Prop} {H : Heap} {b r n : Nat} {m : α → Option Value} {D : α → Prop} {last : Option α}
end

/-! ### as pieces -/
section
variable {α : Type} {Ok : α → Prop} {enc : α → Value} {b r n : Nat} {m m' : α → Option Value} {D : α → Prop} {last : Option α} {B : Nat → Prop} {H0 H H' : Heap} {ps : List Pc} {P : Program} {t kt et : TypeId} {z : Value}
def pMW (Ok : α → Prop) (enc : α → Value) (b : Nat) (m : α → Option Value) : Pc := ⟨fun k => k = b, fun H => MapW Ok enc H b m, fun h hp => hp.agr h rfl⟩
theorem StB.mapW (st : StB B H0 H ps) (i : Nat) (hp : ps[i]? = some (pMW Ok enc b m)) : MapW Ok enc H b m := st.at_ i hp
theorem StB.mapNewW (st : StB B H0 H ps) (hb : b = H.size) (hs : H'.size = b + 1) (hm : MapW Ok enc H' b (fun _ => none)) (ha : Agr (fun k => k < b) H H') : StB B H0 H' (ps ++ [pMW Ok enc b fun _ => none]) := by
  subst hb
  exact st.add (ha.mono fun k hk => hk) _ hm fun k hk => by have : k = H.size := hk; omega
theorem mputPW {v : Value} {a : α} {K : Heap → Prop} (st : StB B H0 H ps) (i : Nat) (ht : MapTW P t kt et z) (hk : KeyW P kt Ok enc) (ha : Ok a) (hp : ps[i]? = some (pMW Ok enc b m)) (hm : put m a (some v) = m')
    (k : ∀ H', StB B H0 H' (ps.set i (pMW Ok enc b m')) → K H') : VEffU P (Instr.mapUpdate t (.map (some b)) (enc a) v) H K := by
  refine mputW ht hk ha (st.mapW i hp) ?_
  intro H' hb' ha' hs'
  subst hm
  exact k H' (st.upd i hp (ha'.mono fun k hk hkb => hk.2 hkb) _ hb' (fun k hk => .inl hk) (fun k hk => by rw [hs']; exact (st.in_ i hp hk).2) (by omega))
end
end Go.VC

/- Appending to own slices without a bound but the model's; maps of slices with wide keys as pieces. -/
set_option linter.unusedVariables false
set_option linter.unusedSimpArgs false
namespace Go.VC
section
variable {α : Type} {T : Ty α} {e : TypeId} {a : Option Addr} {n cap : Nat} {xs : List α} {B : Nat → Prop} {H0 H : Heap} {ps : List Pc}
theorem appG {P : Program} {t ty q o m cap2 by_ : Nat} {z : Value} {ys : List α} {ds : List Value} {K : Value → Heap → Prop} (st : StB B H0 H ps) (i : Nat) (ht : SlT P t e T.size by_ z) (hp : ps[i]? = some (pS T e a n cap xs))
    (hd : Cells H q o ds) (hy : T.reps none_ H ds ys) (hm : m = ys.length) (h1 : ∀ u ∈ ds, u.oneCell' = true) (h63 : xs.length + ys.length ≤ maxLen) (hby : (xs.length + ys.length) * by_ ≤ 140737488355328)
    (k : ∀ a' cap' H', StB B H0 H' (ps.set i (pS T e a' (xs.length + ys.length) cap' (xs ++ ys))) → Agr (fun k => k < H.size ∧ ¬ slB (.slice a n cap) k) H H' → K (.slice a' (xs.length + ys.length) cap') H') :
    VEff P (Builtin.append_ #[t, t] ty [.slice a n cap, .slice (some ⟨q, o, none⟩) m cap2].toArray) H K := by
  refine vappendO (T := T) (S := none_) (lo := 0) ht (st.at_ i hp).1 (Nat.zero_le _) (fun k hk => hk.elim) hd hy hm h1 h63 hby ?_
  intro v' H' hown hagr hsz hfr
  obtain ⟨a', cap', rfl⟩ := hown.hull
  rw [List.length_append] at hown hfr ⊢
  refine k a' cap' H' (st.upd i hp (hagr.mono fun k hk => ⟨hk.1, fun hb => hk.2 (.inl hb)⟩) _ ⟨hown, fun k hk => hk.elim⟩ (fun k hk => ?_) (fun k hk => ?_) hsz) hagr
  · rcases hk with hk | hk
    · rcases hfr k hk with h | h
      · exact .inl (.inl h)
      · exact .inr h
    · exact hk.elim
  · rcases hk with hk | hk
    · exact (hown.lt hk).2
    · exact hk.elim
end

/-! ### maps of slices -/
section
variable {α β : Type} {Ok : α → Prop} {enc : α → Value} {T : Ty β} {e : TypeId} {b : Nat} {m : α → Option Value} {xs : α → List β} {B : Nat → Prop} {H0 H H' : Heap} {ps : List Pc} {P : Program} {t kt et : TypeId} {a : α}
end
end Go.VC

/- A block whose cells hold slices of the call's own, of several types. -/
set_option linter.unusedVariables false
set_option linter.unusedSimpArgs false
namespace Go.VC
/-- What a slice of the call's own holds. -/
structure Slot where
  ok : Heap → Value → Prop
  fr : ∀ {S : Nat → Prop} {H H' : Heap} {v : Value}, Agr S H H' → (∀ k, slB v k → S k) → ok H v → ok H' v
  lt : ∀ {H : Heap} {v : Value} {k : Nat}, ok H v → slB v k → k < H.size
def slot {α : Type} (T : Ty α) (e : TypeId) (xs : List α) : Slot := ⟨fun H v => SlO T none_ H 0 e v xs, fun h hb hv => hv.agr h hb (fun _ f => f.elim), fun h hk => (h.lt hk).2⟩
def updS (ss : Nat → Slot) (j : Nat) (s : Slot) : Nat → Slot := fun i => if i = j then s else ss i
theorem updS_self (ss : Nat → Slot) (j : Nat) (s : Slot) : updS ss j s j = s := if_pos rfl
theorem updS_ne {ss : Nat → Slot} {i j : Nat} {s : Slot} (h : i ≠ j) : updS ss j s i = ss i := if_neg h
section
variable {α : Type} {T : Ty α} {B : Nat → Prop} {H0 H H1 : Heap} {ps : List Pc} {e te : TypeId} {b : Nat} {vs : List Value} {ss : Nat → Slot} {xs : List α} {v : Value} {j : Nat}
def pF (te : TypeId) (b : Nat) (vs : List Value) (ss : Nat → Slot) : Pc where
  foot k := k = b ∨ ∃ (i : Nat) (v : Value), vs[i]? = some v ∧ slB v k
  ok H := Blk H b te vs ∧ (∀ (i : Nat) (v : Value), vs[i]? = some v → (ss i).ok H v) ∧ (∀ (i j : Nat) (v w : Value) (k : Nat), i ≠ j → vs[i]? = some v → vs[j]? = some w → slB v k → ¬ slB w k) ∧ ∀ (i : Nat) (v : Value), vs[i]? = some v → ¬ slB v b
  fr h hp := ⟨hp.1.agr h (.inl rfl), fun i v hv => (ss i).fr h (fun k hk => .inr ⟨i, v, hv, hk⟩) (hp.2.1 i v hv), hp.2.2⟩
theorem nil_slB {k : Nat} : ¬ slB (.slice none 0 0) k := fun ⟨_, _, _, h⟩ => by cases h
theorem StB.fldNew {n : Nat} (st : StB B H0 H ps) (i : Nat) (hp : ps[i]? = some (pB te b (List.replicate n (.slice none 0 0)))) (hs : ∀ j H, (ss j).ok H (.slice none 0 0)) : StB B H0 H (ps.set i (pF te b (List.replicate n (.slice none 0 0)) ss)) := by
  have hz : ∀ (j : Nat) (v : Value), (List.replicate n (Value.slice none 0 0))[j]? = some v → v = .slice none 0 0 := fun j v hv => by
    exact List.eq_of_mem_replicate (List.mem_of_getElem? hv)
  refine st.upd i hp (Agr.refl _ _) (pF te b (List.replicate n (.slice none 0 0)) ss) ⟨st.blk i hp, fun j v hv => by rw [hz j v hv]; exact hs j H, fun i j v w k _ hv hw hk => ?_, fun j v hv hk => ?_⟩ (fun k hk => ?_) (fun k hk => ?_) (Nat.le_refl _)
  · rw [hz i v hv] at hk; exact absurd hk nil_slB
  · rw [hz j v hv] at hk; exact nil_slB hk
  · rcases hk with hk | ⟨j, v, hv, hk⟩
    · exact .inl hk
    · rw [hz j v hv] at hk; exact absurd hk nil_slB
  · rcases hk with hk | ⟨j, v, hv, hk⟩
    · exact (st.in_ i hp hk).2
    · rw [hz j v hv] at hk; exact absurd hk nil_slB
theorem StB.fblk (st : StB B H0 H ps) (i : Nat) (hp : ps[i]? = some (pF te b vs ss)) : Blk H b te vs := (st.at_ i hp).1
theorem StB.fview (st : StB B H0 H ps) (i : Nat) (hp : ps[i]? = some (pF te b vs ss)) (hv : vs[j]? = some v) (hs : ss j = slot T e xs) : ∃ a cap, v = .slice a xs.length cap ∧ SlD T (Old H) H a cap xs := by
  have h := (st.at_ i hp).2.1 j v hv
  rw [hs] at h
  obtain ⟨a, cap, h1, h2, -⟩ := SlO.view (S' := Old H) (h : SlO T none_ H 0 e v xs) (fun k hk => (st.in_ i hp (.inr ⟨j, v, hv, hk⟩)).2) (fun _ f => f.elim)
  exact ⟨a, cap, h1, h2⟩
/-- The same, while the slice in cell j is out, as v'. -/
def pFm (te : TypeId) (b : Nat) (vs : List Value) (ss : Nat → Slot) (j : Nat) (s : Slot) (v' : Value) : Pc where
  foot k := k = b ∨ slB v' k ∨ ∃ (i : Nat) (v : Value), i ≠ j ∧ vs[i]? = some v ∧ slB v k
  ok H := Blk H b te vs ∧ j < vs.length ∧ s.ok H v' ∧ (∀ (i : Nat) (v : Value), i ≠ j → vs[i]? = some v → (ss i).ok H v) ∧ (∀ (i l : Nat) (v w : Value) (k : Nat), i ≠ j → l ≠ j → i ≠ l → vs[i]? = some v → vs[l]? = some w → slB v k → ¬ slB w k) ∧
    (∀ (i : Nat) (v : Value) (k : Nat), i ≠ j → vs[i]? = some v → slB v k → ¬ slB v' k) ∧ (∀ (i : Nat) (v : Value), i ≠ j → vs[i]? = some v → ¬ slB v b) ∧ ¬ slB v' b
  fr h hp := ⟨hp.1.agr h (.inl rfl), hp.2.1, s.fr h (fun k hk => .inr (.inl hk)) hp.2.2.1, fun i v hi hv => (ss i).fr h (fun k hk => .inr (.inr ⟨i, v, hi, hv, hk⟩)) (hp.2.2.2.1 i v hi hv), hp.2.2.2.2⟩
theorem appF {P : Program} {tt ty q o m cap2 by_ : Nat} {z : Value} {ys : List α} {ds : List Value} {K : Value → Heap → Prop} (st : StB B H0 H ps) (i : Nat) (ht : SlT P tt e T.size by_ z) (hp : ps[i]? = some (pF te b vs ss)) (hv : vs[j]? = some v) (hs : ss j = slot T e xs)
    (hd : Cells H q o ds) (hy : T.reps none_ H ds ys) (hm : m = ys.length) (h1 : ∀ u ∈ ds, u.oneCell' = true) (h63 : xs.length + ys.length ≤ maxLen) (hby : (xs.length + ys.length) * by_ ≤ 140737488355328)
    (k : ∀ v' H', StB B H0 H' (ps.set i (pFm te b vs ss j (slot T e (xs ++ ys)) v')) → Agr (fun k => k < H.size ∧ ¬ slB v k) H H' → v'.oneCell' = true → K v' H') :
    VEff P (Builtin.append_ #[tt, tt] ty [v, .slice (some ⟨q, o, none⟩) m cap2].toArray) H K := by
  obtain ⟨hblk, hall, hap, hb⟩ := st.at_ i hp
  have hown := hall j v hv
  rw [hs] at hown
  have hjl := (List.getElem?_eq_some_iff.1 hv).1
  have hbl : b < H.size := (st.in_ i hp (.inl rfl)).2
  have hlt : ∀ (l : Nat) (w : Value), vs[l]? = some w → ∀ k, slB w k → k < H.size := fun l w hw k hk => (st.in_ i hp (.inr ⟨l, w, hw, hk⟩)).2
  refine vappendO (T := T) (S := none_) (lo := 0) ht (hown : SlO T none_ H 0 e v xs) (Nat.zero_le _) (fun k hk => hk.elim) hd hy hm h1 h63 hby ?_
  intro v' H' hv' hagr hsz hfr
  refine k v' H' (st.upd i hp (hagr.mono fun k hk => ⟨hk.1, fun hb => hk.2 (.inr ⟨j, v, hv, hb⟩)⟩) (pFm te b vs ss j (slot T e (xs ++ ys)) v') ⟨hblk.agr hagr ⟨hbl, hb j v hv⟩, hjl, hv', fun l w hl hw => (ss l).fr hagr (fun k hk => ⟨hlt l w hw k hk, hap l j w v k hl hw hv hk⟩) (hall l w hw), fun l l' w w' k _ _ hll => hap l l' w w' k hll, fun l w k hl hw hk hk' => ?_, fun l w _ hw => hb l w hw, fun hk => ?_⟩ (fun k hk => ?_) (fun k hk => ?_) hsz) hagr hv'.one
  · rcases hfr k hk' with h | h
    · exact hap l j w v k hl hw hv hk h
    · have := hlt l w hw k hk; omega
  · rcases hfr b hk with h | h
    · exact hb j v hv h
    · omega
  · rcases hk with hk | hk | ⟨l, w, -, hw, hk⟩
    · exact .inl (.inl hk)
    · rcases hfr k hk with h | h
      · exact .inl (.inr ⟨j, v, hv, h⟩)
      · exact .inr h
    · exact .inl (.inr ⟨l, w, hw, hk⟩)
  · rcases hk with hk | hk | ⟨l, w, hl, hw, hk⟩
    · have : k = b := hk; omega
    · exact (hv'.lt hk).2
    · have := hlt l w hw k hk; omega
theorem stF {P : Program} {o : Nat} {s : Slot} {t : TypeId} {K : Heap → Prop} (st : StB B H0 H ps) (i : Nat) (ht : CellT P t) (hp : ps[i]? = some (pFm te b vs ss j s v)) (ho : o = j) (h1 : v.oneCell' = true)
    (k : ∀ H', StB B H0 H' (ps.set i (pF te b (vs.set j v) (updS ss j s))) → K H') : VEffU P (Instr.storeAt t (.pointer (some ⟨b, o, none⟩)) v) H K := by
  subst ho
  obtain ⟨hblk, hjl, hv', hall, hap, hapv, hb, hvb⟩ := st.at_ i hp
  refine VC.st1 ht hblk hjl h1 ?_
  intro H' hb' ha' hs'
  have e1 : ∀ (l : Nat) (w : Value), (vs.set o v)[l]? = some w → (l = o ∧ w = v) ∨ (l ≠ o ∧ vs[l]? = some w) := fun l w hw => by
    by_cases hl : l = o
    · subst hl
      rw [List.getElem?_set_self hjl] at hw
      cases hw; exact .inl ⟨rfl, rfl⟩
    · rw [List.getElem?_set_ne (Ne.symm hl)] at hw; exact .inr ⟨hl, hw⟩
  refine k H' (st.upd i hp (ha'.mono fun k hk hkb => hk.2 (.inl hkb)) (pF te b (vs.set o v) (updS ss o s)) ⟨hb', fun l w hw => ?_, fun l l' w w' kk hll hw hw' hk hk' => ?_, fun l w hw => ?_⟩ (fun k hk => ?_) (fun k hk => ?_) (by omega))
  · rcases e1 l w hw with ⟨rfl, rfl⟩ | ⟨hl, hw⟩
    · rw [updS_self]; exact s.fr ha' (fun k hk hkb => hvb (hkb ▸ hk)) hv'
    · rw [updS_ne hl]; exact (ss l).fr ha' (fun k hk hkb => hb l w hl hw (hkb ▸ hk)) (hall l w hl hw)
  · rcases e1 l w hw with ⟨rfl, rfl⟩ | ⟨hl, hw1⟩ <;> rcases e1 l' w' hw' with ⟨rfl, rfl⟩ | ⟨hl', hw1'⟩
    · exact hll rfl
    · exact hapv l' w' kk hl' hw1' hk' hk
    · exact hapv l w kk hl hw1 hk hk'
    · exact hap l l' w w' kk hl hl' hll hw1 hw1' hk hk'
  · rcases e1 l w hw with ⟨rfl, rfl⟩ | ⟨hl, hw⟩
    · exact hvb
    · exact hb l w hl hw
  · refine .inl ?_
    rcases hk with hk | ⟨l, w, hw, hk⟩
    · exact .inl hk
    · rcases e1 l w hw with ⟨rfl, rfl⟩ | ⟨hl, hw⟩
      · exact .inr (.inl hk)
      · exact .inr (.inr ⟨l, w, hl, hw, hk⟩)
  · rw [hs']
    rcases hk with hk | ⟨l, w, hw, hk⟩
    · exact (st.in_ i hp (.inl hk)).2
    · rcases e1 l w hw with ⟨rfl, rfl⟩ | ⟨hl, hw⟩
      · exact (st.in_ i hp (.inr (.inl hk))).2
      · exact (st.in_ i hp (.inr (.inr ⟨l, w, hl, hw, hk⟩))).2
end
end Go.VC
/- What the functions of package class compute: sets of bytes as 256 bits. -/
set_option linter.unusedVariables false
set_option linter.unusedSimpArgs false
set_option maxRecDepth 100000
namespace Go.Proofs.YthomdogheamfpaaDoor
open Go.VC

/-- Word i of a set. -/
def wd (s : BitVec 256) (i : Nat) : Nat := (s.toNat / 2 ^ (64 * i)) % 2 ^ 64
def setV (s : BitVec 256) : Value := .agg #[.int .u64 (wd s 0), .int .u64 (wd s 1), .int .u64 (wd s 2), .int .u64 (wd s 3)]
def setL (s : BitVec 256) : List Value := [.int .u64 (wd s 0), .int .u64 (wd s 1), .int .u64 (wd s 2), .int .u64 (wd s 3)]
theorem wd_lt (s : BitVec 256) (i : Nat) : wd s i < 2 ^ 64 := Nat.mod_lt _ (by decide)
theorem wd_in (s : BitVec 256) (i : Nat) : inK .u64 (wd s i : Int) := by
  have := wd_lt s i
  refine ⟨?_, ?_⟩ <;> simp only [IntKind.min, IntKind.max, IntKind.signed, IntKind.bits] <;> simp <;> omega
theorem wd_bit (s : BitVec 256) (i j : Nat) (hj : j < 64) : (wd s i).testBit j = s.getLsbD (64 * i + j) := by
  unfold wd
  rw [Nat.testBit_mod_two_pow, Nat.testBit_div_two_pow, BitVec.testBit_toNat]
  simp [hj]; congr 1; omega
theorem wd_inj {s t : BitVec 256} (h : ∀ i, i < 4 → wd s i = wd t i) : s = t := by
  apply BitVec.eq_of_getLsbD_eq
  intro k hk
  have h1 := wd_bit s (k / 64) (k % 64) (Nat.mod_lt _ (by decide))
  have h2 := wd_bit t (k / 64) (k % 64) (Nat.mod_lt _ (by decide))
  rw [show 64 * (k / 64) + k % 64 = k by omega] at h1 h2
  rw [← h1, ← h2, h _ (by omega)]
theorem setV_inj {s t : BitVec 256} (h : setV s = setV t) : s = t := by
  unfold setV at h
  simp only [Value.agg.injEq, Array.mk.injEq, List.cons.injEq, Value.int.injEq, true_and, and_true, Int.natCast_inj] at h
  apply wd_inj
  intro i hi
  match i, hi with
  | 0, _ => exact h.1
  | 1, _ => exact h.2.1
  | 2, _ => exact h.2.2.1
  | 3, _ => exact h.2.2.2

theorem has_c (s : BitVec 256) (b : Nat) (hb : b < 256) (H : Heap) : Pure Tryd.prog 72 #[setV s, .int .u8 b] H (.bool (s.getLsbD b)) := by
  refine FnOk.of_vc Tryd.func72 rfl (Tryd.call72 _) ?_
  (conv => whnf)
  refine vbox (setL s) rfl ?_
  intro p H1 hp hs1 hb1 ha1
  (conv => whnf); refine vshr (b := 6) (by decide) ?_
  (conv => whnf); refine ixa ar73 (by omega) (by omega) ?_
  (conv => whnf); refine ld1 ct69 (v := .int .u64 (wd s (b / 64))) ?_ trivial ?_
  · rw [hb1.cell]
    have : b / 2 ^ 6 < 4 := by omega
    rw [show b / 64 = b / 2 ^ 6 by omega]
    generalize b / 2 ^ 6 = q at this
    match q, this with
    | 0, _ => rfl
    | 1, _ => rfl
    | 2, _ => rfl
    | 3, _ => rfl
  (conv => whnf); refine vand (b := 63) ⟨by simp [IntKind.min, IntKind.signed], by simp [IntKind.max, IntKind.signed, IntKind.bits]; omega⟩ ⟨by decide, by decide⟩ ?_
  (conv => whnf); refine vshr (Nat.le_trans Nat.and_le_right (by decide)) ?_
  (conv => whnf); refine vand (b := 1) (inK_le (wd_in s _) (Nat.div_le_self _ _)) ⟨by decide, by decide⟩ ?_
  (conv => whnf)
  refine ⟨?_, by rw [← hp]; exact ha1⟩
  congr 1
  have e1 : b &&& 63 = b % 64 := by rw [show (63 : Nat) = 2 ^ 6 - 1 by decide, Nat.and_two_pow_sub_one_eq_mod]
  have h1 := wd_bit s (b / 64) (b % 64) (Nat.mod_lt _ (by decide))
  rw [show 64 * (b / 64) + b % 64 = b by omega] at h1
  rw [e1, ← h1, Nat.testBit_eq_decide_div_mod_eq, Nat.and_one_is_mod]
  have := Nat.mod_two_eq_zero_or_one (wd s (b / 64) / 2 ^ (b % 64))
  rcases this with h | h <;> simp [h]

/-- The four loads and bit operations of Meet, Union. -/
theorem wd_and (a b : BitVec 256) (i : Nat) : wd (a &&& b) i = wd a i &&& wd b i := by
  apply Nat.eq_of_testBit_eq
  intro j
  rw [Nat.testBit_and]
  by_cases hj : j < 64
  · rw [wd_bit _ _ _ hj, wd_bit _ _ _ hj, wd_bit _ _ _ hj, BitVec.getLsbD_and]
  · rw [Nat.testBit_lt_two_pow (Nat.lt_of_lt_of_le (wd_lt _ _) (Nat.pow_le_pow_right (by decide) (by omega))),
      Nat.testBit_lt_two_pow (x := wd a i) (Nat.lt_of_lt_of_le (wd_lt _ _) (Nat.pow_le_pow_right (by decide) (by omega)))]; rfl
theorem wd_or (a b : BitVec 256) (i : Nat) : wd (a ||| b) i = wd a i ||| wd b i := by
  apply Nat.eq_of_testBit_eq
  intro j
  rw [Nat.testBit_or]
  by_cases hj : j < 64
  · rw [wd_bit _ _ _ hj, wd_bit _ _ _ hj, wd_bit _ _ _ hj, BitVec.getLsbD_or]
  · rw [Nat.testBit_lt_two_pow (Nat.lt_of_lt_of_le (wd_lt _ _) (Nat.pow_le_pow_right (by decide) (by omega))),
      Nat.testBit_lt_two_pow (x := wd a i) (Nat.lt_of_lt_of_le (wd_lt _ _) (Nat.pow_le_pow_right (by decide) (by omega))),
      Nat.testBit_lt_two_pow (x := wd b i) (Nat.lt_of_lt_of_le (wd_lt _ _) (Nat.pow_le_pow_right (by decide) (by omega)))]; rfl

theorem meet_c (a b : BitVec 256) (H : Heap) : Pure Tryd.prog 109 #[setV a, setV b] H (setV (a &&& b)) := by
  refine FnOk.of_vc Tryd.func109 rfl (Tryd.call109 _) ?_
  (conv => whnf); refine vbox (setL a) rfl ?_
  intro p H1 hp hs1 hb1 ha1
  (conv => whnf); refine vbox (setL b) rfl ?_
  intro q H2 hq hs2 hb2 ha2
  (conv => whnf); refine valloc (setV 0) (setL 0) rfl rfl ?_
  intro r H3 hr hs3 hb3 ha3
  replace hb1 := (hb1.agr ha2 (show p < q by omega)).agr ha3 (show p < r by omega)
  replace hb2 := hb2.agr ha3 (show q < r by omega)
  (conv => whnf); refine ixa ar73 (by decide) (by decide) ?_
  (conv => whnf); refine ld1 ct69 ((hb1.cell _).trans rfl) trivial ?_
  (conv => whnf); refine ixa ar73 (by decide) (by decide) ?_
  (conv => whnf); refine ld1 ct69 ((hb2.cell _).trans rfl) trivial ?_
  (conv => whnf); refine vand (wd_in a _) (wd_in b _) ?_
  (conv => whnf); refine ixa ar73 (by decide) (by decide) ?_
  (conv => whnf); refine ld1 ct69 ((hb1.cell _).trans rfl) trivial ?_
  (conv => whnf); refine ixa ar73 (by decide) (by decide) ?_
  (conv => whnf); refine ld1 ct69 ((hb2.cell _).trans rfl) trivial ?_
  (conv => whnf); refine vand (wd_in a _) (wd_in b _) ?_
  (conv => whnf); refine ixa ar73 (by decide) (by decide) ?_
  (conv => whnf); refine ld1 ct69 ((hb1.cell _).trans rfl) trivial ?_
  (conv => whnf); refine ixa ar73 (by decide) (by decide) ?_
  (conv => whnf); refine ld1 ct69 ((hb2.cell _).trans rfl) trivial ?_
  (conv => whnf); refine vand (wd_in a _) (wd_in b _) ?_
  (conv => whnf); refine ixa ar73 (by decide) (by decide) ?_
  (conv => whnf); refine ld1 ct69 ((hb1.cell _).trans rfl) trivial ?_
  (conv => whnf); refine ixa ar73 (by decide) (by decide) ?_
  (conv => whnf); refine ld1 ct69 ((hb2.cell _).trans rfl) trivial ?_
  (conv => whnf); refine vand (wd_in a _) (wd_in b _) ?_
  (conv => whnf); refine vbuildA ar73 (setV 0) rfl [Value.int .u64 ((wd a 0 &&& wd b 0 : Nat) : Int), Value.int .u64 ((wd a 1 &&& wd b 1 : Nat) : Int), Value.int .u64 ((wd a 2 &&& wd b 2 : Nat) : Int), Value.int .u64 ((wd a 3 &&& wd b 3 : Nat) : Int)] rfl ?_
  (conv => whnf); refine stN rfl hb3 (show 0 + 4 ≤ 4 by decide) rfl ?_
  intro H4 hb4 ha4 hs4
  (conv => whnf); refine ldN (cs := [Value.int .u64 ((wd a 0 &&& wd b 0 : Nat) : Int), Value.int .u64 ((wd a 1 &&& wd b 1 : Nat) : Int), Value.int .u64 ((wd a 2 &&& wd b 2 : Nat) : Int), Value.int .u64 ((wd a 3 &&& wd b 3 : Nat) : Int)]) ag73 (hb4.cells (fun j v hv => by simpa [splice, setL] using hv)) trivial ?_
  refine ⟨?_, ?_⟩
  · unfold setV; rw [wd_and, wd_and, wd_and, wd_and]
  · intro k hk; rw [ha4 k (by omega), ha3 k (by omega), ha2 k (by omega), ha1 k (by omega)]

theorem union_c (a b : BitVec 256) (H : Heap) : Pure Tryd.prog 117 #[setV a, setV b] H (setV (a ||| b)) := by
  refine FnOk.of_vc Tryd.func117 rfl (Tryd.call117 _) ?_
  (conv => whnf); refine vbox (setL a) rfl ?_
  intro p H1 hp hs1 hb1 ha1
  (conv => whnf); refine vbox (setL b) rfl ?_
  intro q H2 hq hs2 hb2 ha2
  (conv => whnf); refine valloc (setV 0) (setL 0) rfl rfl ?_
  intro r H3 hr hs3 hb3 ha3
  replace hb1 := (hb1.agr ha2 (show p < q by omega)).agr ha3 (show p < r by omega)
  replace hb2 := hb2.agr ha3 (show q < r by omega)
  (conv => whnf); refine ixa ar73 (by decide) (by decide) ?_
  (conv => whnf); refine ld1 ct69 ((hb1.cell _).trans rfl) trivial ?_
  (conv => whnf); refine ixa ar73 (by decide) (by decide) ?_
  (conv => whnf); refine ld1 ct69 ((hb2.cell _).trans rfl) trivial ?_
  (conv => whnf); refine vor (wd_in a _) (wd_in b _) ?_
  (conv => whnf); refine ixa ar73 (by decide) (by decide) ?_
  (conv => whnf); refine ld1 ct69 ((hb1.cell _).trans rfl) trivial ?_
  (conv => whnf); refine ixa ar73 (by decide) (by decide) ?_
  (conv => whnf); refine ld1 ct69 ((hb2.cell _).trans rfl) trivial ?_
  (conv => whnf); refine vor (wd_in a _) (wd_in b _) ?_
  (conv => whnf); refine ixa ar73 (by decide) (by decide) ?_
  (conv => whnf); refine ld1 ct69 ((hb1.cell _).trans rfl) trivial ?_
  (conv => whnf); refine ixa ar73 (by decide) (by decide) ?_
  (conv => whnf); refine ld1 ct69 ((hb2.cell _).trans rfl) trivial ?_
  (conv => whnf); refine vor (wd_in a _) (wd_in b _) ?_
  (conv => whnf); refine ixa ar73 (by decide) (by decide) ?_
  (conv => whnf); refine ld1 ct69 ((hb1.cell _).trans rfl) trivial ?_
  (conv => whnf); refine ixa ar73 (by decide) (by decide) ?_
  (conv => whnf); refine ld1 ct69 ((hb2.cell _).trans rfl) trivial ?_
  (conv => whnf); refine vor (wd_in a _) (wd_in b _) ?_
  (conv => whnf); refine vbuildA ar73 (setV 0) rfl [Value.int .u64 ((wd a 0 ||| wd b 0 : Nat) : Int), Value.int .u64 ((wd a 1 ||| wd b 1 : Nat) : Int), Value.int .u64 ((wd a 2 ||| wd b 2 : Nat) : Int), Value.int .u64 ((wd a 3 ||| wd b 3 : Nat) : Int)] rfl ?_
  (conv => whnf); refine stN rfl hb3 (show 0 + 4 ≤ 4 by decide) rfl ?_
  intro H4 hb4 ha4 hs4
  (conv => whnf); refine ldN (cs := [Value.int .u64 ((wd a 0 ||| wd b 0 : Nat) : Int), Value.int .u64 ((wd a 1 ||| wd b 1 : Nat) : Int), Value.int .u64 ((wd a 2 ||| wd b 2 : Nat) : Int), Value.int .u64 ((wd a 3 ||| wd b 3 : Nat) : Int)]) ag73 (hb4.cells (fun j v hv => by simpa [splice, setL] using hv)) trivial ?_
  refine ⟨?_, ?_⟩
  · unfold setV; rw [wd_or, wd_or, wd_or, wd_or]
  · intro k hk; rw [ha4 k (by omega), ha3 k (by omega), ha2 k (by omega), ha1 k (by omega)]

theorem and63 (b : Nat) : b &&& 63 = b % 64 := by rw [show (63 : Nat) = 2 ^ 6 - 1 by decide, Nat.and_two_pow_sub_one_eq_mod]
theorem setL_get (s : BitVec 256) (b : Nat) (hb : b < 256) : (setL s)[b / 2 ^ 6]? = some (.int .u64 (wd s (b / 64))) := by
  have : b / 2 ^ 6 < 4 := by omega
  rw [show b / 64 = b / 2 ^ 6 by omega]
  generalize b / 2 ^ 6 = q at this
  match q, this with
  | 0, _ => rfl
  | 1, _ => rfl
  | 2, _ => rfl
  | 3, _ => rfl
theorem wd_put (s : BitVec 256) (b i : Nat) (hb : b < 256) : wd (s ||| BitVec.twoPow 256 b) i = if i = b / 64 then wd s i ||| 2 ^ (b % 64) else wd s i := by
  apply Nat.eq_of_testBit_eq
  intro j
  by_cases hj : j < 64
  · rw [wd_bit _ _ _ hj, BitVec.getLsbD_or, BitVec.getLsbD_twoPow]
    by_cases hi : i = b / 64
    · rw [if_pos hi, Nat.testBit_or, wd_bit _ _ _ hj, Nat.testBit_two_pow]
      congr 1
      by_cases h : b % 64 = j
      · have : b = 64 * i + j := by omega
        simp [h, ← this, hb]
      · have : ¬ b = 64 * i + j := by omega
        simp [h, this]
    · rw [if_neg hi, wd_bit _ _ _ hj]
      have : ¬ b = 64 * i + j := by omega
      simp [this]
  · have hbig : 2 ^ 64 ≤ 2 ^ j := Nat.pow_le_pow_right (by decide) (by omega)
    rw [Nat.testBit_lt_two_pow (Nat.lt_of_lt_of_le (wd_lt _ _) hbig)]
    split
    · rw [Nat.testBit_or, Nat.testBit_lt_two_pow (Nat.lt_of_lt_of_le (wd_lt _ _) hbig), Nat.testBit_two_pow]
      simp; omega
    · rw [Nat.testBit_lt_two_pow (Nat.lt_of_lt_of_le (wd_lt _ _) hbig)]
theorem setL_put (s : BitVec 256) (b : Nat) (hb : b < 256) : (setL s).set (b / 64) (.int .u64 ((wd s (b / 64) ||| 2 ^ (b % 64) : Nat) : Int)) = setL (s ||| BitVec.twoPow 256 b) := by
  have h : b / 64 < 4 := by omega
  unfold setL
  rw [wd_put s b 0 hb, wd_put s b 1 hb, wd_put s b 2 hb, wd_put s b 3 hb]
  generalize b / 64 = q at h
  match q, h with
  | 0, _ => rfl
  | 1, _ => rfl
  | 2, _ => rfl
  | 3, _ => rfl

theorem span_c (lo hi : Nat) (hlo : lo < 256) (hhi : hi < 256) (H : Heap) : FnOk Tryd.prog 88 #[.int .u8 lo, .int .u8 hi] H fun v H' =>
    (∃ s, v = setV s ∧ ∀ b, b < 256 → s.getLsbD b = (decide (lo ≤ b) && decide (b ≤ hi))) ∧ Agr (Old H) H H' := by
  refine FnOk.of_vc Tryd.func88 rfl (Tryd.call88 _) ?_
  (conv => whnf); refine valloc (setV 0) (setL 0) rfl rfl ?_
  intro r H1 hr hs1 hb1 ha1
  (conv => whnf); refine valloc (setV 0) (setL 0) rfl rfl ?_
  intro p H2 hp hs2 hb2 ha2
  replace hb1 := hb1.agr ha2 (show r < p by omega)
  (conv => whnf); rw [w64 (x := (lo : Int)) (by omega) (by omega)]
  refine VLoop.mk [6] (fun b : Nat => [.int .i64 b]) (fun b H3 => lo ≤ b ∧ (b ≤ hi + 1 ∨ b = lo) ∧ Agr (fun k => k ≠ p) H2 H3 ∧ H3.size = H2.size ∧ ∃ s : BitVec 256, Blk H3 p 73 (setL s) ∧ ∀ c, c < 256 → s.getLsbD c = (decide (lo ≤ c) && decide (c < b))) (fun b _ => 256 - b) ?_ ?_
  · (conv => whnf)
    exact ⟨lo, rfl, by omega, by omega, Agr.refl _ _, rfl, 0, hb2, fun c hc => by simp⟩
  · rintro b H3 junk ⟨h1, h2, ha3, hs3, s, hb3, hs⟩
    (conv => whnf); rw [w64 (x := (hi : Int)) (by omega) (by omega)]
    refine VIte.mk (fun h => ?_) (fun h => ?_) <;> simp only [decide_eq_true_eq, decide_eq_false_iff_not] at h
    · (conv => whnf)
      refine VDraw.tail 9 (sq [0,1,2,3,4,5,6,7,8] (.f 9 .e)) rfl (by kernel_rfl) ?_
      (conv => whnf); refine vshr (b := 6) (by decide) ?_
      (conv => whnf); refine ixa ar73 (by omega) (by omega) ?_
      (conv => whnf); refine ld1 ct69 (v := .int .u64 (wd s (b / 64))) (by rw [hb3.cell, Nat.zero_add, Nat.mul_one]; exact setL_get s b (by omega)) trivial ?_
      (conv => whnf); refine vand (b := 63) (inI64 (by omega)) (inI64 (by decide)) ?_
      have hpow : 2 ^ (b % 64) < 2 ^ 64 := Nat.pow_lt_pow_right (by decide) (by omega)
      rw [and63]
      have hin : inK .u64 ((1 * 2 ^ (b % 64) : Nat) : Int) := inU64 (by omega)
      (conv => whnf); refine vshl (a := 1) (by simp [IntKind.bits]; omega) hin ?_
      (conv => whnf); refine vor (wd_in s _) hin ?_
      (conv => whnf); refine ixa ar73 (by omega) (by omega) ?_
      (conv => whnf); refine st1 ct69 hb3 (by simp [setL]; omega) rfl ?_
      intro H4 hb4 ha4 hs4
      (conv => whnf); rw [w64 (x := (b : Int) + 1) (by omega) (by omega)]
      refine ⟨rfl, b + 1, by simp, ⟨by omega, by omega, ha3.trans ha4, by omega, s ||| BitVec.twoPow 256 b, ?_, fun c hc => ?_⟩, by omega⟩
      · rw [Nat.zero_add, Nat.mul_one, Nat.one_mul] at hb4
        rw [← setL_put s b (by omega)]
        exact hb4
      · rw [BitVec.getLsbD_or, hs c hc, BitVec.getLsbD_twoPow]
        by_cases hbc : b = c
        · subst hbc; simp [hc, h1]
        · have : (decide (c < b + 1)) = decide (c < b) := by simp; omega
          simp [hbc, this]
    · (conv => whnf)
      refine ldN (cs := setL s) ag73 (hb3.cells (fun j v hv => by simpa using hv)) trivial ?_
      (conv => whnf); refine stN rfl (hb1.agr ha3 (show r ≠ p by omega)) (show 0 + 4 ≤ 4 by decide) rfl ?_
      intro H4 hb4 ha4 hs4
      (conv => whnf); refine ldN (cs := setL s) ag73 (hb4.cells (fun j v hv => by simpa [splice, setL] using hv)) trivial ?_
      refine ⟨⟨s, rfl, fun c hc => ?_⟩, fun k hk => ?_⟩
      · rw [hs c hc]
        rcases h2 with h2 | h2
        · have : (decide (c < b)) = decide (c ≤ hi) := by simp; omega
          rw [this]
        · subst h2
          by_cases hcl : b ≤ c
          · simp [show ¬ c < b by omega, show ¬ c ≤ hi by omega]
          · simp [hcl]
      · unfold Old at hk
        rw [ha4 k (by omega), ha3 k (by omega), ha2 k (by omega), ha1 k (by omega)]

/-! ### sets as data, and their equality -/
def tSet : Ty (BitVec 256) where
  size := 4
  rep _ _ cs s := cs = setL s
  len h := by rw [h]; rfl
  frame h _ := h
  mono h _ := h
def setLits (s : BitVec 256) : List Lit := [.int .u64 (wd s 0), .int .u64 (wd s 1), .int .u64 (wd s 2), .int .u64 (wd s 3)]
theorem setLits_inj (a b : BitVec 256) : decide (a = b) = true ↔ setLits a = setLits b := by
  rw [decide_eq_true_eq]
  constructor
  · rintro rfl; rfl
  · intro h
    unfold setLits at h
    simp only [List.cons.injEq, Lit.int.injEq, true_and, and_true, Int.natCast_inj] at h
    apply wd_inj
    intro i hi
    match i, hi with
    | 0, _ => exact h.1
    | 1, _ => exact h.2.1
    | 2, _ => exact h.2.2.1
    | 3, _ => exact h.2.2.2
theorem set_wf (s : BitVec 256) (i : Nat) : (Lit.int .u64 (wd s i)).wf = true := by
  have := wd_in s i
  unfold Lit.wf
  simp only [Bool.and_eq_true, decide_eq_true_eq]
  exact this
theorem set_lits (s : BitVec 256) : Tryd.prog.keyLits 2 73 (setL s) = some (setLits s) := by
  have c1 : Tryd.prog.cellsOf 73 = 4 := rfl
  have c2 : Tryd.prog.cellsOf 69 = 1 := rfl
  simp [Program.keyLits, Tryd.underlying73, Tryd.underlying69, c1, c2, setL, setLits, set_wf, List.range, List.range.loop]
theorem set_neq (a b : BitVec 256) {x y : Operand} {S : Nat → Prop} {H : Heap} {K : Value → Prop} (k : K (.bool (!decide (a = b)))) :
    VDet Tryd.prog (do eqGuard .neq 73 x y (setV a) (setV b); binOp .neq 73 (setV a) (setV b)) S H K :=
  vneq (m := 2) (la := setLits a) (lb := setLits b) rfl (by decide) (Tryd.eqGuardType73) rfl rfl (set_lits a) (set_lits b) (setLits_inj a b) k


def spanS (lo hi : Nat) : BitVec 256 := BitVec.ofNat 256 ((2 ^ (hi + 1 - lo) - 1) <<< lo)
theorem spanS_bit (lo hi b : Nat) (hb : b < 256) : (spanS lo hi).getLsbD b = (decide (lo ≤ b) && decide (b ≤ hi)) := by
  unfold spanS
  rw [BitVec.getLsbD_ofNat, Nat.testBit_shiftLeft, Nat.testBit_two_pow_sub_one]
  by_cases h : lo ≤ b
  · simp only [hb, decide_true, Bool.true_and, h, ge_iff_le]
    congr 1
    rw [eq_iff_iff]; omega
  · simp [h]
theorem span_p (lo hi : Nat) (hlo : lo < 256) (hhi : hi < 256) (H : Heap) : Pure Tryd.prog 88 #[.int .u8 lo, .int .u8 hi] H (setV (spanS lo hi)) := by
  refine (span_c lo hi hlo hhi H).mono ?_
  rintro v H' ⟨⟨s, rfl, hs⟩, ha⟩
  refine ⟨?_, ha⟩
  congr 1
  apply BitVec.eq_of_getLsbD_eq
  intro b hb
  rw [hs b hb, spanS_bit lo hi b hb]
theorem spanS_full : spanS 0 255 = BitVec.allOnes 256 := by
  apply BitVec.eq_of_getLsbD_eq
  intro b hb
  rw [spanS_bit 0 255 b hb, BitVec.getLsbD_allOnes]
  simp [hb]; omega

end Go.Proofs.YthomdogheamfpaaDoor
/- class.Next, class.Count; words of bits. -/
set_option linter.unusedVariables false
set_option linter.unusedSimpArgs false
set_option maxRecDepth 100000
namespace Go.VC
theorem vmax_ {P : Program} {ats : Array TypeId} {t : TypeId} {k k' : IntKind} {a b : Int} {S : Nat → Prop} {H : Heap} {K : Value → Prop} (h : K (.int k (if a < b then b else a))) : VDet P (Builtin.max_ ats t [.int k a, .int k' b].toArray) S H K := by
  refine VDet.mk _ (fun w _ => ?_) h
  simp [Builtin.max_, Builtin.max2]
theorem wu_mod (n : Nat) : IntKind.wrap .u64 (n : Int) = ((n % 18446744073709551616 : Nat) : Int) := by
  unfold IntKind.wrap
  simp only [IntKind.bits, IntKind.signed, Bool.false_and, Bool.false_eq_true, if_false, Nat.reducePow, Int.reducePow]
  omega
theorem wu_add {x y : Nat} (h : x + y < 18446744073709551616) : IntKind.wrap .u64 ((x : Int) + (y : Int)) = ((x + y : Nat) : Int) := by
  rw [← Int.natCast_add, wu_mod, Nat.mod_eq_of_lt h]
theorem wi_nat {n : Nat} (h : n < 9223372036854775808) : IntKind.wrap .i64 (n : Int) = (n : Int) := w64 (by omega) (by omega)
end Go.VC
namespace Go.Proofs.YthomdogheamfpaaDoor
open Go.VC

/-! ### counting bits -/
theorem and_digit {a c x y : Nat} (ha : a < 256) (hc : c < 256) : (a + 256 * x) &&& (c + 256 * y) = (a &&& c) + 256 * (x &&& y) := by
  have h1 : ((a + 256 * x) &&& (c + 256 * y)) % 2 ^ 8 = (a &&& c) := by rw [Nat.and_mod_two_pow, show (a + 256 * x) % 2 ^ 8 = a by omega, show (c + 256 * y) % 2 ^ 8 = c by omega]
  have h2 : ((a + 256 * x) &&& (c + 256 * y)) / 2 ^ 8 = (x &&& y) := by rw [Nat.and_div_two_pow, show (a + 256 * x) / 2 ^ 8 = x by omega, show (c + 256 * y) / 2 ^ 8 = y by omega]
  omega
def mk_ (c : Nat) : Nat → Nat
  | 0 => 0
  | m + 1 => c + 256 * mk_ c m
theorem mk_succ (c m : Nat) : mk_ c (m + 1) = c + 256 * mk_ c m := rfl
def sw1 (m w : Nat) : Nat := ((w / 2) &&& mk_ 85 m) + (w &&& mk_ 85 m)
def sw2 (m w : Nat) : Nat := ((w / 4) &&& mk_ 51 m) + (w &&& mk_ 51 m)
def sw3 (m w : Nat) : Nat := (w / 16 + w) &&& mk_ 15 m
def pc8 (a : Nat) : Nat := ((List.range 8).filter fun j => a.testBit j).length
def popB (m w : Nat) : Nat := ((List.range m).filter fun j => w.testBit j).length
def g1 (a : Nat) : Nat := ((a / 2) &&& 85) + (a &&& 85)
def g2 (a : Nat) : Nat := ((a / 4) &&& 51) + (a &&& 51)
theorem g1_lt : ∀ a, a < 256 → g1 a < 256 := by decide +kernel
theorem g1_hi : ∀ a, a < 256 → ∀ r, r < 2 → ((a / 2 + 128 * r) &&& 85) = ((a / 2) &&& 85) := by decide +kernel
theorem g2_hi : ∀ a, a < 256 → ∀ r, r < 4 → ((a / 4 + 64 * r) &&& 51) = ((a / 4) &&& 51) := by decide +kernel
theorem g2_lt : ∀ a, a < 256 → g2 a < 256 ∧ (g2 (g1 a)) % 16 ≤ 4 ∧ g2 (g1 a) / 16 ≤ 4 := by decide +kernel
theorem g3_eq : ∀ a, a < 256 → ∀ r, r < 5 → ((g2 (g1 a) / 16 + 16 * r + g2 (g1 a)) &&& 15) = pc8 a := by decide +kernel
theorem pc8_le : ∀ a, a < 256 → pc8 a ≤ 8 := by decide +kernel
theorem sw1_digit {m a b : Nat} (ha : a < 256) : sw1 (m + 1) (a + 256 * b) = g1 a + 256 * sw1 m b := by
  unfold sw1
  rw [mk_succ]
  have e : (a + 256 * b) / 2 = (a / 2 + 128 * (b % 2)) + 256 * (b / 2) := by omega
  rw [e, and_digit (by omega) (by decide), and_digit ha (by decide), g1_hi a ha _ (by omega)]
  unfold g1; omega
theorem sw2_digit {m a b : Nat} (ha : a < 256) : sw2 (m + 1) (a + 256 * b) = g2 a + 256 * sw2 m b := by
  unfold sw2
  rw [mk_succ]
  have e : (a + 256 * b) / 4 = (a / 4 + 64 * (b % 4)) + 256 * (b / 4) := by omega
  rw [e, and_digit (by omega) (by decide), and_digit ha (by decide), g2_hi a ha _ (by omega)]
  unfold g2; omega
theorem sw_low (m b : Nat) (hb : b < 256 ^ m) : sw2 m (sw1 m b) % 16 ≤ 4 := by
  cases m with
  | zero =>
    obtain rfl : b = 0 := by simp at hb; omega
    decide
  | succ m =>
    have e : b = b % 256 + 256 * (b / 256) := by omega
    rw [e, sw1_digit (by omega), sw2_digit (g1_lt _ (by omega))]
    have := (g2_lt (b % 256) (by omega)).2.1
    omega
theorem sw_digit {m a b : Nat} (ha : a < 256) (hb : b < 256 ^ m) : sw3 (m + 1) (sw2 (m + 1) (sw1 (m + 1) (a + 256 * b))) = pc8 a + 256 * sw3 m (sw2 m (sw1 m b)) := by
  rw [sw1_digit ha, sw2_digit (g1_lt a ha)]
  have hl := sw_low m b hb
  have hg := g2_lt a ha
  generalize sw2 m (sw1 m b) = x at *
  unfold sw3
  rw [mk_succ]
  have e : (g2 (g1 a) + 256 * x) / 16 + (g2 (g1 a) + 256 * x) = (g2 (g1 a) / 16 + 16 * (x % 16) + g2 (g1 a)) + 256 * (x / 16 + x) := by omega
  rw [e, and_digit (by omega) (by decide), g3_eq a ha _ (by omega)]
theorem popB_digit (m w : Nat) : popB (8 + m) w = pc8 (w % 256) + popB m (w / 256) := by
  unfold popB pc8
  rw [List.range_add, List.filter_append, List.length_append, List.filter_map, List.length_map]
  congr 1
  · congr 1
    refine List.filter_congr fun j hj => ?_
    rw [List.mem_range] at hj
    rw [show (256 : Nat) = 2 ^ 8 from rfl, Nat.testBit_mod_two_pow]
    simp [hj]
  · congr 1
    refine List.filter_congr fun j _ => ?_
    simp only [Function.comp]
    rw [show (256 : Nat) = 2 ^ 8 from rfl, Nat.testBit_div_two_pow, Nat.add_comm]
def p8 (w i : Nat) : Nat := pc8 (w / 256 ^ i % 256)
theorem sw_all (w : Nat) (hw : w < 18446744073709551616) : sw3 8 (sw2 8 (sw1 8 w)) = p8 w 0 + 256 * (p8 w 1 + 256 * (p8 w 2 + 256 * (p8 w 3 + 256 * (p8 w 4 + 256 * (p8 w 5 + 256 * (p8 w 6 + 256 * p8 w 7)))))) ∧
    popB 64 w = p8 w 0 + (p8 w 1 + (p8 w 2 + (p8 w 3 + (p8 w 4 + (p8 w 5 + (p8 w 6 + p8 w 7)))))) := by
  have st : ∀ (m w i : Nat), w / 256 ^ i < 256 ^ (m + 1) → sw3 (m + 1) (sw2 (m + 1) (sw1 (m + 1) (w / 256 ^ i))) = p8 w i + 256 * sw3 m (sw2 m (sw1 m (w / 256 ^ (i + 1)))) := by
    intro m w i h
    have e : w / 256 ^ i = w / 256 ^ i % 256 + 256 * (w / 256 ^ (i + 1)) := by rw [Nat.pow_succ, ← Nat.div_div_eq_div_mul]; omega
    have h2 : w / 256 ^ (i + 1) < 256 ^ m := by
      rw [Nat.pow_succ, ← Nat.div_div_eq_div_mul, Nat.div_lt_iff_lt_mul (by decide)]
      rw [Nat.pow_succ] at h; exact h
    conv => lhs; rw [e]
    rw [sw_digit (by omega) h2]; rfl
  have sp : ∀ (m i : Nat), popB (8 + m) (w / 256 ^ i) = p8 w i + popB m (w / 256 ^ (i + 1)) := by
    intro m i
    rw [popB_digit, Nat.pow_succ, ← Nat.div_div_eq_div_mul]; rfl
  have h0 : w = w / 256 ^ 0 := by simp
  have hz : sw3 0 (sw2 0 (sw1 0 (w / 256 ^ 8))) = 0 := by
    rw [Nat.div_eq_of_lt (by simpa using hw)]; decide
  have bd : ∀ i, i ≤ 8 → w / 256 ^ i < 256 ^ (8 - i) := by
    intro i hi
    rw [Nat.div_lt_iff_lt_mul (Nat.pow_pos (by decide)), ← Nat.pow_add, show 8 - i + i = 8 by omega]
    simpa using hw
  constructor
  · conv => lhs; rw [h0]
    rw [st 7 w 0 (bd 0 (by omega)), st 6 w 1 (bd 1 (by omega)), st 5 w 2 (bd 2 (by omega)), st 4 w 3 (bd 3 (by omega)), st 3 w 4 (bd 4 (by omega)), st 2 w 5 (bd 5 (by omega)), st 1 w 6 (bd 6 (by omega)), st 0 w 7 (bd 7 (by omega)), hz]
    omega
  · conv => lhs; rw [h0]
    rw [show (64 : Nat) = 8 + 56 from rfl, sp 56 0, show (56 : Nat) = 8 + 48 from rfl, sp 48 1, show (48 : Nat) = 8 + 40 from rfl, sp 40 2, show (40 : Nat) = 8 + 32 from rfl, sp 32 3, show (32 : Nat) = 8 + 24 from rfl, sp 24 4, show (24 : Nat) = 8 + 16 from rfl, sp 16 5,
      show (16 : Nat) = 8 + 8 from rfl, sp 8 6, show (8 : Nat) = 8 + 0 from rfl, sp 0 7]
    rfl
theorem ones_p (w : Nat) (hw : w < 18446744073709551616) (H : Heap) : Pure Tryd.prog 119 #[.int .u64 (w : Int)] H (.int .i64 (popB 64 w : Int)) := by
  obtain ⟨hs, hp⟩ := sw_all w hw
  have b0 := pc8_le (w / 256 ^ 0 % 256) (by omega)
  have b1 := pc8_le (w / 256 ^ 1 % 256) (by omega)
  have b2 := pc8_le (w / 256 ^ 2 % 256) (by omega)
  have b3 := pc8_le (w / 256 ^ 3 % 256) (by omega)
  have b4 := pc8_le (w / 256 ^ 4 % 256) (by omega)
  have b5 := pc8_le (w / 256 ^ 5 % 256) (by omega)
  have b6 := pc8_le (w / 256 ^ 6 % 256) (by omega)
  have b7 := pc8_le (w / 256 ^ 7 % 256) (by omega)
  change p8 w 0 ≤ 8 at b0; change p8 w 1 ≤ 8 at b1; change p8 w 2 ≤ 8 at b2; change p8 w 3 ≤ 8 at b3; change p8 w 4 ≤ 8 at b4; change p8 w 5 ≤ 8 at b5; change p8 w 6 ≤ 8 at b6; change p8 w 7 ≤ 8 at b7
  have m1 : mk_ 85 8 = 6148914691236517205 := by decide
  have m2 : mk_ 51 8 = 3689348814741910323 := by decide
  have m3 : mk_ 15 8 = 1085102592571150095 := by decide
  have i1 : inK .u64 ((6148914691236517205 : Nat) : Int) := inU64 (by decide)
  have i2 : inK .u64 ((3689348814741910323 : Nat) : Int) := inU64 (by decide)
  have i3 : inK .u64 ((1085102592571150095 : Nat) : Int) := inU64 (by decide)
  refine FnOk.of_vc Tryd.func119 rfl (Tryd.call119 _) ?_
  have l1 : ((w / 2 ^ 1) &&& 6148914691236517205) + (w &&& 6148914691236517205) < 18446744073709551616 := by
    have := Nat.and_le_right (n := w / 2 ^ 1) (m := 6148914691236517205)
    have := Nat.and_le_right (n := w) (m := 6148914691236517205)
    omega
  (conv => whnf); refine vshr (a := w) (b := 1) (by decide) ?_
  (conv => whnf); refine vand (a := w / 2 ^ 1) (b := 6148914691236517205) (inU64 (by omega)) i1 ?_
  (conv => whnf); refine vand (a := w) (b := 6148914691236517205) (inU64 hw) i1 ?_
  (conv => whnf); rw [wu_add l1]
  have e1 : ((w / 2 ^ 1) &&& 6148914691236517205) + (w &&& 6148914691236517205) = sw1 8 w := by unfold sw1; rw [m1]
  rw [e1] at l1 ⊢
  generalize sw1 8 w = x1 at *
  have l2 : ((x1 / 2 ^ 2) &&& 3689348814741910323) + (x1 &&& 3689348814741910323) < 18446744073709551616 := by
    have := Nat.and_le_right (n := x1 / 2 ^ 2) (m := 3689348814741910323)
    have := Nat.and_le_right (n := x1) (m := 3689348814741910323)
    omega
  (conv => whnf); refine vshr (a := x1) (b := 2) (by decide) ?_
  (conv => whnf); refine vand (a := x1 / 2 ^ 2) (b := 3689348814741910323) (inU64 (by omega)) i2 ?_
  (conv => whnf); refine vand (a := x1) (b := 3689348814741910323) (inU64 l1) i2 ?_
  (conv => whnf); rw [wu_add l2]
  have e2 : ((x1 / 2 ^ 2) &&& 3689348814741910323) + (x1 &&& 3689348814741910323) = sw2 8 x1 := by unfold sw2; rw [m2]
  have l2' : ((x1 / 2 ^ 2) &&& 3689348814741910323) + (x1 &&& 3689348814741910323) ≤ 7378697629483820646 := by
    have := Nat.and_le_right (n := x1 / 2 ^ 2) (m := 3689348814741910323)
    have := Nat.and_le_right (n := x1) (m := 3689348814741910323)
    omega
  rw [e2] at l2 l2' ⊢
  generalize sw2 8 x1 = x2 at *
  (conv => whnf); refine vshr (a := x2) (b := 4) (by decide) ?_
  (conv => whnf); rw [wu_add (x := x2 / 2 ^ 4) (y := x2) (by omega)]
  (conv => whnf); refine vand (a := x2 / 2 ^ 4 + x2) (b := 1085102592571150095) (inU64 (by omega)) i3 ?_
  have e3 : ((x2 / 2 ^ 4 + x2) &&& 1085102592571150095) = sw3 8 x2 := by unfold sw3; rw [m3]
  rw [e3]
  generalize sw3 8 x2 = x3 at *
  generalize p8 w 0 = q0 at *
  generalize p8 w 1 = q1 at *
  generalize p8 w 2 = q2 at *
  generalize p8 w 3 = q3 at *
  generalize p8 w 4 = q4 at *
  generalize p8 w 5 = q5 at *
  generalize p8 w 6 = q6 at *
  generalize p8 w 7 = q7 at *
  have lx : x3 < 1152921504606846976 := by omega
  (conv => whnf); refine vshr (a := x3) (b := 8) (by decide) ?_
  (conv => whnf); rw [wu_add (x := x3) (y := x3 / 2 ^ 8) (by omega)]
  (conv => whnf); refine vshr (a := x3 + x3 / 2 ^ 8) (b := 16) (by decide) ?_
  (conv => whnf); rw [wu_add (x := x3 + x3 / 2 ^ 8) (y := (x3 + x3 / 2 ^ 8) / 2 ^ 16) (by omega)]
  obtain ⟨y, hy⟩ : ∃ y, y = x3 + x3 / 2 ^ 8 := ⟨_, rfl⟩
  rw [← hy]
  obtain ⟨z, hz⟩ : ∃ z, z = y + y / 2 ^ 16 := ⟨_, rfl⟩
  rw [← hz]
  (conv => whnf); refine vshr (a := z) (b := 32) (by decide) ?_
  (conv => whnf); rw [wu_add (x := z) (y := z / 2 ^ 32) (by omega)]
  obtain ⟨u, hu⟩ : ∃ u, u = z + z / 2 ^ 32 := ⟨_, rfl⟩
  rw [← hu]
  (conv => whnf); rw [wi_nat (n := u) (by omega)]
  (conv => whnf); refine vand (a := u) (b := 127) (inI64 (by omega)) (inI64 (by decide)) ?_
  (conv => whnf)
  have hand : (u &&& 127) = popB 64 w := by
    rw [show (127 : Nat) = 2 ^ 7 - 1 by decide, Nat.and_two_pow_sub_one_eq_mod, hp]
    have k1 : x3 / 2 ^ 8 = q1 + 256 * (q2 + 256 * (q3 + 256 * (q4 + 256 * (q5 + 256 * (q6 + 256 * q7))))) := by omega
    have k2 : y / 2 ^ 16 = (q2 + q3) + 256 * ((q3 + q4) + 256 * ((q4 + q5) + 256 * ((q5 + q6) + 256 * ((q6 + q7) + 256 * q7)))) := by rw [hy, k1, hs]; clear hu hz hy k1 hs; omega
    have k3 : z / 2 ^ 32 = (q4 + q5 + q6 + q7) + 256 * ((q5 + q6 + q7) + 256 * ((q6 + q7) + 256 * q7)) := by rw [hz, k2, hy, k1, hs]; clear hu hz hy k1 k2 hs; omega
    rw [hu, k3, hz, k2, hy, k1, hs]
    clear hu hz hy k1 k2 k3 hs
    omega
  rw [hand]
  exact ⟨rfl, Agr.refl _ _⟩

def countM (s : BitVec 256) : Nat := ((List.range 256).filter fun b => s.getLsbD b).length
theorem count_words (s : BitVec 256) : countM s = popB 64 (wd s 0) + (popB 64 (wd s 1) + (popB 64 (wd s 2) + popB 64 (wd s 3))) := by
  have one : ∀ i m, ((List.range (64 + m)).filter fun j => s.getLsbD (64 * i + j)).length = popB 64 (wd s i) + ((List.range m).filter fun j => s.getLsbD (64 * (i + 1) + j)).length := by
    intro i m
    rw [List.range_add, List.filter_append, List.length_append, List.filter_map, List.length_map]
    congr 1
    · unfold popB
      congr 1
      refine List.filter_congr fun j hj => ?_
      rw [List.mem_range] at hj
      rw [wd_bit s i j hj]
    · congr 1
      refine List.filter_congr fun j _ => ?_
      simp only [Function.comp]
      rw [show 64 * i + (64 + j) = 64 * (i + 1) + j by omega]
  have h0 : countM s = ((List.range (64 + 192)).filter fun j => s.getLsbD (64 * 0 + j)).length := by
    unfold countM
    simp only [Nat.mul_zero, Nat.zero_add, Nat.reduceAdd]
  rw [h0, one 0 192, show (192 : Nat) = 64 + 128 from rfl, one 1 128, show (128 : Nat) = 64 + 64 from rfl, one 2 64, show (64 : Nat) = 64 + 0 from rfl, one 3 0]
  first | done | rfl
theorem popB_le (m w : Nat) : popB m w ≤ m := by
  unfold popB
  exact Nat.le_trans (List.length_filter_le _ _) (by simp)
def cntTo4 (s : BitVec 256) : Nat → Nat
  | 0 => 0
  | i + 1 => cntTo4 s i + popB 64 (wd s i)
theorem cntTo4_le (s : BitVec 256) : ∀ i, cntTo4 s i ≤ 64 * i
  | 0 => Nat.le_refl _
  | i + 1 => by have := cntTo4_le s i; have := popB_le 64 (wd s i); simp only [cntTo4]; omega
theorem count_p (s : BitVec 256) (H : Heap) : Pure Tryd.prog 95 #[setV s] H (.int .i64 (countM s : Int)) := by
  refine FnOk.of_vc Tryd.func95 rfl (Tryd.call95 _) ?_
  (conv => whnf); refine vbox (setL s) rfl ?_
  intro pb H1 hpb hs1 hb1 ha1
  have hA1 : Agr (Old H) H H1 := ha1.mono fun j hj => by unfold Old at hj; omega
  (conv => whnf); refine ldN (cs := setL s) ag73 (hb1.cells fun j v hv => by rw [Nat.zero_add]; exact hv) trivial ?_
  (conv => whnf)
  refine VLoop.mk [3, 7] (fun i : Nat => [.int .i64 (cntTo4 s i : Int), .int .i64 i]) (fun i H2 => i ≤ 4 ∧ Agr (Old H) H H2) (fun i _ => 4 - i) ?_ ?_
  · (conv => whnf); exact ⟨0, rfl, by omega, hA1⟩
  · rintro i H2 junk ⟨hi, ha2⟩
    (conv => whnf); refine VIte.mk (fun h => ?_) (fun h => ?_) <;> simp only [decide_eq_true_eq, decide_eq_false_iff_not] at h
    · have hget : (setL s)[i]? = some (.int .u64 (wd s i)) := by
        have : i = 0 ∨ i = 1 ∨ i = 2 ∨ i = 3 := by omega
        rcases this with rfl | rfl | rfl | rfl <;> rfl
      have hle := cntTo4_le s i
      have hpl := popB_le 64 (wd s i)
      (conv => whnf); refine ixv1 (v := .int .u64 (wd s i)) ar73 ct69 (by omega) (by omega) (by rw [Int.toNat_natCast, Nat.mul_one]; simpa using hget) ?_
      (conv => whnf); refine pures (ones_p (wd s i) (wd_lt s i) H2) fun H3 ha3 => ?_
      (conv => whnf); rw [w64 (x := (cntTo4 s i : Int) + (popB 64 (wd s i) : Int)) (by omega) (by omega)]
      (conv => whnf); rw [w64 (x := (i : Int) + 1) (by omega) (by omega)]
      exact ⟨rfl, i + 1, by simp [cntTo4], ⟨by omega, ha2.trans (ha3.mono fun k hk => old_lt ha2 hk)⟩, by omega⟩
    · obtain rfl : i = 4 := by omega
      (conv => whnf)
      refine ⟨?_, ha2⟩
      rw [count_words]
      simp only [cntTo4]
      congr 2
      omega

/-! ### the least byte -/
def nextM (s : BitVec 256) (n : Nat) : Nat × Bool := match (List.range 256).find? fun b => decide (n ≤ b) && s.getLsbD b with
  | some b => (b, true)
  | none => (0, false)
theorem nextM_lt (s : BitVec 256) (n : Nat) : (nextM s n).1 < 256 := by
  unfold nextM
  split
  · rename_i b h
    have := List.mem_of_find?_eq_some h
    simpa using this
  · decide
theorem next_p (s : BitVec 256) (n : Nat) (hn : n ≤ 256) (H : Heap) : Pure Tryd.prog 89 #[setV s, .int .i64 n] H (.tuple #[.int .u8 ((nextM s n).1 : Int), .bool (nextM s n).2]) := by
  refine FnOk.of_vc Tryd.func89 rfl (Tryd.call89 _) ?_
  (conv => whnf); refine vbox (setL s) rfl ?_
  intro pb H1 hpb hs1 hb1 ha1
  have st1 := (St.nil H).box hpb hs1 hb1 ha1
  (conv => whnf); refine vmax_ ?_
  rw [if_neg (by omega)]
  (conv => whnf)
  refine VLoop.mk [4, 5, 6] (fun k : Nat => [.int .u8 0, .bool false, .int .i64 k]) (fun k H2 => n ≤ k ∧ k ≤ 256 ∧ (∀ j, n ≤ j → j < k → s.getLsbD j = false) ∧ St H H2 [pB 73 pb (setL s)]) (fun k _ => 256 - k) ?_ ?_
  · (conv => whnf); exact ⟨n, rfl, Nat.le_refl _, hn, fun j h1 h2 => by omega, st1⟩
  · rintro k H2 junk ⟨hnk, hk, hno, st⟩
    (conv => whnf); refine VIte.mk (fun h => ?_) (fun h => ?_) <;> simp only [decide_eq_true_eq, decide_eq_false_iff_not] at h
    · have hk8 : k < 256 := by omega
      (conv => whnf); refine ldN (cs := setL s) ag73 ((st.blk 0 rfl).cells fun j v hv => by rw [Nat.zero_add]; exact hv) trivial ?_
      (conv => whnf); rw [w8 (x := (k : Int)) (by omega) (by omega)]
      (conv => whnf); refine pures (has_c s k hk8 H2) fun H3 ha3 => ?_
      have st3 := st.call ha3
      cases hb : s.getLsbD k with
      | true =>
        (conv => whnf); rw [w8 (x := (k : Int)) (by omega) (by omega)]
        (conv => whnf)
        have hf : ((List.range 256).find? fun b => decide (n ≤ b) && s.getLsbD b) = some k := by
          rw [List.find?_range_eq_some]
          refine ⟨by simp [hnk, hb], by simpa using hk8, fun j hj => ?_⟩
          by_cases hnj : n ≤ j
          · simp [hno j hnj hj]
          · simp [hnj]
        refine ⟨?_, st3.old⟩
        unfold nextM
        rw [hf]; first | done | rfl
      | false =>
        (conv => whnf); rw [w64 (x := (k : Int) + 1) (by omega) (by omega)]
        refine ⟨rfl, k + 1, by simp, ⟨by omega, by omega, fun j h1 h2 => ?_, st3⟩, by omega⟩
        by_cases hjk : j = k
        · subst hjk; exact hb
        · exact hno j h1 (by omega)
    · obtain rfl : k = 256 := by omega
      (conv => whnf)
      have hf : ((List.range 256).find? fun b => decide (n ≤ b) && s.getLsbD b) = none := by
        rw [List.find?_range_eq_none]
        intro j hj
        by_cases hnj : n ≤ j
        · simp [hno j hnj (by simpa using hj)]
        · simp [hnj]
      refine ⟨?_, st.old⟩
      unfold nextM
      rw [hf]; first | done | rfl
end Go.Proofs.YthomdogheamfpaaDoor
/- Tables and automata, in plain Lean. -/
set_option linter.unusedVariables false
set_option linter.unusedSimpArgs false
namespace Go.Proofs.YthomdogheamfpaaDoor

/-- The union of the cells, if no two meet. -/
def disjGo (all : BitVec 256) : List (BitVec 256) → Option (BitVec 256)
  | [] => some all
  | c :: cs => if all &&& c = 0#256 then disjGo (all ||| c) cs else none
theorem disjGo_append (all : BitVec 256) (cs ds : List (BitVec 256)) : disjGo all (cs ++ ds) = (disjGo all cs).bind fun x => disjGo x ds := by
  induction cs generalizing all with
  | nil => rfl
  | cons c cs ih =>
    simp only [List.cons_append, disjGo]
    split
    · exact ih _
    · rfl
theorem disjGo_snoc {all : BitVec 256} {cs : List (BitVec 256)} {x c : BitVec 256} (h : disjGo all cs = some x) : disjGo all (cs ++ [c]) = if x &&& c = 0#256 then some (x ||| c) else none := by
  rw [disjGo_append, h]; rfl
def rowOk (n m : Nat) (row : List Int) : Bool := row.length == m && row.all fun q => decide (0 ≤ q) && decide (q < (n : Int))
def soundB (cells : List (BitVec 256)) (next : List (List Int)) (fl : Nat) : Bool :=
  match disjGo 0#256 cells with
  | none => false
  | some all => all == BitVec.allOnes 256 && decide (1 ≤ next.length) && decide (next.length ≤ 65536) && next.length == fl && next.all (rowOk next.length cells.length)

theorem take_succ_snoc {α : Type} {l : List α} {k : Nat} {x : α} (h : l[k]? = some x) : l.take (k + 1) = l.take k ++ [x] := by
  rw [List.take_add_one, h]; rfl
theorem get_some {α : Type} {l : List α} {k : Nat} (h : k < l.length) : ∃ x, l[k]? = some x := ⟨l[k], List.getElem?_eq_getElem h⟩

/-! ### merging -/
def alikeB (next : List (List Int)) (c d : Nat) : Bool := c == d || next.all fun row => row[c]? == row[d]?
def cellOf (cells : List (BitVec 256)) (b : Nat) : Nat := cells.findIdx fun c => c.getLsbD b
structure MS where
  cols : List Nat
  sets : List (BitVec 256)
  cell : List Nat
def mFind (next : List (List Int)) (cols : List Nat) (f : Nat) : Option Nat := cols.findIdx? fun c => alikeB next c f
/-- The columns, the sets and the place, once there is a column for f. -/
def mNew (next : List (List Int)) (cols : List Nat) (sets : List (BitVec 256)) (f : Nat) : List Nat × List (BitVec 256) × Nat :=
  match mFind next cols f with
  | some i => (cols, sets, i)
  | none => (cols ++ [f], sets ++ [0#256], cols.length)
def mStep (next : List (List Int)) (cells : List (BitVec 256)) (st : MS) (b : Nat) (s : BitVec 256) : MS :=
  let r := mNew next st.cols st.sets (cellOf cells b)
  ⟨r.1, r.2.1.set r.2.2 (r.2.1.getD r.2.2 0#256 ||| s), st.cell ++ [r.2.2]⟩
def mRun (next : List (List Int)) (cells : List (BitVec 256)) (sp : Nat → BitVec 256) : Nat → MS
  | 0 => ⟨[], [], []⟩
  | b + 1 => mStep next cells (mRun next cells sp b) b (sp b)

theorem disjGo_bits {all : BitVec 256} {cs : List (BitVec 256)} {x : BitVec 256} (h : disjGo all cs = some x) (b : Nat) : x.getLsbD b = (all.getLsbD b || cs.any fun c => c.getLsbD b) := by
  induction cs generalizing all with
  | nil => simp only [disjGo, Option.some.injEq] at h; subst h; simp
  | cons c cs ih =>
    simp only [disjGo] at h
    split at h
    · rw [ih h, BitVec.getLsbD_or, List.any_cons, Bool.or_assoc]
    · cases h
theorem soundB_cells {cells : List (BitVec 256)} {next : List (List Int)} {fl : Nat} (h : soundB cells next fl = true) {b : Nat} (hb : b < 256) : cellOf cells b < cells.length ∧ ∀ c, cells[cellOf cells b]? = some c → c.getLsbD b = true := by
  unfold soundB at h
  split at h
  · cases h
  · rename_i all hall
    simp only [Bool.and_eq_true, beq_iff_eq] at h
    have h1 := disjGo_bits hall b
    rw [h.1.1.1.1, BitVec.getLsbD_allOnes] at h1
    simp only [hb, decide_true, BitVec.getLsbD_zero, Bool.false_or] at h1
    have h2 : cellOf cells b < cells.length := List.findIdx_lt_length.2 (by simpa using (List.any_eq_true.1 h1.symm))
    refine ⟨h2, fun c hc => ?_⟩
    have := List.findIdx_getElem (w := h2)
    rw [List.getElem?_eq_getElem h2] at hc
    cases hc
    exact this
theorem cellOf_before {cells : List (BitVec 256)} {b k : Nat} {c : BitVec 256} (hk : k < cellOf cells b) (hc : cells[k]? = some c) : c.getLsbD b = false := by
  have := List.not_of_lt_findIdx hk
  have hlt := (List.getElem?_eq_some_iff.1 hc).1
  rw [List.getElem?_eq_getElem hlt] at hc
  cases hc
  simpa using this
theorem soundB_rows {cells : List (BitVec 256)} {next : List (List Int)} {fl : Nat} (h : soundB cells next fl = true) : 1 ≤ next.length ∧ next.length ≤ 65536 ∧ next.length = fl ∧ ∀ row ∈ next, row.length = cells.length ∧ ∀ q ∈ row, 0 ≤ q ∧ q < (next.length : Int) := by
  unfold soundB at h
  split at h
  · cases h
  · simp only [Bool.and_eq_true, beq_iff_eq, decide_eq_true_eq, List.all_eq_true, rowOk] at h
    exact ⟨h.1.1.1.2, h.1.1.2, h.1.2, fun row hr => ⟨(h.2 row hr).1, fun q hq => (h.2 row hr).2 q hq⟩⟩

structure MOk (m b : Nat) (st : MS) : Prop where
  len : st.cols.length = st.sets.length
  le : st.cols.length ≤ b
  cell : st.cell.length = b
  cols : ∀ c ∈ st.cols, c < m
  places : ∀ p ∈ st.cell, p < st.cols.length
theorem mNew_ok {next : List (List Int)} {cols : List Nat} {sets : List (BitVec 256)} {f m b : Nat} (h1 : cols.length = sets.length) (h2 : cols.length ≤ b) (h3 : ∀ c ∈ cols, c < m) (hf : f < m) :
    (mNew next cols sets f).1.length = (mNew next cols sets f).2.1.length ∧ (mNew next cols sets f).1.length ≤ b + 1 ∧ (∀ c ∈ (mNew next cols sets f).1, c < m) ∧ (mNew next cols sets f).2.2 < (mNew next cols sets f).1.length ∧ cols.length ≤ (mNew next cols sets f).1.length := by
  unfold mNew
  split
  · rename_i i hi
    have hlt : i < cols.length := by
      have := List.findIdx?_eq_some_iff_findIdx_eq.1 hi
      exact this.1
    exact ⟨h1, Nat.le_succ_of_le h2, h3, hlt, Nat.le_refl _⟩
  · refine ⟨by simp [h1], by simpa using h2, ?_, by simp, by simp⟩
    intro c hc
    rcases List.mem_append.1 hc with h | h
    · exact h3 c h
    · rw [List.mem_singleton] at h; omega
theorem mRun_ok {next : List (List Int)} {cells : List (BitVec 256)} {sp : Nat → BitVec 256} (hc : ∀ b, b < 256 → cellOf cells b < cells.length) : ∀ b, b ≤ 256 → MOk cells.length b (mRun next cells sp b)
  | 0, _ => ⟨rfl, Nat.le_refl _, rfl, (fun c h => by cases h), (fun p h => by cases h)⟩
  | b + 1, hb => by
    have ih := mRun_ok (next := next) (sp := sp) hc b (by omega)
    have h := mNew_ok (next := next) ih.len ih.le ih.cols (hc b (by omega))
    unfold mRun mStep
    refine ⟨?_, h.2.1, ?_, h.2.2.1, ?_⟩
    · simp only [List.length_set]; exact h.1
    · simp [ih.cell]
    · intro p hp
      simp only [List.mem_append, List.mem_singleton] at hp
      rcases hp with hp | rfl
      · exact Nat.lt_of_lt_of_le (ih.places p hp) h.2.2.2.2
      · exact h.2.2.2.1

end Go.Proofs.YthomdogheamfpaaDoor
/- What dfa.sound and dfa.alike compute. -/
set_option linter.unusedVariables false
set_option linter.unusedSimpArgs false
set_option maxRecDepth 100000
namespace Go.Proofs.YthomdogheamfpaaDoor
open Go.VC

abbrev tI : Ty Int := tInt .i64
abbrev tRows : Ty (List Int) := tSl tI

theorem sound_p (ca na fa : Option Addr) (cc nc fc fl : Nat) (cells : List (BitVec 256)) (next : List (List Int)) (S : Nat → Prop) (H : Heap) (hS : ∀ k, S k → k < H.size)
    (hc : SlD tSet S H ca cc cells) (hn : SlD tRows S H na nc next) (hfl : fl ≤ 9223372036854775807) :
    Pure Tryd.prog 91 #[.slice ca cells.length cc, .slice na next.length nc, .slice fa fl fc] H (.bool (soundB cells next fl)) := by
  have lc := hc.le
  have ln := hn.le
  unfold maxLen at lc ln
  refine FnOk.of_vc Tryd.func91 rfl (Tryd.call91 _) ?_
  (conv => whnf); refine valloc (setV 0) (setL 0) rfl rfl ?_
  intro p H1 hp hs1 hb1 ha1
  (conv => whnf)
  refine VLoop.mk [16] (fun k : Nat => [.int .i64 k]) (fun k H2 => k ≤ cells.length ∧ Agr (Old H) H H2 ∧ p < H2.size ∧ ∃ all, disjGo 0#256 (cells.take k) = some all ∧ Blk H2 p 73 (setL all)) (fun k _ => cells.length - k) ?_ ?_
  · (conv => whnf)
    exact ⟨0, rfl, by omega, ha1.mono (fun k hk => by unfold Old at hk; omega), by omega, 0, rfl, hb1⟩
  · rintro k H2 junk ⟨hk, ha2, hp2, all, hall, hb2⟩
    (conv => whnf)
    refine VIte.mk (fun h => ?_) (fun h => ?_) <;> simp only [decide_eq_true_eq, decide_eq_false_iff_not] at h
    · obtain ⟨c, hck⟩ := get_some (l := cells) (k := k) (by omega)
      (conv => whnf); refine ixr sl83 (hc.frame (ha2.mono hS)) hck rfl ?_
      rintro b o cs hSb hcells rfl
      (conv => whnf); refine ldN (cs := setL c) ag73 hcells trivial ?_
      (conv => whnf); refine valloc (setV 0) (setL 0) rfl rfl ?_
      intro q H3 hq hs3 hb3 ha3
      (conv => whnf); refine stN rfl hb3 (show 0 + 4 ≤ 4 by decide) rfl ?_
      intro H4 hb4 ha4 hs4
      have hb4' : Blk H4 q 73 (setL c) := hb4
      have hb2' : Blk H4 p 73 (setL all) := (hb2.agr ha3 (show p < q by omega)).agr ha4 (show p ≠ q by omega)
      (conv => whnf); refine ldN (cs := setL all) ag73 (hb2'.cells (fun j v hv => by simpa using hv)) trivial ?_
      (conv => whnf); refine ldN (cs := setL c) ag73 (hb4'.cells (fun j v hv => by simpa using hv)) trivial ?_
      (conv => whnf); refine pures (meet_c all c H4) ?_
      intro H5 ha5
      (conv => whnf); refine vbuildA ar73 (setV 0) rfl (setL 0) rfl ?_
      (conv => whnf); refine set_neq (all &&& c) 0#256 ?_
      have hA : Agr (Old H) H H5 := (ha2.trans ((ha3.mono (fun k hk => by unfold Old at hk; omega)).trans (ha4.mono (fun k hk => by unfold Old at hk; omega)))).trans (ha5.mono (fun k hk => by unfold Old at *; omega))
      by_cases hm : all &&& c = 0#256
      · rw [show decide (all &&& c = 0#256) = true by simpa using hm]
        have hb5 := hb2'.agr ha5 (show p < H4.size by omega)
        have hb5' := hb4'.agr ha5 (show q < H4.size by omega)
        (conv => whnf); refine ldN (cs := setL all) ag73 (hb5.cells (fun j v hv => by simpa using hv)) trivial ?_
        (conv => whnf); refine ldN (cs := setL c) ag73 (hb5'.cells (fun j v hv => by simpa using hv)) trivial ?_
        (conv => whnf); refine pures (union_c all c H5) ?_
        intro H6 ha6
        (conv => whnf); refine stN rfl (hb5.agr ha6 hb5.lt) (show 0 + 4 ≤ 4 by decide) rfl ?_
        intro H7 hb7 ha7 hs7
        (conv => whnf); rw [w64 (x := (k : Int) + 1) (by omega) (by omega)]
        have h56 := old_size ha6
        have h45 := old_size ha5
        refine ⟨rfl, k + 1, by simp, ⟨by omega, ?_, by omega, all ||| c, ?_, hb7⟩, by omega⟩
        · exact (hA.trans (ha6.mono (fun k hk => by unfold Old at *; omega))).trans (ha7.mono (fun k hk => by unfold Old at hk; omega))
        · rw [take_succ_snoc hck, disjGo_snoc hall, if_pos hm]
      · rw [show decide (all &&& c = 0#256) = false by simpa using hm]
        (conv => whnf)
        refine ⟨?_, hA⟩
        have : disjGo 0#256 cells = none := by
          rw [← List.take_append_drop (k + 1) cells, disjGo_append, take_succ_snoc hck, disjGo_snoc hall, if_neg hm]; rfl
        simp [soundB, this]
    · have hkc : k = cells.length := by omega
      subst hkc
      rw [List.take_length] at hall
      (conv => whnf)
      refine VDraw.quiet (Old H2) rfl (by kernel_rfl) ?_
      have hOld : ∀ {H' : Heap}, Agr (Old H2) H2 H' → Agr (fun k => k < H.size) H H' := fun h => ha2.trans (h.mono (fun k hk => by unfold Old at *; omega))
      (conv => whnf); refine ldN (cs := setL all) ag73 (hb2.cells (fun j v hv => by simpa using hv)) hp2 ?_
      (conv => whnf); refine pureq (fun H' _ => span_p 0 255 (by decide) (by decide) H') ?_
      (conv => whnf); refine set_neq all (spanS 0 255) ?_
      rw [spanS_full]
      (conv => whnf); refine VIte.mk (fun h1 => ?_) (fun h1 => ?_) <;> simp only [Bool.not_eq_true', Bool.not_eq_false', decide_eq_true_eq, decide_eq_false_iff_not] at h1
      · (conv => whnf); intro H5 ha5
        (conv => whnf); exact ⟨by
          have e : (all == BitVec.allOnes 256) = false := beq_eq_false_iff_ne.2 h1
          rw [soundB, hall]; simp only [e, Bool.false_and], hOld ha5⟩
      (conv => whnf); refine VIte.mk (fun h2 => ?_) (fun h2 => ?_) <;> simp only [decide_eq_true_eq, decide_eq_false_iff_not] at h2
      · (conv => whnf); intro H5 ha5
        (conv => whnf); exact ⟨by simp [soundB, hall, show ¬ 1 ≤ next.length by omega], hOld ha5⟩
      (conv => whnf); refine VIte.mk (fun h3 => ?_) (fun h3 => ?_) <;> simp only [decide_eq_true_eq, decide_eq_false_iff_not] at h3
      · (conv => whnf); intro H5 ha5
        (conv => whnf); exact ⟨by simp [soundB, hall, show ¬ next.length ≤ 65536 by omega], hOld ha5⟩
      (conv => whnf); intro H5 ha5
      (conv => whnf); refine VIte.mk (fun h4 => ?_) (fun h4 => ?_) <;> simp only [bne_iff_ne, ne_eq, bne_eq_false_iff_eq] at h4
      · (conv => whnf); exact ⟨by simp [soundB, hall, show ¬ next.length = fl by omega], hOld ha5⟩
      have h4' : next.length = fl := by omega
      have hsound : soundB cells next fl = next.all (rowOk next.length cells.length) := by
        have e : (all == BitVec.allOnes 256) = true := beq_iff_eq.2 h1
        rw [soundB, hall]
        simp only [e, decide_eq_true (show 1 ≤ next.length by omega), decide_eq_true (show next.length ≤ 65536 by omega), beq_iff_eq.2 h4', Bool.and_self, Bool.true_and]
      rw [hsound]
      have bad : ∀ {k : Nat} {row : List Int}, next[k]? = some row → rowOk next.length cells.length row = false → next.all (rowOk next.length cells.length) = false := by
        intro k row h1 h2
        rw [List.all_eq_false]
        exact ⟨row, List.mem_of_getElem? h1, by simp [h2]⟩
      have hn5 := hn.frame ((hOld ha5).mono hS)
      (conv => whnf)
      refine VLoop.mk [51] (fun k : Nat => [.int .i64 k]) (fun k H' => H' = H5 ∧ k ≤ next.length ∧ (next.take k).all (rowOk next.length cells.length) = true) (fun k _ => next.length - k) ?_ ?_
      · (conv => whnf)
        exact ⟨0, rfl, rfl, by omega, rfl⟩
      · rintro k H6 junk2 ⟨rfl, hk2, hall2⟩
        (conv => whnf)
        refine VIte.mk (fun h => ?_) (fun h => ?_) <;> simp only [decide_eq_true_eq, decide_eq_false_iff_not] at h
        · obtain ⟨row, hrow⟩ := get_some (l := next) (k := k) (by omega)
          (conv => whnf); refine ixr sl23 hn5 hrow rfl ?_
          rintro b o cs hSb hcells ⟨ra, rc, rfl, hr⟩
          have lr := hr.le
          unfold maxLen at lr
          (conv => whnf); refine ld1 ct33 hcells.one trivial ?_
          (conv => whnf); refine VIte.mk (fun h5 => ?_) (fun h5 => ?_) <;> simp only [bne_iff_ne, ne_eq, bne_eq_false_iff_eq] at h5
          · (conv => whnf); exact ⟨by rw [bad hrow (by simp [rowOk]; intro h; omega)], hOld ha5⟩
          (conv => whnf)
          refine VLoop.mk [62] (fun j : Nat => [.int .i64 j]) (fun j H' => H' = H6 ∧ j ≤ row.length ∧ (row.take j).all (fun q => decide (0 ≤ q) && decide (q < (next.length : Int))) = true) (fun j _ => row.length - j) ?_ ?_
          · (conv => whnf)
            exact ⟨0, rfl, rfl, by omega, rfl⟩
          · rintro j H7 junk3 ⟨rfl, hj, hall3⟩
            (conv => whnf)
            refine VIte.mk (fun h => ?_) (fun h => ?_) <;> simp only [decide_eq_true_eq, decide_eq_false_iff_not] at h
            · obtain ⟨q, hq⟩ := get_some (l := row) (k := j) (by omega)
              have badq : ¬ (0 ≤ q ∧ q < (next.length : Int)) → rowOk next.length cells.length row = false := by
                intro hb
                have : (row.all fun q => decide (0 ≤ q) && decide (q < (next.length : Int))) = false := by
                  rw [List.all_eq_false]
                  exact ⟨q, List.mem_of_getElem? hq, by simpa using hb⟩
                simp only [rowOk, this, Bool.and_false]
              (conv => whnf); refine ixr sl33 hr hq rfl ?_
              rintro b2 o2 cs2 hSb2 hcells2 ⟨rfl, hqk⟩
              (conv => whnf); refine ld1 ct3 hcells2.one trivial ?_
              (conv => whnf); refine VIte.mk (fun h6 => ?_) (fun h6 => ?_) <;> simp only [decide_eq_true_eq, decide_eq_false_iff_not] at h6
              · (conv => whnf); exact ⟨by rw [bad hrow (badq (by omega))], hOld ha5⟩
              (conv => whnf); refine VIte.mk (fun h7 => ?_) (fun h7 => ?_) <;> simp only [decide_eq_true_eq, decide_eq_false_iff_not] at h7
              · (conv => whnf); exact ⟨by rw [bad hrow (badq (by omega))], hOld ha5⟩
              (conv => whnf); rw [w64 (x := (j : Int) + 1) (by omega) (by omega)]
              refine ⟨rfl, j + 1, by simp, ⟨rfl, by omega, ?_⟩, by omega⟩
              rw [take_succ_snoc hq, List.all_append, hall3]
              simp; omega
            · have hj' : j = row.length := by omega
              subst hj'
              rw [List.take_length] at hall3
              (conv => whnf); rw [w64 (x := (k : Int) + 1) (by omega) (by omega)]
              refine ⟨rfl, k + 1, by simp, ⟨rfl, by omega, ?_⟩, by omega⟩
              rw [take_succ_snoc hrow, List.all_append, hall2]
              simp only [List.all_cons, List.all_nil, Bool.and_true, Bool.true_and, rowOk, hall3, beq_iff_eq]
              omega
        · have hk' : k = next.length := by omega
          subst hk'
          rw [List.take_length] at hall2
          (conv => whnf); exact ⟨by rw [hall2], hOld ha5⟩

theorem alike_p (na : Option Addr) (nc c d m : Nat) (next : List (List Int)) (S : Nat → Prop) (H : Heap) (hn : SlD tRows S H na nc next) (hm : ∀ row ∈ next, row.length = m) (hc : c < m) (hd : d < m) (hm64 : m ≤ 9223372036854775807) :
    Pure Tryd.prog 118 #[.slice na next.length nc, .int .i64 c, .int .i64 d] H (.bool (alikeB next c d)) := by
  have ln := hn.le
  unfold maxLen at ln
  refine FnOk.of_vc Tryd.func118 rfl (Tryd.call118 _) ?_
  (conv => whnf); refine VIte.mk (fun h => ?_) (fun h => ?_) <;> simp only [beq_iff_eq, beq_eq_false_iff_ne, Int.natCast_inj, ne_eq] at h
  · (conv => whnf); exact ⟨by simp [alikeB, h], Agr.refl _ _⟩
  have hcd : (c == d) = false := by simpa using h
  (conv => whnf)
  refine VLoop.mk [14] (fun k : Nat => [.int .i64 k]) (fun k H' => H' = H ∧ k ≤ next.length ∧ (next.take k).all (fun row => row[c]? == row[d]?) = true) (fun k _ => next.length - k) ?_ ?_
  · (conv => whnf); exact ⟨0, rfl, rfl, by omega, rfl⟩
  · rintro k H1 junk ⟨rfl, hk, hall⟩
    (conv => whnf); refine VIte.mk (fun h => ?_) (fun h => ?_) <;> simp only [decide_eq_true_eq, decide_eq_false_iff_not] at h
    · obtain ⟨row, hrow⟩ := get_some (l := next) (k := k) (by omega)
      have hlen := hm row (List.mem_of_getElem? hrow)
      (conv => whnf); refine ixr sl23 hn hrow rfl ?_
      rintro b o cs hSb hcells ⟨ra, rc, rfl, hr⟩
      (conv => whnf); refine ld1 ct33 hcells.one trivial ?_
      (conv => whnf); refine VDraw.lex rfl (by kernel_rfl) ?_
      obtain ⟨x, hx⟩ := get_some (l := row) (k := c) (by omega)
      obtain ⟨y, hy⟩ := get_some (l := row) (k := d) (by omega)
      (conv => whnf); refine ixr sl33 hr hx rfl ?_
      rintro b2 o2 cs2 hSb2 hcells2 ⟨rfl, hxk⟩
      (conv => whnf); refine ld1 ct3 hcells2.one trivial ?_
      (conv => whnf); refine ixr sl33 hr hy rfl ?_
      rintro b3 o3 cs3 hSb3 hcells3 ⟨rfl, hyk⟩
      (conv => whnf); refine ld1 ct3 hcells3.one trivial ?_
      (conv => whnf); refine VIte.mk (fun h => ?_) (fun h => ?_) <;> simp only [bne_iff_ne, ne_eq, bne_eq_false_iff_eq] at h
      · (conv => whnf)
        refine ⟨?_, Agr.refl _ _⟩
        have : (next.all fun row => row[c]? == row[d]?) = false := by
          rw [List.all_eq_false]
          exact ⟨row, List.mem_of_getElem? hrow, by simp [hx, hy, h]⟩
        simp only [alikeB, hcd, this, Bool.or_false]
      · (conv => whnf); rw [w64 (x := (k : Int) + 1) (by omega) (by omega)]
        refine ⟨rfl, k + 1, by simp, ⟨rfl, by omega, ?_⟩, by omega⟩
        rw [take_succ_snoc hrow, List.all_append, hall]
        simp [hx, hy, h]
    · have hk' : k = next.length := by omega
      subst hk'
      rw [List.take_length] at hall
      (conv => whnf); exact ⟨by simp only [alikeB, hcd, hall, Bool.false_or], Agr.refl _ _⟩

end Go.Proofs.YthomdogheamfpaaDoor
/- What merge makes. -/
set_option linter.unusedVariables false
set_option linter.unusedSimpArgs false
set_option maxRecDepth 100000
namespace Go.Proofs.YthomdogheamfpaaDoor
open Go.VC

/-- The cells of an Auto. -/
def autoL (cv : Value) (cell : List Nat) (nv fv av : Value) : List Value :=
  cv :: (cell.map (fun n : Nat => Value.int .u8 (n : Int)) ++ List.replicate (256 - cell.length) (.int .u8 0)) ++ [nv, fv, av]
section
variable {cv nv fv av x : Value} {cell : List Nat}
theorem autoL_len (h : cell.length ≤ 256) : (autoL cv cell nv fv av).length = 260 := by simp [autoL]; omega
theorem autoL_0 : (autoL cv cell nv fv av)[0]? = some cv := by simp [autoL]
theorem autoL_set0 : (autoL cv cell nv fv av).set 0 x = autoL x cell nv fv av := by simp [autoL]
theorem autoL_get (h : cell.length ≤ 256) (j : Nat) : (autoL cv cell nv fv av)[257 + j]? = [nv, fv, av][j]? := by
  unfold autoL
  rw [List.cons_append, show 257 + j = (256 + j) + 1 by omega, List.getElem?_cons_succ, List.getElem?_append_right (by simp; omega)]
  congr 1
  simp; omega
theorem autoL_257 (h : cell.length ≤ 256) : (autoL cv cell nv fv av)[257]? = some nv := autoL_get h 0
theorem autoL_258 (h : cell.length ≤ 256) : (autoL cv cell nv fv av)[258]? = some fv := autoL_get h 1
theorem autoL_259 (h : cell.length ≤ 256) : (autoL cv cell nv fv av)[259]? = some av := autoL_get h 2
theorem autoL_setn (h : cell.length ≤ 256) (j : Nat) : (autoL cv cell nv fv av).set (257 + j) x = cv :: (cell.map (fun n : Nat => Value.int .u8 (n : Int)) ++ List.replicate (256 - cell.length) (.int .u8 0)) ++ [nv, fv, av].set j x := by
  unfold autoL
  rw [List.cons_append, show 257 + j = (256 + j) + 1 by omega, List.set_cons_succ, List.set_append_right (h := by simp; omega)]
  have e : 256 + j - (List.map (fun n : Nat => Value.int .u8 (n : Int)) cell ++ List.replicate (256 - cell.length) (Value.int .u8 0)).length = j := by simp; omega
  rw [e]; rfl
theorem autoL_set257 (h : cell.length ≤ 256) : (autoL cv cell nv fv av).set 257 x = autoL cv cell x fv av := autoL_setn h 0
theorem autoL_set259 (h : cell.length ≤ 256) : (autoL cv cell nv fv av).set 259 x = autoL cv cell nv fv x := autoL_setn h 2
theorem autoL_cell (h : cell.length < 256) (p : Nat) : (autoL cv cell nv fv av).set (1 + cell.length) (.int .u8 (p : Int)) = autoL cv (cell ++ [p]) nv fv av := by
  unfold autoL
  rw [List.cons_append, show 1 + cell.length = cell.length + 1 by omega, List.set_cons_succ, List.append_assoc, List.set_append_right (h := by simp)]
  have e : cell.length - (List.map (fun n : Nat => Value.int .u8 (n : Int)) cell).length = 0 := by simp
  rw [e, show 256 - cell.length = (256 - (cell.length + 1)) + 1 by omega, List.replicate_succ]
  simp
end

/-- The row that merge makes of a row. -/
def rowOf (cols : List Nat) (row : List Int) : List Int := cols.map fun c => row.getD c 0

set_option maxHeartbeats 4000000 in
theorem merge_c (pb : Nat) (fv av : Value) (ca na : Option Addr) (cc nc : Nat) (cells : List (BitVec 256)) (next : List (List Int)) (fl : Nat) (S : Nat → Prop) (H : Heap) (hS : ∀ k, S k → k < H.size ∧ k ≠ pb)
    (hb : Blk H pb 127 (autoL (.slice none 0 0) [] (.slice none 0 0) fv av)) (hc : SlD tSet S H ca cc cells) (hn : SlD tRows S H na nc next) (hs : soundB cells next fl = true) :
    FnOk Tryd.prog 92 #[.pointer (some ⟨pb, 0, none⟩), .slice ca cells.length cc, .slice na next.length nc] H fun v H' =>
      let st := mRun next cells (fun b => spanS b b) 256
      Agr (fun k => k < H.size ∧ k ≠ pb) H H' ∧ H.size ≤ H'.size ∧ ∃ ac capc an capn, Blk H' pb 127 (autoL (.slice ac st.sets.length capc) st.cell (.slice an next.length capn) fv av) ∧
        SlD tSet (fun k => H.size ≤ k ∧ k < H'.size) H' ac capc st.sets ∧ SlD tRows (fun k => H.size ≤ k ∧ k < H'.size) H' an capn (next.map (rowOf st.cols)) := by
  have lc := hc.le
  have ln := hn.le
  unfold maxLen at lc ln
  obtain ⟨n1, n2, n3, hrows⟩ := soundB_rows hs
  refine FnOk.of_vc Tryd.func92 rfl (Tryd.call92 _) ?_
  have hpb := hb.lt
  generalize hsp : (fun b => spanS b b) = sp
  have hcell : ∀ b, b < 256 → cellOf cells b < cells.length := fun b hb => (soundB_cells hs hb).1
  (conv => whnf); refine vmake1 sl23 rfl (by omega) (by omega) (by omega) (by omega) ?_
  intro nb H1 hnb hs1 hb1 ha1
  (conv => whnf); refine fa fl127_2 ?_
  (conv => whnf); refine st1 ct23 (hb.agr ha1 (show pb < nb by omega)) (by rw [autoL_len (by simp)]; omega) rfl ?_
  intro H2 hb2 ha2 hs2
  rw [Nat.zero_add, autoL_set257 (by simp)] at hb2
  replace hb1 := hb1.agr ha2 (show nb ≠ pb by omega)
  rw [Int.toNat_natCast] at hb1
  have hA2 : Agr (fun k => k < H.size ∧ k ≠ pb) H H2 := (ha1.mono fun k hk => by omega).trans (ha2.mono fun k hk => hk.2)
  (conv => whnf)
  refine VLoop.mk [6, 22] (fun x : Nat × Value => [x.2, .int .i64 x.1]) (fun x H3 => x.1 ≤ 256 ∧ Agr (fun k => k < H.size ∧ k ≠ pb) H H3 ∧ H2.size ≤ H3.size ∧
    SlO tI (fun _ => False) H3 (nb + 1) 3 x.2 ((mRun next cells sp x.1).cols.map Nat.cast) ∧ Blk H3 nb 33 (List.replicate next.length (.slice none 0 0)) ∧
    ∃ cv, SlO tSet (fun _ => False) H3 (nb + 1) 73 cv (mRun next cells sp x.1).sets ∧ (∀ k, slB x.2 k → ¬ slB cv k) ∧
      Blk H3 pb 127 (autoL cv (mRun next cells sp x.1).cell (.slice (some ⟨nb, 0, none⟩) next.length next.length) fv av)) (fun x _ => 256 - x.1) ?_ ?_
  · (conv => whnf)
    exact ⟨(0, _), rfl, by omega, hA2, Nat.le_refl _, SlO.nil, hb1, _, SlO.nil, (by rintro k ⟨o, n, c, h⟩; cases h), hb2⟩
  · rintro ⟨b, v6⟩ H3 junk ⟨hb256, hA3, hs3, hcols, hb3n, cv, hsets, hdis, hb3⟩
    dsimp only at hb256 hcols hsets hdis hb3
    obtain ⟨ac, capc, rfl, -, -⟩ := hcols.view (S' := fun k => slB v6 k) (fun k hk => hk) (fun k hk => hk.elim)
    (conv => whnf); refine VIte.mk (fun h => ?_) (fun h => ?_) <;> simp only [decide_eq_true_eq, decide_eq_false_iff_not] at h
    · have hok := mRun_ok (next := next) (sp := sp) hcell b (by omega)
      generalize hst : mRun next cells sp b = st at *
      obtain ⟨hfb, hfhas⟩ := soundB_cells hs (b := b) (by omega)
      (conv => whnf)
      -- the cell of b
      refine VLoop.mk [8] (fun f : Nat => [.int .i64 f]) (fun f H4 => Agr (Old H3) H3 H4 ∧ f ≤ cellOf cells b) (fun f _ => cells.length - f) ?_ ?_
      · (conv => whnf); exact ⟨0, rfl, Agr.refl _ _, by omega⟩
      · rintro f H4 junk2 ⟨ha4, hf⟩
        have hA4 : Agr (fun k => k < H.size ∧ k ≠ pb) H H4 := hA3.trans (ha4.mono fun k hk => by unfold Old; omega)
        obtain ⟨c, hcf⟩ := get_some (l := cells) (k := f) (by omega)
        (conv => whnf); refine ixr sl83 (hc.frame (hA4.mono fun k hk => hS k hk)) hcf rfl ?_
        rintro b' o cs hSb hcells rfl
        (conv => whnf); refine ldN (cs := setL c) ag73 hcells trivial ?_
        (conv => whnf); rw [w8 (x := (b : Int)) (by omega) (by omega)]
        refine pures (has_c c b (by omega) H4) ?_
        intro H5 ha5
        have hs34 := old_size ha4
        have ha35 : Agr (Old H3) H3 H5 := ha4.trans (ha5.mono fun k hk => by unfold Old at *; omega)
        by_cases hfeq : f = cellOf cells b
        · have hbit : c.getLsbD b = true := hfhas c (hfeq ▸ hcf)
          rw [hbit]
          (conv => whnf)
          subst hfeq
          generalize hfr : cellOf cells b = fr at *
          have hcols5 := hcols.agr ha35 (fun k hk => (hcols.lt hk).2) (fun k hk => hk.elim)
          have hs35 := old_size ha35
          -- the columns
          refine VSeq.cut [9] (fun pl : Option Nat => [.int .i64 (match pl with | none => -1 | some i => (i : Int))]) (fun pl H6 => pl = mFind next st.cols fr ∧ Agr (Old H5) H5 H6) ?_ ?_
          · obtain ⟨ac', capc', he, hview, hblk⟩ := hcols5.view (S' := Old H5) (fun k hk => (hcols5.lt hk).2) (fun k hk => hk.elim)
            cases he
            have hrl : ∀ row ∈ next, row.length = cells.length := fun row hr => (hrows row hr).1
            (conv => whnf)
            refine VLoop.mk [9, 37] (fun k : Nat => [.int .i64 (-1), .int .i64 k]) (fun k H6 => Agr (Old H5) H5 H6 ∧ k ≤ st.cols.length ∧ (st.cols.take k).findIdx? (fun c => alikeB next c fr) = none) (fun k _ => st.cols.length - k) ?_ ?_
            · (conv => whnf); exact ⟨0, rfl, Agr.refl _ _, by omega, rfl⟩
            · rintro k H6 junk3 ⟨ha6, hk, hnone⟩
              have hle := hok.le
              (conv => whnf); rw [List.length_map]; refine VIte.mk (fun h => ?_) (fun h => ?_) <;> simp only [decide_eq_true_eq, decide_eq_false_iff_not] at h
              · obtain ⟨c0, hc0⟩ := get_some (l := st.cols) (k := k) (by omega)
                have hc0m := hok.cols c0 (List.mem_of_getElem? hc0)
                (conv => whnf); refine ixrn (x := (c0 : Int)) sl33 (hview.frame ha6) (by simp) (by simp [hc0]) rfl ?_
                rintro b2 o2 cs2 hSb2 hcells2 ⟨rfl, -⟩
                (conv => whnf); refine ld1 ct3 hcells2.one trivial ?_
                have hn6 : SlD tRows S H6 na nc next := hn.frame ((hA3.trans ((ha35.trans (ha6.mono fun k hk => by unfold Old at *; omega)).mono fun k hk => by unfold Old; omega)).mono fun k hk => hS k hk)
                (conv => whnf); refine pures (alike_p na nc c0 fr cells.length next S H6 hn6 hrl hc0m hfb (by omega)) ?_
                intro H7 ha7
                have hs56 := old_size ha6
                have ha57 : Agr (Old H5) H5 H7 := ha6.trans (ha7.mono fun k hk => by unfold Old at *; omega)
                (conv => whnf); refine VIte.mk (fun h7 => ?_) (fun h7 => ?_)
                · (conv => whnf)
                  refine ⟨rfl, some k, rfl, ?_, ha57⟩
                  unfold mFind
                  rw [← List.take_append_drop k st.cols, List.findIdx?_append, hnone]
                  have : st.cols.drop k = c0 :: st.cols.drop (k + 1) := by
                    rw [List.getElem?_eq_some_iff] at hc0
                    obtain ⟨h1, h2⟩ := hc0
                    rw [List.drop_eq_getElem_cons h1, h2]
                  rw [this, List.findIdx?_cons, h7]
                  simp; omega
                · (conv => whnf); rw [w64 (x := (k : Int) + 1) (by omega) (by omega)]
                  refine ⟨rfl, k + 1, by simp, ⟨ha57, by omega, ?_⟩, by omega⟩
                  rw [take_succ_snoc hc0, List.findIdx?_append, hnone]
                  simp [h7]
              · (conv => whnf)
                refine ⟨rfl, none, rfl, ?_, ha6⟩
                have : k = st.cols.length := by omega
                subst this
                rw [List.take_length] at hnone
                exact hnone.symm
          · rintro pl H6 junk3 ⟨hpl, ha6⟩
            have ha36 : Agr (Old H3) H3 H6 := ha35.trans (ha6.mono fun k hk => by unfold Old at *; omega)
            have hs36 := old_size ha36
            have hcols6 := hcols.agr ha36 (fun k hk => (hcols.lt hk).2) (fun k hk => hk.elim)
            have hsets6 := hsets.agr ha36 (fun k hk => (hsets.lt hk).2) (fun k hk => hk.elim)
            have hb6n := hb3n.agr ha36 hb3n.lt
            have hb6 := hb3.agr ha36 hb3.lt
            have hA6 : Agr (fun k => k < H.size ∧ k ≠ pb) H H6 := hA3.trans (ha36.mono fun k hk => by unfold Old; omega)
            have hcl : st.cell.length ≤ 256 := by rw [hok.cell]; omega
            (conv => whnf)
            refine VSeq.cut [6, 9] (fun x : Value × Nat => [x.1, .int .i64 x.2]) (fun x H7 => Agr (fun k => k < H.size ∧ k ≠ pb) H H7 ∧ H2.size ≤ H7.size ∧ x.2 = (mNew next st.cols st.sets fr).2.2 ∧
              SlO tI (fun _ => False) H7 (nb + 1) 3 x.1 ((mNew next st.cols st.sets fr).1.map Nat.cast) ∧ Blk H7 nb 33 (List.replicate next.length (.slice none 0 0)) ∧
              ∃ cv, SlO tSet (fun _ => False) H7 (nb + 1) 73 cv (mNew next st.cols st.sets fr).2.1 ∧ (∀ k, slB x.1 k → ¬ slB cv k) ∧
                Blk H7 pb 127 (autoL cv st.cell (.slice (some ⟨nb, 0, none⟩) next.length next.length) fv av)) ?_ ?_
            · cases hf : mFind next st.cols fr with
              | some i =>
                rw [hpl, hf]
                have hm : mNew next st.cols st.sets fr = (st.cols, st.sets, i) := by unfold mNew; rw [hf]
                rw [hm]
                (conv => whnf)
                exact ⟨rfl, (_, i), rfl, hA6, by omega, rfl, hcols6, hb6n, cv, hsets6, hdis, hb6⟩
              | none =>
                rw [hpl, hf]
                have hm : mNew next st.cols st.sets fr = (st.cols ++ [fr], st.sets ++ [0#256], st.cols.length) := by unfold mNew; rw [hf]
                rw [hm]
                (conv => whnf); rw [List.length_map]; refine vbuild1 sl33 [.int .i64 (fr : Int)] rfl rfl (by decide) (by decide) ?_
                intro q H7 hq hs7 hb7 ha7
                have hle := hok.le
                have hcols7 := hcols6.agr ha7 (fun k hk => by have := (hcols6.lt hk).2; omega) (fun k hk => hk.elim)
                (conv => whnf); refine vappendO (T := tI) (S := fun _ => False) (ys := [(fr : Int)]) (ds := [.int .i64 (fr : Int)]) (lo := nb + 1) (xs := st.cols.map Nat.cast) sl33 (by simpa using hcols7) (by omega) (fun k hk => hk.elim)
                  (hb7.cells (fun j v hv => by simpa using hv)) (Ty.reps_one ⟨rfl, inI64 (by omega)⟩) rfl (by intro u hu; cases List.mem_singleton.1 hu; rfl) (by simp only [maxLen, List.length_map, List.length_singleton]; omega) (by simp only [List.length_map, List.length_singleton]; omega) ?_
                intro v8 H8 hcols8 ha8 hs8 hfresh8
                have hold8 : ∀ k, k < H6.size → ¬ slB (.slice ac (st.cols.map (Nat.cast : Nat → Int)).length capc) k → H8[k]? = H6[k]? := fun k h1 h2 => by
                  rw [ha8 k ⟨by omega, by simpa using h2⟩, ha7 k (by omega)]
                have hsets8 : SlO tSet (fun _ => False) H8 (nb + 1) 73 cv st.sets := hsets6.agr (S' := fun k => k < H6.size ∧ ¬ slB (.slice ac (st.cols.map (Nat.cast : Nat → Int)).length capc) k) (fun k hk => hold8 k hk.1 hk.2)
                  (fun k hk => ⟨(hsets6.lt hk).2, fun h => hdis k h hk⟩) (fun k hk => hk.elim)
                have hnlt : ∀ k, k ≤ nb → ¬ slB (.slice ac (st.cols.map (Nat.cast : Nat → Int)).length capc) k := fun k hk h => by have := (hcols6.lt h).1; omega
                have hb8n := hb6n.eq (hold8 nb hb6n.lt (hnlt nb (by omega)))
                have hb8 := hb6.eq (hold8 pb hb6.lt (hnlt pb (by omega)))
                (conv => whnf); refine fa fl127_0 ?_
                (conv => whnf); refine ld1 (v := cv) ct83 (by rw [hb8.cell]; exact autoL_0) trivial ?_
                (conv => whnf); refine vbuildA ar73 (setV 0) rfl (setL 0) rfl ?_
                (conv => whnf); refine vbuild1 sl83 (setL 0) rfl rfl (by decide) (by decide) ?_
                intro q2 H9 hq2 hs9 hb9 ha9
                have hlt8 := hb8.lt
                have hlt8n := hb8n.lt
                (conv => whnf); refine vappendO (T := tSet) (S := fun _ => False) (ys := [0#256]) (ds := setL 0) (lo := nb + 1) (xs := st.sets) sl83 (hsets8.agr ha9 (fun k hk => by have := (hsets8.lt hk).2; omega) (fun k hk => hk.elim)) (by omega) (fun k hk => hk.elim)
                  (hb9.cells (fun j v hv => by simpa using hv)) (Ty.reps_one rfl) rfl (by intro u hu; simp only [setL, List.mem_cons, List.not_mem_nil, or_false] at hu; rcases hu with rfl | rfl | rfl | rfl <;> rfl)
                  (by have := hok.len; simp only [maxLen, List.length_singleton]; omega) (by have := hok.len; simp only [List.length_singleton]; omega) ?_
                intro v9 H10 hsets10 ha10 hs10 hfresh10
                have hdcv : ∀ k, k ≤ nb → ¬ slB cv k := fun k hk h => by have := (hsets6.lt h).1; omega
                have hb10 := (hb8.agr ha9 (by omega)).agr ha10 ⟨by omega, hdcv pb (by omega)⟩
                (conv => whnf); refine fa fl127_0 ?_
                (conv => whnf); refine st1 ct83 hb10 (by rw [autoL_len hcl]; omega) hsets10.one ?_
                intro H11 hb11 ha11 hs11
                (conv => whnf)
                have hcols8lt : ∀ k, slB v8 k → k < H8.size ∧ nb + 1 ≤ k := fun k hk => ⟨(hcols8.lt hk).2, (hcols8.lt hk).1⟩
                have hdis8 : ∀ k, slB v8 k → ¬ slB cv k := fun k hk hc => by
                  rcases hfresh8 k hk with h | h
                  · exact hdis k (by simpa using h) hc
                  · have := (hsets6.lt hc).2; omega
                have hcols10 := (hcols8.agr ha9 (fun k hk => by have := hcols8lt k hk; omega) (fun k hk => hk.elim)).agr ha10 (fun k hk => ⟨by have := hcols8lt k hk; omega, hdis8 k hk⟩) (fun k hk => hk.elim)
                have hb10n := (hb8n.agr ha9 (by omega)).agr ha10 ⟨by omega, hdcv nb (by omega)⟩
                refine ⟨rfl, (v8, st.cols.length), rfl, ?_, by omega, rfl, ?_, hb10n.agr ha11 (by omega), v9, hsets10.agr ha11 (fun k hk => by have := (hsets10.lt hk).1; omega) (fun k hk => hk.elim), ?_, ?_⟩
                · intro k hk
                  rw [ha11 k hk.2, ha10 k ⟨by omega, hdcv k (by omega)⟩, ha9 k (by omega), hold8 k (by omega) (hnlt k (by omega)), hA6 k hk]
                · have := hcols10.agr ha11 (fun k hk => by have := hcols8lt k hk; omega) (fun k hk => hk.elim)
                  simpa using this
                · intro k hk hk9
                  rcases hfresh10 k hk9 with h | h
                  · exact hdis8 k hk h
                  · have := hcols8lt k hk; omega
                · rw [Nat.add_zero, autoL_set0] at hb11; exact hb11
            · rintro ⟨v7, p⟩ H7 junk4 ⟨hA7, hs7, hp, hcols7, hb7n, cv7, hsets7, hdis7, hb7⟩
              dsimp only at hp hcols7 hdis7
              have hok2 := mNew_ok (next := next) hok.len hok.le hok.cols hfb
              have hmr : mRun next cells sp (b + 1) = mStep next cells st b (sp b) := by rw [← hst]; rfl
              generalize hr : mNew next st.cols st.sets fr = r at *
              obtain ⟨cols', sets', p'⟩ := r
              dsimp only at hp hcols7 hsets7 hok2
              subst hp
              obtain ⟨h21, h22, h23, h24, h25⟩ := hok2
              have hmr2 : mRun next cells sp (b + 1) = ⟨cols', sets'.set p (sets'.getD p 0#256 ||| sp b), st.cell ++ [p]⟩ := by
                rw [hmr]; unfold mStep; rw [hfr, hr]
              obtain ⟨bq, capq, lq, csq, rfl, hloq, hblkq, hlenq, hgetq, hrepsq, hputq⟩ := hsets7.place (i := p) (by omega)
              have hpb7 := hb7.lt
              (conv => whnf); refine fa fl127_1 ?_
              (conv => whnf); refine ixa ar125 (by omega) (by omega) ?_
              rw [w8 (x := (p : Int)) (by omega) (by omega)]
              (conv => whnf); refine st1 ct5 hb7 (by rw [autoL_len hcl]; omega) rfl ?_
              intro H8 hb8 ha8 hs8
              rw [show 0 + 1 + (b : Int).toNat * 1 = 1 + st.cell.length by rw [hok.cell]; omega, autoL_cell (by rw [hok.cell]; omega)] at hb8
              (conv => whnf)
              refine VDraw.held (Old H8) 19 (sq [0,1,2,3,4,5,6,7,8,9,10,11,12,13,14,15] (.f 16 (.f 17 (sq [18] (.f 19 .e))))) rfl (by kernel_rfl) ?_
              (conv => whnf); refine fa fl127_0 ?_
              (conv => whnf); refine ld1 (v := .slice (some ⟨bq, 0, none⟩) sets'.length capq) ct83 (by rw [hb8.cell]; exact autoL_0) (show pb < H8.size by omega) ?_
              (conv => whnf); refine fa fl127_0 ?_
              (conv => whnf); refine ld1 (v := .slice (some ⟨bq, 0, none⟩) sets'.length capq) ct83 (by rw [hb8.cell]; exact autoL_0) (show pb < H8.size by omega) ?_
              (conv => whnf); refine ix sl83 (by omega) (by omega) ?_
              obtain ⟨x0, hx0⟩ := get_some (l := sets') (k := p) (by omega)
              obtain ⟨c0, hc0, rfl⟩ := hgetq x0 hx0
              have hbqb : bq ≠ pb := by omega
              (conv => whnf); refine ldN (cs := setL x0) ag73 (by rw [Nat.zero_add, Int.toNat_natCast]; exact hc0.eq (ha8 bq hbqb)) (show bq < H8.size by have := hblkq.lt; omega) ?_
              (conv => whnf); rw [w8 (x := (b : Int)) (by omega) (by omega)]
              refine pures (span_p b b (by omega) (by omega) H8) ?_
              intro H9 ha9
              refine ⟨ha9, ?_⟩
              (conv => whnf); refine pures (union_c x0 (spanS b b) H9) ?_
              intro H10 ha10
              have hs89 := old_size ha9
              have ha810 : Agr (Old H8) H8 H10 := ha9.trans (ha10.mono fun k hk => by unfold Old at *; omega)
              refine ⟨ha810, ?_⟩
              (conv => whnf); refine ix sl83 (by omega) (by omega) ?_
              have hs810 := old_size ha810
              have hblk10 := (hblkq.agr ha8 hbqb).agr ha810 (show bq < H8.size by have := hblkq.lt; omega)
              (conv => whnf); refine stN rfl hblk10 (by rw [Nat.zero_add, Int.toNat_natCast]; exact hlenq) rfl ?_
              intro H11 hb11 ha11 hs11
              (conv => whnf); rw [w64 (x := (b : Int) + 1) (by omega) (by omega)]
              have hlt7 : ∀ k, slB v7 k → nb + 1 ≤ k ∧ k < H7.size := fun k hk => hcols7.lt hk
              have hcols11 := ((hcols7.agr ha8 (fun k hk => by have := hlt7 k hk; omega) (fun k hk => hk.elim)).agr ha810 (fun k hk => by have := hlt7 k hk; unfold Old; omega) (fun k hk => hk.elim)).agr ha11
                (fun k hk hkb => by subst hkb; exact hdis7 _ hk ⟨0, _, _, rfl⟩) (fun k hk => hk.elim)
              have hb11n := (((hb7n.agr ha8 (show nb ≠ pb by omega)).agr ha810 (show nb < H8.size by have := hb7n.lt; omega)).agr ha11 (show nb ≠ bq by omega))
              have hb11p := (hb8.agr ha810 (show pb < H8.size by omega)).agr ha11 (show pb ≠ bq from Ne.symm hbqb)
              refine ⟨rfl, (b + 1, v7), by simp, ⟨by omega, ?_, by omega, ?_, hb11n, .slice (some ⟨bq, 0, none⟩) sets'.length capq, ?_, hdis7, ?_⟩, by omega⟩
              · intro k hk
                rw [ha11 k (by omega), ha810 k (by unfold Old; omega), ha8 k hk.2, hA7 k hk]
              · rw [hmr2]; exact hcols11
              · rw [hmr2]
                have hg : sets'.getD p 0#256 = x0 := by rw [List.getD_eq_getElem?_getD, hx0]; rfl
                rw [hg, ← hsp]
                rw [Nat.zero_add, Int.toNat_natCast] at hb11
                have := hputq H11 (setL (x0 ||| spanS b b)) (x0 ||| spanS b b) hb11 (fun k hk => hk.elim) rfl
                exact this
              · rw [hmr2]; exact hb11p
        · have hbit : c.getLsbD b = false := cellOf_before (by omega) hcf
          rw [hbit]
          (conv => whnf); rw [w64 (x := (f : Int) + 1) (by omega) (by omega)]
          exact ⟨rfl, f + 1, by simp, ⟨ha35, by omega⟩, by omega⟩
    · have hb' : b = 256 := by omega
      subst hb'
      have hok := mRun_ok (next := next) (sp := sp) hcell 256 (by omega)
      generalize hst : mRun next cells sp 256 = st at *
      have hlec := hok.le
      have hlen := hok.len
      (conv => whnf)
      refine VLoop.mk [95] (fun q : Nat => [.int .i64 q]) (fun q H4 => q ≤ next.length ∧ Agr (fun k => k < H3.size ∧ k ≠ nb) H3 H4 ∧ H3.size ≤ H4.size ∧ ∃ vs : List Value, vs.length = next.length ∧ Blk H4 nb 33 vs ∧
        (∀ i, q ≤ i → i < next.length → vs[i]? = some (.slice none 0 0)) ∧ ∀ i v row, i < q → vs[i]? = some v → next[i]? = some row → SlO tI (fun _ => False) H4 H3.size 3 v (rowOf st.cols row)) (fun q _ => next.length - q) ?_ ?_
      · (conv => whnf)
        refine ⟨0, rfl, by omega, Agr.refl _ _, Nat.le_refl _, _, by simp, hb3n, fun i _ hi => by simp [hi], fun i v row hi => by omega⟩
      · rintro q H4 junk2 ⟨hq, ha4, hs4, vs, hvl, hb4n, hnil, hdone⟩
        have hnb3 := hb3n.lt
        have hpb3 := hb3.lt
        have hA4 : Agr (fun k => k < H.size ∧ k ≠ pb) H H4 := hA3.trans (ha4.mono fun k hk => by omega)
        (conv => whnf); refine VIte.mk (fun h => ?_) (fun h => ?_) <;> simp only [decide_eq_true_eq, decide_eq_false_iff_not] at h
        · obtain ⟨row, hrow⟩ := get_some (l := next) (k := q) (by omega)
          obtain ⟨hrl, hrq⟩ := hrows row (List.mem_of_getElem? hrow)
          have hn4 := hn.frame (hA4.mono fun k hk => hS k hk)
          (conv => whnf); refine ixr sl23 hn4 hrow rfl ?_
          rintro b2 o2 cs2 hSb2 hcells2 ⟨ra, rc, rfl, hr⟩
          (conv => whnf); refine ld1 ct33 hcells2.one trivial ?_
          (conv => whnf); rw [List.length_map]
          refine VLoop.mk [102] (fun j : Nat => [.int .i64 j]) (fun j H5 => j ≤ st.cols.length ∧ Agr (fun k => k < H4.size ∧ k ≠ nb) H4 H5 ∧ H4.size ≤ H5.size ∧ ∃ vcur, Blk H5 nb 33 (vs.set q vcur) ∧
            SlO tI (fun _ => False) H5 H4.size 3 vcur (rowOf (st.cols.take j) row)) (fun j _ => st.cols.length - j) ?_ ?_
          · (conv => whnf)
            refine ⟨0, rfl, by omega, Agr.refl _ _, Nat.le_refl _, .slice none 0 0, ?_, SlO.nil⟩
            have : vs.set q (.slice none 0 0) = vs := by
              have h1 := hnil q (Nat.le_refl _) (by omega)
              rw [List.getElem?_eq_some_iff] at h1
              obtain ⟨h2, h3⟩ := h1
              rw [← h3]; exact List.set_getElem_self h2
            rw [this]; exact hb4n
          · rintro j H5 junk3 ⟨hj, ha5, hs5, vcur, hb5n, hcur⟩
            have hA35 : Agr (fun k => k < H3.size ∧ k ≠ nb) H3 H5 := ha4.trans (ha5.mono fun k hk => by omega)
            have hb5 := hb3.agr hA35 ⟨hpb3, by omega⟩
            have hcols5 := hcols.agr hA35 (fun k hk => by have := hcols.lt hk; omega) (fun k hk => hk.elim)
            obtain ⟨av5, capv5, he5, hview, hblk⟩ := hcols5.view (S' := fun k => k < H3.size) (fun k hk => (hcols.lt hk).2) (fun k hk => hk.elim)
            cases he5
            (conv => whnf); refine VIte.mk (fun h => ?_) (fun h => ?_) <;> simp only [decide_eq_true_eq, decide_eq_false_iff_not] at h
            · obtain ⟨c0, hc0⟩ := get_some (l := st.cols) (k := j) (by omega)
              have hc0m := hok.cols c0 (List.mem_of_getElem? hc0)
              (conv => whnf); refine ixrn (x := (c0 : Int)) sl33 hview (by simp) (by simp [hc0]) rfl ?_
              rintro b3 o3 cs3 hSb3 hcells3 ⟨rfl, -⟩
              (conv => whnf); refine ld1 ct3 hcells3.one trivial ?_
              obtain ⟨acu, capcu, rfl, -, -⟩ := hcur.view (S' := fun k => slB vcur k) (fun k hk => hk) (fun k hk => hk.elim)
              (conv => whnf)
              refine VDraw.held (fun k => k < H4.size) 19 (sq [0,1,2,3,4,5,6,7,8,9,10,11,12,13,14,15] (.f 16 (.f 17 (sq [18] (.f 19 .e))))) rfl (by kernel_rfl) ?_
              have hb5nq : cell H5 nb (0 + (q : Int).toNat * 1) = some (.slice acu (rowOf (st.cols.take j) row).length capcu) := by
                rw [hb5n.cell, show 0 + (q : Int).toNat * 1 = q by omega, List.getElem?_set_self (by omega)]
              have hr5 := hr.frame (ha5.mono fun k hk => by have := hS k hk; omega)
              have hv257 : cell H5 pb (0 + 257) = some (.slice (some ⟨nb, 0, none⟩) next.length next.length) := by
                rw [hb5.cell, Nat.zero_add]; exact autoL_257 (by rw [hok.cell]; omega)
              (conv => whnf); refine fa fl127_2 ?_
              (conv => whnf); refine ld1 ct23 hv257 (show pb < H4.size by omega) ?_
              (conv => whnf); refine fa fl127_2 ?_
              (conv => whnf); refine ld1 ct23 hv257 (show pb < H4.size by omega) ?_
              (conv => whnf); refine ix sl23 (by omega) (by omega) ?_
              (conv => whnf); refine ld1 ct33 hb5nq (show nb < H4.size by omega) ?_
              obtain ⟨x0, hx0⟩ := get_some (l := row) (k := c0) (by omega)
              (conv => whnf); refine ixr sl33 hr5 hx0 rfl ?_
              rintro b4 o4 cs4 hSb4 hcells4 ⟨rfl, hx0k⟩
              (conv => whnf); refine ld1 ct3 hcells4.one (show b4 < H4.size by have := hS b4 hSb4; omega) ?_
              (conv => whnf); refine vbuild1 sl33 [.int .i64 x0] rfl rfl (by decide) (by decide) ?_
              intro q6 H6 hq6 hs6 hb6 ha6
              refine ⟨ha6.mono fun k hk => by omega, ?_⟩
              have hcur6 := hcur.agr ha6 (fun k hk => by have := (hcur.lt hk).2; omega) (fun k hk => hk.elim)
              have hrl2 : (rowOf (st.cols.take j) row).length ≤ 256 := by simp [rowOf]; omega
              (conv => whnf); refine vappendO (T := tI) (S := fun _ => False) (ys := [x0]) (ds := [.int .i64 x0]) (lo := H4.size) (xs := rowOf (st.cols.take j) row) sl33 hcur6 (by omega) (fun k hk => hk.elim)
                  (hb6.cells (fun j v hv => by simpa using hv)) (Ty.reps_one ⟨rfl, hx0k⟩) rfl (by intro u hu; cases List.mem_singleton.1 hu; rfl) (by simp only [maxLen, List.length_singleton]; omega) (by simp only [List.length_singleton]; omega) ?_
              intro v7 H7 hcur7 ha7 hs7 hfresh7
              refine ⟨fun k hk => ?_, ?_⟩
              · rw [ha7 k ⟨by omega, fun h => by have := (hcur.lt h).1; omega⟩, ha6 k (by omega)]
              have hb7n := (hb5n.agr ha6 (by omega)).agr ha7 ⟨by omega, fun h => by have := (hcur.lt h).1; omega⟩
              (conv => whnf); refine ix sl23 (by omega) (by omega) ?_
              (conv => whnf); refine st1 ct33 hb7n (by simp; omega) hcur7.one ?_
              intro H8 hb8 ha8 hs8
              (conv => whnf); rw [w64 (x := (j : Int) + 1) (by omega) (by omega)]
              refine ⟨rfl, j + 1, by simp, ⟨by omega, ?_, by omega, v7, ?_, ?_⟩, by omega⟩
              · intro k hk
                rw [ha8 k hk.2, ha7 k ⟨by omega, fun h => by have := (hcur.lt h).1; omega⟩, ha6 k (by omega), ha5 k hk]
              · rw [show 0 + (q : Int).toNat * 1 = q by omega, List.set_set] at hb8
                exact hb8
              · have := hcur7.agr ha8 (fun k hk => by have := (hcur7.lt hk).1; omega) (fun k hk => hk.elim)
                have e1 : rowOf (st.cols.take (j + 1)) row = rowOf (st.cols.take j) row ++ [x0] := by
                  unfold rowOf
                  rw [take_succ_snoc hc0, List.map_append]
                  simp [hx0]
                rw [e1]; exact this
            · have hj' : j = st.cols.length := by omega
              subst hj'
              rw [List.take_length] at hcur
              (conv => whnf); rw [w64 (x := (q : Int) + 1) (by omega) (by omega)]
              refine ⟨rfl, q + 1, by simp, ⟨by omega, hA35, by omega, vs.set q vcur, by simp [hvl], hb5n, ?_, ?_⟩, by omega⟩
              · intro i h1 h2
                rw [List.getElem?_set_ne (by omega)]
                exact hnil i (by omega) h2
              · intro i v row' hi hv hrow'
                by_cases hiq : i = q
                · subst hiq
                  rw [List.getElem?_set_self (by omega)] at hv
                  rw [hrow] at hrow'
                  cases hv; cases hrow'
                  exact hcur.lower (by omega)
                · rw [List.getElem?_set_ne (by omega)] at hv
                  have hd := hdone i v row' (by omega) hv hrow'
                  exact hd.agr ha5 (fun k hk => by have := hd.lt hk; omega) (fun k hk => hk.elim)
        · have hq' : q = next.length := by omega
          subst hq'
          (conv => whnf)
          have hs23 : H2.size ≤ H3.size := hs3
          obtain ⟨ac9, capc9, he9, hview9, -⟩ := (hsets.agr ha4 (fun k hk => by have := hsets.lt hk; omega) (fun k hk => hk.elim)).view (S' := fun k => H.size ≤ k ∧ k < H4.size)
            (fun k hk => by have := hsets.lt hk; omega) (fun k hk => hk.elim)
          subst he9
          refine ⟨hA4, by omega, ac9, capc9, some ⟨nb, 0, none⟩, next.length, hb3.agr ha4 ⟨hpb3, by omega⟩, hview9, SlD.intro (show H.size ≤ nb ∧ nb < H4.size by omega) (by simp) (by simp [maxLen]; omega) (hb4n.cells (cs := vs) (fun j v hv => by simpa using hv)) ?_⟩
          refine reps_of_ones (by simp [hvl]) fun i v x hv hx => ?_
          rw [List.getElem?_map] at hx
          obtain ⟨row, hrow, rfl⟩ := Option.map_eq_some_iff.1 hx
          have hd := hdone i v row (List.getElem?_eq_some_iff.1 hrow).1 hv hrow
          obtain ⟨a0, cap0, rfl, hv0, -⟩ := hd.view (S' := fun k => H.size ≤ k ∧ k < H4.size) (fun k hk => by have := hd.lt hk; omega) (fun k hk => hk.elim)
          exact ⟨a0, cap0, rfl, hv0⟩

end Go.Proofs.YthomdogheamfpaaDoor
/- What wake makes: the states from which a final one can be reached. -/
set_option linter.unusedVariables false
set_option linter.unusedSimpArgs false
set_option maxRecDepth 100000
namespace Go.Proofs.YthomdogheamfpaaDoor
open Go.VC

inductive LiveT (rows : List (List Int)) (fin : List Bool) : Nat → Prop
  | fin {q : Nat} : fin[q]? = some true → LiveT rows fin q
  | step {q t : Nat} {row : List Int} : rows[q]? = some row → (t : Int) ∈ row → LiveT rows fin t → LiveT rows fin q

/-- The predecessors that have been noted: of all rows before q, of row q before j. -/
def Noted (rows : List (List Int)) (q j t : Nat) (p : Int) : Prop := ∃ (q' : Nat) (row : List Int), p = (q' : Int) ∧ rows[q']? = some row ∧ (q' < q ∧ (t : Int) ∈ row ∨ q' = q ∧ (t : Int) ∈ row.take j)
def nF (al : List Bool) : Nat := al.count false
theorem nF_set {al : List Bool} {p : Nat} (h : al[p]? = some false) : nF (al.set p true) + 1 = nF al := by
  unfold nF
  induction al generalizing p with
  | nil => simp at h
  | cons a al ih =>
    cases p with
    | zero => simp at h; subst h; simp [List.count_cons]
    | succ p => simp at h; simp only [List.set_cons_succ, List.count_cons]; have := ih h; omega

/-- What the search keeps: al: marked; td: to be looked at; ex: the one that is being looked at, and how far. -/
structure WI (rows : List (List Int)) (final : List Bool) (bk : List (List Int)) (al : List Bool) (td : List Int) (ex : Option (Nat × Nat)) : Prop where
  len : al.length = rows.length
  sound : ∀ q : Nat, al[q]? = some true → LiveT rows final q
  fin : ∀ q : Nat, final[q]? = some true → al[q]? = some true
  tdok : ∀ x ∈ td, ∃ q : Nat, x = (q : Int) ∧ al[q]? = some true
  cnt : td.length + nF al ≤ rows.length
  closed : ∀ (q : Nat) (x : List Int), al[q]? = some true → bk[q]? = some x → (q : Int) ∈ td ∨ (∀ p ∈ x, al[p.toNat]? = some true) ∨ ∃ j, ex = some (q, j) ∧ ∀ p ∈ x.take j, al[p.toNat]? = some true
def BkOk (rows : List (List Int)) (bk : List (List Int)) : Prop := bk.length = rows.length ∧ ∀ (t : Nat) (x : List Int), bk[t]? = some x → ∀ p, p ∈ x ↔ ∃ (q' : Nat) (row : List Int), p = (q' : Int) ∧ rows[q']? = some row ∧ (t : Int) ∈ row
section
variable {rows : List (List Int)} {final : List Bool} {bk : List (List Int)} {al : List Bool} {td : List Int}
theorem WI.pop {q : Nat} (h : WI rows final bk al (td ++ [(q : Int)]) none) : WI rows final bk al td (some (q, 0)) := by
  refine ⟨h.len, h.sound, h.fin, fun x hx => h.tdok x (List.mem_append_left _ hx), by have := h.cnt; simp at this; omega, fun q' x hq' hx => ?_⟩
  rcases h.closed q' x hq' hx with h1 | h1 | ⟨j, h1, _⟩
  · rcases List.mem_append.1 h1 with h1 | h1
    · exact .inl h1
    · rw [List.mem_singleton] at h1
      have : q' = q := by omega
      subst this
      exact .inr (.inr ⟨0, rfl, by simp⟩)
  · exact .inr (.inl h1)
  · cases h1
theorem WI.skip {q j pn : Nat} {x : List Int} (h : WI rows final bk al td (some (q, j))) (hx : bk[q]? = some x) (hj : x[j]? = some (pn : Int)) (hp : al[pn]? = some true) : WI rows final bk al td (some (q, j + 1)) := by
  refine ⟨h.len, h.sound, h.fin, h.tdok, h.cnt, fun q' x' hq' hx' => ?_⟩
  rcases h.closed q' x' hq' hx' with h1 | h1 | ⟨j', h1, h2⟩
  · exact .inl h1
  · exact .inr (.inl h1)
  · cases h1
    rw [hx] at hx'; cases hx'
    refine .inr (.inr ⟨j + 1, rfl, fun p hp' => ?_⟩)
    rw [take_succ_snoc hj, List.mem_append, List.mem_singleton] at hp'
    rcases hp' with hp' | rfl
    · exact h2 p hp'
    · simpa using hp
theorem WI.mark {q j pn : Nat} {x : List Int} (hbk : BkOk rows bk) (h : WI rows final bk al td (some (q, j))) (hq : al[q]? = some true) (hx : bk[q]? = some x) (hj : x[j]? = some (pn : Int)) (hp : al[pn]? = some false) :
    WI rows final bk (al.set pn true) (td ++ [(pn : Int)]) (some (q, j + 1)) := by
  have hlt : pn < al.length := (List.getElem?_eq_some_iff.1 hp).1
  have keep : ∀ i, al[i]? = some true → (al.set pn true)[i]? = some true := fun i hi => by
    by_cases h1 : pn = i
    · subst h1; rw [List.getElem?_set_self hlt]
    · rw [List.getElem?_set_ne h1]; exact hi
  have live : LiveT rows final pn := by
    obtain ⟨q', row, h1, h2, h3⟩ := (hbk.2 q x hx (pn : Int)).1 (List.mem_of_getElem? hj)
    have : pn = q' := by omega
    subst this
    exact .step h2 h3 (h.sound q hq)
  refine ⟨by simp [h.len], fun i hi => ?_, fun i hi => keep i (h.fin i hi), fun y hy => ?_, ?_, fun q' x' hq' hx' => ?_⟩
  · by_cases h1 : pn = i
    · subst h1; exact live
    · rw [List.getElem?_set_ne h1] at hi; exact h.sound i hi
  · rcases List.mem_append.1 hy with hy | hy
    · obtain ⟨i, h1, h2⟩ := h.tdok y hy
      exact ⟨i, h1, keep i h2⟩
    · rw [List.mem_singleton] at hy
      exact ⟨pn, hy, by rw [List.getElem?_set_self hlt]⟩
  · have h1 := nF_set hp
    have h2 := h.cnt
    simp only [List.length_append, List.length_singleton]; omega
  · by_cases h1 : pn = q'
    · subst h1
      exact .inl (List.mem_append_right _ (List.mem_singleton.2 rfl))
    · rw [List.getElem?_set_ne h1] at hq'
      rcases h.closed q' x' hq' hx' with h2 | h2 | ⟨j', h2, h3⟩
      · exact .inl (List.mem_append_left _ h2)
      · exact .inr (.inl fun p hp' => keep _ (h2 p hp'))
      · cases h2
        rw [hx] at hx'; cases hx'
        refine .inr (.inr ⟨j + 1, rfl, fun p hp' => ?_⟩)
        rw [take_succ_snoc hj, List.mem_append, List.mem_singleton] at hp'
        rcases hp' with hp' | rfl
        · exact keep _ (h3 p hp')
        · rw [Int.toNat_natCast, List.getElem?_set_self hlt]
theorem WI.done {q : Nat} {x : List Int} (h : WI rows final bk al td (some (q, x.length))) (hx : bk[q]? = some x) : WI rows final bk al td none := by
  refine ⟨h.len, h.sound, h.fin, h.tdok, h.cnt, fun q' x' hq' hx' => ?_⟩
  rcases h.closed q' x' hq' hx' with h1 | h1 | ⟨j', h1, h2⟩
  · exact .inl h1
  · exact .inr (.inl h1)
  · cases h1
    rw [hx] at hx'; cases hx'
    rw [List.take_length] at h2
    exact .inr (.inl h2)
theorem WI.finish (hbk : BkOk rows bk) (hr : ∀ row ∈ rows, ∀ t ∈ row, 0 ≤ t ∧ t < (rows.length : Int)) (h : WI rows final bk al [] none) (q : Nat) : al[q]? = some true ↔ LiveT rows final q := by
  refine ⟨h.sound q, fun hl => ?_⟩
  induction hl with
  | fin hf => exact h.fin _ hf
  | @step q t row h1 h2 _ ih =>
    have ht := hr row (List.mem_of_getElem? h1) _ h2
    obtain ⟨x, hx⟩ := get_some (l := bk) (k := t) (by rw [hbk.1]; omega)
    have hm : (q : Int) ∈ x := (hbk.2 t x hx (q : Int)).2 ⟨q, row, rfl, h1, h2⟩
    rcases h.closed t x ih hx with h3 | h3 | ⟨_, h3, _⟩
    · cases h3
    · simpa using h3 _ hm
    · cases h3
end

set_option maxHeartbeats 4000000 in
theorem wake_c (pb : Nat) (cv av : Value) (cell : List Nat) (an af : Option Addr) (capn capf : Nat) (rows : List (List Int)) (final : List Bool) (S : Nat → Prop) (H : Heap) (hS : ∀ k, S k → k < H.size ∧ k ≠ pb)
    (hb : Blk H pb 127 (autoL cv cell (.slice an rows.length capn) (.slice af final.length capf) av)) (hcl : cell.length ≤ 256) (hn : SlD tRows S H an capn rows) (hf : SlD tBool S H af capf final)
    (hr1 : rows.length ≤ 65536) (hfl : final.length = rows.length) (hrows : ∀ row ∈ rows, row.length ≤ 256 ∧ ∀ t ∈ row, 0 ≤ t ∧ t < (rows.length : Int)) :
    FnOk Tryd.prog 93 #[.pointer (some ⟨pb, 0, none⟩)] H fun v H' => Agr (fun k => k < H.size ∧ k ≠ pb) H H' ∧ H.size ≤ H'.size ∧
      ∃ (al : List Bool) (aa : Option Addr) (capa : Nat), al.length = rows.length ∧ (∀ q, q < rows.length → (al[q]? = some true ↔ LiveT rows final q)) ∧
        Blk H' pb 127 (autoL cv cell (.slice an rows.length capn) (.slice af final.length capf) (.slice aa al.length capa)) ∧ SlD tBool (fun k => H.size ≤ k ∧ k < H'.size) H' aa capa al := by
  have hpb := hb.lt
  refine FnOk.of_vc Tryd.func93 rfl (Tryd.call93 _) ?_
  (conv => whnf); refine fa fl127_2 ?_
  (conv => whnf); refine ld1 ct23 (by rw [hb.cell, Nat.zero_add]; exact autoL_257 hcl) trivial ?_
  (conv => whnf); refine vmake1 sl23 rfl (by omega) (by omega) (by omega) (by omega) ?_
  intro nb H1 hnb hs1 hb1n ha1
  rw [Int.toNat_natCast] at hb1n
  have hb1 := hb.agr ha1 (show pb < nb by omega)
  (conv => whnf); refine fa fl127_2 ?_
  (conv => whnf); refine ld1 ct23 (by rw [hb1.cell, Nat.zero_add]; exact autoL_257 hcl) trivial ?_
  (conv => whnf)
  refine VLoop.mk [24] (fun q : Nat => [.int .i64 q]) (fun q H2 => q ≤ rows.length ∧ Agr (fun k => k < H1.size ∧ k ≠ nb) H1 H2 ∧ H1.size ≤ H2.size ∧ ∃ vs bk, Tab tI (fun _ => False) H2 (nb + 1) 3 nb 33 vs bk ∧ bk.length = rows.length ∧
    (∀ (t : Nat) (x : List Int), bk[t]? = some x → x.length ≤ q * 256 ∧ ∀ p, p ∈ x ↔ Noted rows q 0 t p)) (fun q _ => rows.length - q) ?_ ?_
  · (conv => whnf)
    refine ⟨0, rfl, by omega, Agr.refl _ _, Nat.le_refl _, _, _, Tab.new hb1n (by omega), by simp, fun t x hx => ?_⟩
    rw [List.getElem?_replicate] at hx
    split at hx
    · cases hx
      refine ⟨by simp, fun p => ⟨(fun h => by cases h), ?_⟩⟩
      rintro ⟨q', row, _, _, ⟨h, _⟩ | ⟨_, h⟩⟩
      · omega
      · simp at h
    · cases hx
  · rintro q H2 junk ⟨hq, ha2, hs2, vs, bk, htab, hbkl, hbk⟩
    have hA2 : Agr (fun k => k < H.size ∧ k ≠ pb) H H2 := (ha1.mono fun k hk => by omega).trans (ha2.mono fun k hk => by omega)
    have hb2 := hb1.agr ha2 ⟨by omega, by omega⟩
    (conv => whnf); refine VIte.mk (fun h => ?_) (fun h => ?_) <;> simp only [decide_eq_true_eq, decide_eq_false_iff_not] at h
    · obtain ⟨row, hrow⟩ := get_some (l := rows) (k := q) (by omega)
      obtain ⟨hrl, hrt⟩ := hrows row (List.mem_of_getElem? hrow)
      (conv => whnf); refine ixr sl23 (hn.frame (hA2.mono fun k hk => hS k hk)) hrow rfl ?_
      rintro b2 o2 cs2 hSb2 hcells2 ⟨ra, rc, rfl, hr⟩
      (conv => whnf); refine ld1 ct33 hcells2.one trivial ?_
      (conv => whnf)
      refine VLoop.mk [31] (fun j : Nat => [.int .i64 j]) (fun j H3 => j ≤ row.length ∧ Agr (fun k => k < H1.size ∧ k ≠ nb) H2 H3 ∧ H1.size ≤ H3.size ∧ ∃ vs bk, Tab tI (fun _ => False) H3 (nb + 1) 3 nb 33 vs bk ∧ bk.length = rows.length ∧
        (∀ (t : Nat) (x : List Int), bk[t]? = some x → x.length ≤ q * 256 + j ∧ ∀ p, p ∈ x ↔ Noted rows q j t p)) (fun j _ => row.length - j) ?_ ?_
      · (conv => whnf); exact ⟨0, rfl, by omega, Agr.refl _ _, hs2, vs, bk, htab, hbkl, hbk⟩
      · clear htab hbkl hbk vs bk
        rintro j H3 junk2 ⟨hj, ha3, hs3, vs, bk, htab, hbkl, hbk⟩
        have hr3 := hr.frame (ha3.mono fun k hk => by have := hS k hk; omega)
        (conv => whnf); refine VIte.mk (fun h => ?_) (fun h => ?_) <;> simp only [decide_eq_true_eq, decide_eq_false_iff_not] at h
        · obtain ⟨ti, hti⟩ := get_some (l := row) (k := j) (by omega)
          obtain ⟨ht0, ht1⟩ := hrt ti (List.mem_of_getElem? hti)
          obtain ⟨t, rfl⟩ := Int.eq_ofNat_of_zero_le ht0
          (conv => whnf); refine ixr sl33 hr3 hti rfl ?_
          rintro b3 o3 cs3 hSb3 hcells3 ⟨rfl, htk⟩
          (conv => whnf); refine ld1 ct3 hcells3.one trivial ?_
          obtain ⟨v, x, hv, hx, hsl⟩ := htab.get (i := t) (by omega)
          obtain ⟨hxl, hxm⟩ := hbk t x hx
          obtain ⟨av3, capv3, rfl, -, -⟩ := hsl.view (S' := fun k => slB v k) (fun k hk => hk) (fun k hk => hk.elim)
          have htlt : t < vs.length := (List.getElem?_eq_some_iff.1 hv).1
          (conv => whnf); refine ix sl23 (by omega) (by omega) ?_
          (conv => whnf); refine ld1 ct33 (by rw [htab.blk.cell, show 0 + (t : Int).toNat * 1 = t by omega]; exact hv) trivial ?_
          (conv => whnf); refine vbuild1 sl33 [.int .i64 (q : Int)] rfl rfl (by decide) (by decide) ?_
          intro q4 H4 hq4 hs4 hb4 ha4
          have hnb3 := htab.blk.lt
          have htab4 := htab.agr ha4 (by omega) (fun b _ hb => by omega) (fun k hk => hk.elim)
          (conv => whnf); refine vappendO (T := tI) (S := fun _ => False) (ys := [(q : Int)]) (ds := [.int .i64 (q : Int)]) (lo := nb + 1) (xs := x) sl33 (htab4.own t _ x hv hx) (by omega) (fun k hk => hk.elim)
            (hb4.cells (fun j v hv => by simpa using hv)) (Ty.reps_one ⟨rfl, inI64 (by omega)⟩) rfl (by intro u hu; cases List.mem_singleton.1 hu; rfl) (by simp only [maxLen, List.length_singleton]; omega) (by simp only [List.length_singleton]; omega) ?_
          intro v5 H5 hown5 ha5 hs5 hfresh5
          have hb5n := htab4.blk.agr ha5 ⟨by omega, fun hk => by have := ((htab4.own t _ x hv hx).lt hk).1; omega⟩
          (conv => whnf); refine ix sl23 (by omega) (by omega) ?_
          (conv => whnf); refine st1 ct33 hb5n (by omega) hown5.one ?_
          intro H6 hb6 ha6 hs6
          rw [show 0 + (t : Int).toNat * 1 = t by omega] at hb6
          (conv => whnf); rw [w64 (x := (j : Int) + 1) (by omega) (by omega)]
          refine ⟨rfl, j + 1, by simp, ⟨by omega, ?_, by omega, _, _, htab4.push hv hown5 ha5 hfresh5 hb6 ha6 (fun k hk => hk.elim), by simp [hbkl], ?_⟩, by omega⟩
          · intro k hk
            rw [ha6 k hk.2, ha5 k ⟨by omega, fun hb => by have := ((htab4.own t _ x hv hx).lt hb).1; omega⟩, ha4 k (by omega), ha3 k hk]
          · intro t' x' hx'
            have hmem : ∀ p, Noted rows q (j + 1) t' p ↔ Noted rows q j t' p ∨ (t' = t ∧ p = (q : Int)) := by
              intro p
              unfold Noted
              constructor
              · rintro ⟨q', row', h1, h2, ⟨h3, h4⟩ | ⟨h3, h4⟩⟩
                · exact .inl ⟨q', row', h1, h2, .inl ⟨h3, h4⟩⟩
                · subst h3
                  rw [hrow] at h2; cases h2
                  rw [take_succ_snoc hti, List.mem_append, List.mem_singleton] at h4
                  rcases h4 with h4 | h4
                  · exact .inl ⟨_, _, h1, hrow, .inr ⟨rfl, h4⟩⟩
                  · exact .inr ⟨by omega, h1⟩
              · rintro (⟨q', row', h1, h2, ⟨h3, h4⟩ | ⟨h3, h4⟩⟩ | ⟨rfl, rfl⟩)
                · exact ⟨q', row', h1, h2, .inl ⟨h3, h4⟩⟩
                · subst h3
                  rw [hrow] at h2; cases h2
                  exact ⟨_, _, h1, hrow, .inr ⟨rfl, by rw [take_succ_snoc hti, List.mem_append]; exact .inl h4⟩⟩
                · exact ⟨q, row, rfl, hrow, .inr ⟨rfl, by rw [take_succ_snoc hti, List.mem_append]; exact .inr (List.mem_singleton.2 rfl)⟩⟩
            by_cases htt : t' = t
            · subst htt
              rw [List.getElem?_set_self (by omega)] at hx'
              cases hx'
              refine ⟨by simp only [List.length_append, List.length_singleton]; omega, fun p => ?_⟩
              rw [hmem p, List.mem_append, hxm p, List.mem_singleton]
              simp
            · rw [List.getElem?_set_ne (Ne.symm htt)] at hx'
              obtain ⟨h1, h2⟩ := hbk t' x' hx'
              refine ⟨by omega, fun p => ?_⟩
              rw [hmem p, h2 p]
              simp [htt]
        · have hj' : j = row.length := by omega
          subst hj'
          (conv => whnf); rw [w64 (x := (q : Int) + 1) (by omega) (by omega)]
          refine ⟨rfl, q + 1, by simp, ⟨by omega, ha2.trans ha3, by omega, vs, bk, htab, hbkl, fun t x hx => ?_⟩, by omega⟩
          obtain ⟨g1, g2⟩ := hbk t x hx
          refine ⟨by rw [Nat.succ_mul]; omega, fun p => ?_⟩
          rw [g2 p]
          unfold Noted
          constructor
          · rintro ⟨q', row', h1, h2, ⟨h3, h4⟩ | ⟨h3, h4⟩⟩
            · exact ⟨q', row', h1, h2, .inl ⟨by omega, h4⟩⟩
            · exact ⟨q', row', h1, h2, .inl ⟨by omega, List.mem_of_mem_take h4⟩⟩
          · rintro ⟨q', row', h1, h2, ⟨h3, h4⟩ | ⟨h3, h4⟩⟩
            · by_cases hqq : q' = q
              · rw [hqq, hrow] at h2; cases h2
                exact ⟨q', _, h1, by rw [hqq]; exact hrow, .inr ⟨hqq, by rw [List.take_length]; exact h4⟩⟩
              · exact ⟨q', row', h1, h2, .inl ⟨by omega, h4⟩⟩
            · simp at h4
    · have hq' : q = rows.length := by omega
      subst hq'
      have hbko : BkOk rows bk := ⟨hbkl, fun t x hx p => by
        rw [(hbk t x hx).2 p]
        unfold Noted
        constructor
        · rintro ⟨q', row, h1, h2, ⟨h3, h4⟩ | ⟨_, h4⟩⟩
          · exact ⟨q', row, h1, h2, h4⟩
          · simp at h4
        · rintro ⟨q', row, h1, h2, h4⟩
          exact ⟨q', row, h1, h2, .inl ⟨(List.getElem?_eq_some_iff.1 h2).1, h4⟩⟩⟩
      have hnb2 := htab.blk.lt
      have hback := htab.view (S' := fun k => nb ≤ k ∧ k < H2.size) hbkl.symm (by simp [maxLen]; omega) (fun k h1 h2 => ⟨h1, h2⟩) (fun k hk => hk.elim)
      clear hbk
      (conv => whnf); refine fa fl127_2 ?_
      (conv => whnf); refine ld1 ct23 (by rw [hb2.cell, Nat.zero_add]; exact autoL_257 hcl) trivial ?_
      (conv => whnf); refine vmake1 sl24 rfl (by omega) (by omega) (by omega) (by omega) ?_
      intro ab H3 hab hs3 hb3a ha3
      rw [Int.toNat_natCast] at hb3a
      have hb3 := hb2.agr ha3 (show pb < ab by omega)
      (conv => whnf); refine fa fl127_4 ?_
      (conv => whnf); refine st1 ct24 hb3 (by rw [autoL_len hcl]; omega) rfl ?_
      intro H4 hb4 ha4 hs4
      rw [Nat.zero_add, autoL_set259 hcl] at hb4
      replace hb3a := hb3a.agr ha4 (show ab ≠ pb by omega)
      have hA24 : Agr (fun k => k < H2.size ∧ k ≠ pb) H2 H4 := (ha3.mono fun k hk => by omega).trans (ha4.mono fun k hk => hk.2)
      (conv => whnf); refine fa fl127_3 ?_
      (conv => whnf); refine ld1 ct24 (by rw [hb4.cell, Nat.zero_add]; exact autoL_258 hcl) trivial ?_
      (conv => whnf)
      refine VLoop.mk [7, 61] (fun x : Nat × Value => [x.2, .int .i64 x.1]) (fun x H5 => x.1 ≤ rows.length ∧ Agr (fun k => k < H2.size ∧ k ≠ pb) H2 H5 ∧ H4.size ≤ H5.size ∧
        Blk H5 pb 127 (autoL cv cell (.slice an rows.length capn) (.slice af final.length capf) (.slice (some ⟨ab, 0, none⟩) (rows.length : Int).toNat (rows.length : Int).toNat)) ∧
        ∃ al td, al.length = rows.length ∧ Blk H5 ab 4 (al.map .bool) ∧ SlO tI (fun _ => False) H5 (ab + 1) 3 x.2 td ∧
          (∀ q, al[q]? = some true ↔ q < x.1 ∧ final[q]? = some true) ∧ (∀ q : Nat, al[q]? = some true → (q : Int) ∈ td) ∧ (∀ y ∈ td, ∃ q : Nat, y = (q : Int) ∧ al[q]? = some true) ∧ td.length + nF al = rows.length) (fun x _ => rows.length - x.1) ?_ ?_
      · (conv => whnf)
        refine ⟨(0, _), rfl, by omega, hA24, Nat.le_refl _, hb4, List.replicate rows.length false, [], by simp, by simpa using hb3a, SlO.nil, fun q => ⟨fun h => ?_, fun h => by omega⟩, fun q h => ?_, (fun y hy => by cases hy), by simp [nF, List.count_replicate]⟩
        · rw [List.getElem?_replicate] at h; split at h <;> simp at h
        · rw [List.getElem?_replicate] at h; split at h <;> simp at h
      · rintro ⟨i, v7⟩ H5 junk2 ⟨hi, hA5, hs5, hb5, al, td, hall, hb5a, htd, hal1, hal2, hal3, hal4⟩
        dsimp only at hi htd hal1
        (conv => whnf); refine VIte.mk (fun h => ?_) (fun h => ?_) <;> simp only [decide_eq_true_eq, decide_eq_false_iff_not] at h
        · have hA25 := hA2.trans (hA5.mono fun k hk => by omega)
          obtain ⟨f, hfi⟩ := get_some (l := final) (k := i) (by omega)
          (conv => whnf); refine VSeq.run ?_
          (conv => whnf); refine ixr sl24 (hf.frame (hA25.mono fun k hk => hS k hk)) hfi rfl ?_
          rintro b3 o3 cs3 hSb3 hcells3 rfl
          (conv => whnf); refine ld1 ct4 hcells3.one trivial ?_
          (conv => whnf); refine VIte.mk (fun h2 => ?_) (fun h2 => ?_)
          · subst h2
            have hfal : al[i]? = some false := by
              cases hx : al[i]? with
              | none => rw [List.getElem?_eq_none_iff] at hx; omega
              | some b =>
                cases b with
                | false => rfl
                | true => have := ((hal1 i).1 hx).1; omega
            (conv => whnf); refine fa fl127_4 ?_
            (conv => whnf); refine ld1 ct24 (by rw [hb5.cell, Nat.zero_add]; exact autoL_259 hcl) trivial ?_
            (conv => whnf); refine ix sl24 (by omega) (by omega) ?_
            (conv => whnf); refine st1 ct4 hb5a (by simp; omega) rfl ?_
            intro H6 hb6a ha6 hs6
            rw [show 0 + (i : Int).toNat * 1 = i by omega] at hb6a
            (conv => whnf); refine vbuild1 sl33 [.int .i64 (i : Int)] rfl rfl (by decide) (by decide) ?_
            intro q7 H7 hq7 hs7 hb7 ha7
            have hl5 := hb5.lt
            have hl5a := hb5a.lt
            have htd7 : SlO tI (fun _ => False) H7 (ab + 1) 3 v7 td := (htd.agr ha6 (fun b hb => by have := htd.lt hb; omega) (fun k hk => hk.elim)).agr ha7 (fun b hb => by have := htd.lt hb; omega) (fun k hk => hk.elim)
            have hnf := nF_set hfal
            (conv => whnf); refine vappendO (T := tI) (S := fun _ => False) (ys := [(i : Int)]) (ds := [.int .i64 (i : Int)]) (lo := ab + 1) (xs := td) sl33 htd7 (by omega) (fun k hk => hk.elim)
              (hb7.cells (fun j v hv => by simpa using hv)) (Ty.reps_one ⟨rfl, inI64 (by omega)⟩) rfl (by intro u hu; cases List.mem_singleton.1 hu; rfl) (by simp only [maxLen, List.length_singleton]; omega) (by simp only [List.length_singleton]; omega) ?_
            intro v8 H8 hown8 ha8 hs8 hfresh8
            (conv => whnf); rw [w64 (x := (i : Int) + 1) (by omega) (by omega)]
            have hsb : ∀ k, slB v7 k → ab + 1 ≤ k := fun k hk => (htd.lt hk).1
            refine ⟨rfl, (i + 1, v8), rfl, ⟨by dsimp only; omega, ?_, by omega, ?_, al.set i true, td ++ [(i : Int)], by simp [hall], ?_, hown8, fun q => ?_, fun q hq => ?_, fun y hy => ?_, ?_⟩, by dsimp only; omega⟩
            · intro k hk
              rw [ha8 k ⟨by omega, fun hb => by have := hsb k hb; omega⟩, ha7 k (by omega), ha6 k (by omega), hA5 k hk]
            · exact ((hb5.agr ha6 (by omega)).agr ha7 (by omega)).agr ha8 ⟨by omega, fun hb => by have := hsb _ hb; omega⟩
            · rw [List.map_set]
              exact (hb6a.agr ha7 (by omega)).agr ha8 ⟨by omega, fun hb => by have := hsb _ hb; omega⟩
            · dsimp only
              by_cases hqi : i = q
              · subst hqi
                rw [List.getElem?_set_self (by omega)]
                exact ⟨fun _ => ⟨by omega, hfi⟩, fun _ => rfl⟩
              · rw [List.getElem?_set_ne hqi, hal1 q]
                constructor
                · rintro ⟨h1, h2⟩; exact ⟨by omega, h2⟩
                · rintro ⟨h1, h2⟩; exact ⟨by omega, h2⟩
            · by_cases hqi : i = q
              · subst hqi; exact List.mem_append_right _ (List.mem_singleton.2 rfl)
              · rw [List.getElem?_set_ne hqi] at hq
                exact List.mem_append_left _ (hal2 q hq)
            · rcases List.mem_append.1 hy with hy | hy
              · obtain ⟨q, h1, h2⟩ := hal3 y hy
                refine ⟨q, h1, ?_⟩
                by_cases hqi : i = q
                · subst hqi; rw [List.getElem?_set_self (by omega)]
                · rw [List.getElem?_set_ne hqi]; exact h2
              · rw [List.mem_singleton] at hy
                exact ⟨i, hy, by rw [List.getElem?_set_self (by omega)]⟩
            · simp only [List.length_append, List.length_singleton]; omega
          · subst h2
            (conv => whnf); rw [w64 (x := (i : Int) + 1) (by omega) (by omega)]
            refine ⟨rfl, (i + 1, v7), rfl, ⟨by dsimp only; omega, hA5, hs5, hb5, al, td, hall, hb5a, htd, fun q => ?_, hal2, hal3, hal4⟩, by dsimp only; omega⟩
            rw [hal1 q]
            dsimp only
            constructor
            · rintro ⟨h1, h2⟩; exact ⟨by omega, h2⟩
            · rintro ⟨h1, h2⟩
              refine ⟨?_, h2⟩
              by_cases hqi : q = i
              · subst hqi; rw [hfi] at h2; cases h2
              · omega
        · have hi' : i = rows.length := by omega
          subst hi'
          have hwi : WI rows final bk al td none := by
            refine ⟨hall, fun q hq => .fin ((hal1 q).1 hq).2, fun q hq => (hal1 q).2 ⟨?_, hq⟩, hal3, by omega, fun q x hq hx => .inl (hal2 q hq)⟩
            rw [← hfl]; exact (List.getElem?_eq_some_iff.1 hq).1
          clear hal1 hal2 hal3 hal4
          (conv => whnf)
          refine VLoop.mk [7] (fun x : Value × List Bool × List Int => [x.1]) (fun x H6 => Agr (fun k => k < H2.size ∧ k ≠ pb) H2 H6 ∧ H5.size ≤ H6.size ∧
            Blk H6 pb 127 (autoL cv cell (.slice an rows.length capn) (.slice af final.length capf) (.slice (some ⟨ab, 0, none⟩) (rows.length : Int).toNat (rows.length : Int).toNat)) ∧
            Blk H6 ab 4 (x.2.1.map .bool) ∧ SlO tI (fun _ => False) H6 (ab + 1) 3 x.1 x.2.2 ∧ WI rows final bk x.2.1 x.2.2 none) (fun x _ => 2 * nF x.2.1 + x.2.2.length) ?_ ?_
          · (conv => whnf)
            exact ⟨(v7, al, td), rfl, hA5, Nat.le_refl _, hb5, hb5a, htd, hwi⟩
          · clear htd hwi hb5a hb5 hA5 hall
            rintro ⟨v7, al, td⟩ H6 junk3 ⟨hA6, hs6, hb6, hb6a, htd, hwi⟩
            dsimp only at htd hb6a hwi
            obtain ⟨at7, cap7, rfl, hv7, hsb7⟩ := htd.view (S' := fun k => ab + 1 ≤ k ∧ k < H6.size) (fun k hk => htd.lt hk) (fun k hk => hk.elim)
            (conv => whnf); refine VIte.mk (fun h => ?_) (fun h => ?_) <;> simp only [decide_eq_true_eq, decide_eq_false_iff_not] at h
            · obtain ⟨td0, y, rfl⟩ : ∃ td0 y, td = td0 ++ [y] := ⟨td.dropLast, td.getLast (by intro h2; subst h2; simp at h), (List.dropLast_concat_getLast _).symm⟩
              obtain ⟨q, rfl, hqt⟩ := hwi.tdok y (by simp)
              have hql : q < rows.length := by have := (List.getElem?_eq_some_iff.1 hqt).1; have := hwi.len; omega
              have htl : (td0 ++ [(q : Int)]).length = td0.length + 1 := by simp
              have hcnt := hwi.cnt
              (conv => whnf); refine ixr (i := td0.length) (x := (q : Int)) sl33 hv7 (by simp) (by rw [w64 (by omega) (by omega)]; omega) ?_
              rintro b3 o3 cs3 hSb3 hcells3 ⟨rfl, -⟩
              (conv => whnf); refine ld1 ct3 hcells3.one trivial ?_
              (conv => whnf); rw [w64 (x := ((td0 ++ [(q : Int)]).length : Int) - 1) (by omega) (by omega)]
              refine vcutH sl33 (by omega) (by have := hv7.le; omega) ?_
              rw [show (((td0 ++ [(q : Int)]).length : Int) - 1).toNat = td0.length by omega]
              have htd0 := htd.pop
              clear htd hv7
              obtain ⟨xb, hxb⟩ := get_some (l := bk) (k := q) (by omega)
              have hback6 := hback.frame (hA6.mono fun k hk => by omega)
              (conv => whnf); refine ixrn sl23 hback6 (by omega) hxb rfl ?_
              rintro b4 o4 cs4 hSb4 hcells4 ⟨xa, xc, rfl, hxa⟩
              (conv => whnf); refine ld1 ct33 hcells4.one trivial ?_
              (conv => whnf)
              refine VLoop.mk [7, 97] (fun x : Nat × Value × List Bool × List Int => [x.2.1, .int .i64 x.1]) (fun x H7 => x.1 ≤ xb.length ∧ Agr (fun k => k < H2.size ∧ k ≠ pb) H6 H7 ∧ H6.size ≤ H7.size ∧
                Blk H7 pb 127 (autoL cv cell (.slice an rows.length capn) (.slice af final.length capf) (.slice (some ⟨ab, 0, none⟩) (rows.length : Int).toNat (rows.length : Int).toNat)) ∧
                Blk H7 ab 4 (x.2.2.1.map .bool) ∧ SlO tI (fun _ => False) H7 (ab + 1) 3 x.2.1 x.2.2.2 ∧ WI rows final bk x.2.2.1 x.2.2.2 (some (q, x.1)) ∧ x.2.2.1[q]? = some true ∧ 2 * nF x.2.2.1 + x.2.2.2.length ≤ 2 * nF al + td0.length)
                (fun x _ => xb.length - x.1) ?_ ?_
              · (conv => whnf)
                exact ⟨(0, _, al, td0), rfl, by dsimp only; omega, Agr.refl _ _, Nat.le_refl _, hb6, hb6a, htd0, hwi.pop, hqt, Nat.le_refl _⟩
              · clear hb6 hb6a htd0
                rintro ⟨j, v7, al2, td⟩ H7 junk4 ⟨hj, hA7, hs7, hb7, hb7a, htd, hwi2, hqt2, hmeas⟩
                dsimp only at hj htd hb7a hwi2 hqt2 hmeas
                (conv => whnf); refine VIte.mk (fun h2 => ?_) (fun h2 => ?_) <;> simp only [decide_eq_true_eq, decide_eq_false_iff_not] at h2
                · obtain ⟨p, hpj⟩ := get_some (l := xb) (k := j) (by omega)
                  obtain ⟨pn, prow, rfl, hprow, -⟩ := (hbko.2 q xb hxb p).1 (List.mem_of_getElem? hpj)
                  have hpl : pn < rows.length := (List.getElem?_eq_some_iff.1 hprow).1
                  have hall := hwi2.len
                  have hcnt2 := hwi2.cnt
                  obtain ⟨f, hpf⟩ := get_some (l := al2) (k := pn) (by omega)
                  have hl7 := hb7.lt
                  have hl7a := hb7a.lt
                  (conv => whnf); refine VSeq.run ?_
                  (conv => whnf); refine ixr sl33 (hxa.frame (hA7.mono fun k hk => by omega)) hpj rfl ?_
                  rintro b5 o5 cs5 hSb5 hcells5 ⟨rfl, -⟩
                  (conv => whnf); refine ld1 ct3 hcells5.one trivial ?_
                  (conv => whnf); refine fa fl127_4 ?_
                  (conv => whnf); refine ld1 ct24 (by rw [hb7.cell, Nat.zero_add]; exact autoL_259 hcl) trivial ?_
                  (conv => whnf); refine ix sl24 (by omega) (by omega) ?_
                  (conv => whnf); refine ld1 (v := .bool f) ct4 (by rw [hb7a.cell, show 0 + (pn : Int).toNat * 1 = pn by omega, List.getElem?_map, hpf]; rfl) trivial ?_
                  (conv => whnf); refine VIte.mk (fun h3 => ?_) (fun h3 => ?_)
                  · obtain rfl : f = false := by simpa using h3
                    have hnf := nF_set hpf
                    (conv => whnf); refine fa fl127_4 ?_
                    (conv => whnf); refine ld1 ct24 (by rw [hb7.cell, Nat.zero_add]; exact autoL_259 hcl) trivial ?_
                    (conv => whnf); refine ix sl24 (by omega) (by omega) ?_
                    (conv => whnf); refine st1 ct4 hb7a (by simp; omega) rfl ?_
                    intro H8 hb8a ha8 hs8
                    rw [show 0 + (pn : Int).toNat * 1 = pn by omega] at hb8a
                    (conv => whnf); refine vbuild1 sl33 [.int .i64 (pn : Int)] rfl rfl (by decide) (by decide) ?_
                    intro q9 H9 hq9 hs9 hb9 ha9
                    have htd9 : SlO tI (fun _ => False) H9 (ab + 1) 3 v7 td := (htd.agr ha8 (fun b hb => by have := htd.lt hb; omega) (fun k hk => hk.elim)).agr ha9 (fun b hb => by have := htd.lt hb; omega) (fun k hk => hk.elim)
                    (conv => whnf); refine vappendO (T := tI) (S := fun _ => False) (ys := [(pn : Int)]) (ds := [.int .i64 (pn : Int)]) (lo := ab + 1) (xs := td) sl33 htd9 (by omega) (fun k hk => hk.elim)
                      (hb9.cells (fun j v hv => by simpa using hv)) (Ty.reps_one ⟨rfl, inI64 (by omega)⟩) rfl (by intro u hu; cases List.mem_singleton.1 hu; rfl) (by simp only [maxLen, List.length_singleton]; omega) (by simp only [List.length_singleton]; omega) ?_
                    intro v10 H10 hown10 ha10 hs10 hfresh10
                    (conv => whnf); rw [w64 (x := (j : Int) + 1) (by have := hxa.le; simp only [maxLen] at this; omega) (by have := hxa.le; simp only [maxLen] at this; omega)]
                    have hsb : ∀ k, slB v7 k → ab + 1 ≤ k := fun k hk => (htd.lt hk).1
                    refine ⟨rfl, (j + 1, v10, al2.set pn true, td ++ [(pn : Int)]), rfl, ⟨by dsimp only; omega, ?_, by omega, ?_, ?_, hown10, hwi2.mark hbko hqt2 hxb hpj hpf, ?_, ?_⟩, by dsimp only; omega⟩
                    · intro k hk
                      rw [ha10 k ⟨by omega, fun hb => by have := hsb k hb; omega⟩, ha9 k (by omega), ha8 k (by omega), hA7 k hk]
                    · exact ((hb7.agr ha8 (by omega)).agr ha9 (by omega)).agr ha10 ⟨by omega, fun hb => by have := hsb _ hb; omega⟩
                    · dsimp only
                      rw [List.map_set]
                      exact (hb8a.agr ha9 (by omega)).agr ha10 ⟨by omega, fun hb => by have := hsb _ hb; omega⟩
                    · dsimp only
                      by_cases hpq : pn = q
                      · subst hpq; rw [List.getElem?_set_self (by omega)]
                      · rw [List.getElem?_set_ne hpq]; exact hqt2
                    · simp only [List.length_append, List.length_singleton]; omega
                  · obtain rfl : f = true := by simpa using h3
                    (conv => whnf); rw [w64 (x := (j : Int) + 1) (by have := hxa.le; simp only [maxLen] at this; omega) (by have := hxa.le; simp only [maxLen] at this; omega)]
                    exact ⟨rfl, (j + 1, v7, al2, td), rfl, ⟨by dsimp only; omega, hA7, hs7, hb7, hb7a, htd, hwi2.skip hxb hpj hpf, hqt2, hmeas⟩, by dsimp only; omega⟩
                · have hj' : j = xb.length := by omega
                  subst hj'
                  (conv => whnf)
                  exact ⟨rfl, (v7, al2, td), rfl, ⟨hA6.trans hA7, by omega, hb7, hb7a, htd, hwi2.done hxb⟩, by dsimp only; omega⟩
            · have htd0 : td = [] := List.eq_nil_of_length_eq_zero (by omega)
              subst htd0
              (conv => whnf)
              have hall := hwi.len
              have hl6 := hb6.lt
              refine ⟨hA2.trans (hA6.mono fun k hk => by omega), by omega, al, some ⟨ab, 0, none⟩, rows.length, hall, fun q _ => hwi.finish hbko (fun row hrow => (hrows row hrow).2) q, ?_, ?_⟩
              · rw [hall]; exact hb6
              · have hl6a := hb6a.lt
                refine SlD.intro (show H.size ≤ ab ∧ ab < H6.size by omega) (by omega) (by simp only [maxLen]; omega) (hb6a.cells (cs := al.map .bool) (fun j v hv => by rw [Nat.zero_add]; exact hv)) (reps_of_ones (by simp) fun i v x hv hx => ?_)
                rw [List.getElem?_map, hx] at hv
                cases hv; rfl

end Go.Proofs.YthomdogheamfpaaDoor
