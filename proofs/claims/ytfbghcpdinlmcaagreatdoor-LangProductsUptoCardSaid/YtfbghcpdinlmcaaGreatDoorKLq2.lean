/- Parts of the proof: VMore, VMapX, VBook, VFacts, PClass, PNfa1, PSetD, VSplit, VMapI, PNfa2, VHeldG, PSort, VRange, VPush, PKeyS, MDfa, PNfa3, PNfa4, PAppI, PDet1, PDet2, PDTb, PDBk -/
import Derived.Test.YtfbghcpdinlmcaaGreatDoorKLq1
import Derived.MapKept
import Derived.Laws.BytesArg
import Derived.Laws.Cover1
import Derived.DeepKeys3
import Derived.Maps.RangeRun
import Derived.Test.YtfbghcpdinlmcaaGreatDoorProg
import Derived.Sort.OwnSortedInts
import Derived.Shelf.Sort.Plain
import Derived.Shelf.Slices.In.SortNone
import Derived.TacticsIn
import Derived.RangeFuncRecord
import Derived.Shelf.Strconv.AppendIntPublic10
/- Maps of the call's own: what they hold; looking up, laying, striking. -/
set_option linter.unusedVariables false
set_option linter.unusedSimpArgs false
namespace Go.VC

structure MapT (P : Program) (t kt et : TypeId) (d : TypeDesc) (z : Value) : Prop where
  under : P.underlying t = some (.map kt et)
  key : P.underlying kt = some d
  zero : (P.info? et).bind (·.zero) = some z
structure KeyE (d : TypeDesc) {α : Type} (enc : α → Value) : Prop where
  isKey : ∀ a, Go.MapKept.IsKey d (enc a)
  inj : ∀ a b, enc a = enc b → a = b
theorem keyS : KeyE .string Value.string := ⟨fun _ => trivial, fun a b h => by cases h; rfl⟩
theorem keyI (k : IntKind) : KeyE (.int k) (Value.int k) := ⟨fun _ => rfl, fun a b h => by cases h; rfl⟩

/-- The map in block b holds m. -/
def MapF {α : Type} (enc : α → Value) (H : Heap) (b : Nat) (m : α → Option Value) : Prop :=
  ∃ es clock, H[b]? = some (.map es clock) ∧ Go.MapKept.Stamped es clock ∧ (∀ (i : Nat) (x : MapEntry), es[i]? = some x → ∃ a, x.key = enc a ∧ m a = some x.val) ∧
    ∀ a v, m a = some v → ∃ (i : Nat) (x : MapEntry), es[i]? = some x ∧ x.key = enc a ∧ x.val = v
theorem MapF.agr {α : Type} {enc : α → Value} {H H' : Heap} {b : Nat} {m : α → Option Value} {S : Nat → Prop} (h : MapF enc H b m) (k : Agr S H H') (hb : S b) : MapF enc H' b m := by
  obtain ⟨es, clock, h1, h2⟩ := h
  exact ⟨es, clock, (k b hb).trans h1, h2⟩
/-- The stamp of a's entry. -/
def StampF {α : Type} (enc : α → Value) (H : Heap) (b : Nat) (a : α) (s : Nat) : Prop :=
  ∃ es clock, H[b]? = some (.map es clock) ∧ ∀ (i : Nat) (x : MapEntry), es[i]? = some x → (x.born = s ↔ x.key = enc a)
open Classical in
noncomputable def put {α : Type} (m : α → Option Value) (a : α) (v : Option Value) : α → Option Value := fun b => if b = a then v else m b
theorem put_self {α : Type} (m : α → Option Value) (a : α) (v : Option Value) : put m a v a = v := if_pos rfl
theorem put_ne {α : Type} {m : α → Option Value} {a b : α} {v : Option Value} (h : b ≠ a) : put m a v b = m b := if_neg h

section
variable {α : Type} {enc : α → Value} {P : Program} {t kt et : TypeId} {d : TypeDesc} {z : Value} {S : Nat → Prop} {H : Heap} {b : Nat} {m : α → Option Value} {a : α}
theorem stamped_key {es : Array MapEntry} {clock : Nat} (h : Go.MapKept.Stamped es clock) {i j : Nat} {x y : MapEntry} (hx : es[i]? = some x) (hy : es[j]? = some y) (e : x.key = y.key) : i = j := by
  have hn := h.2.2
  have hx' : (es.toList.map (·.key))[i]? = some x.key := by simp [hx]
  have hy' : (es.toList.map (·.key))[j]? = some x.key := by simp [hy, e]
  exact (List.getElem?_inj (List.getElem?_eq_some_iff.1 hx').1 hn).1 (hx'.trans hy'.symm)
theorem stamped_born {es : Array MapEntry} {clock : Nat} (h : Go.MapKept.Stamped es clock) {i j : Nat} {x y : MapEntry} (hx : es[i]? = some x) (hy : es[j]? = some y) (e : x.born = y.born) : i = j := by
  have hn := h.2.1
  have hx' : (es.toList.map (·.born))[i]? = some x.born := by simp [hx]
  have hy' : (es.toList.map (·.born))[j]? = some x.born := by simp [hy, e]
  exact (List.getElem?_inj (List.getElem?_eq_some_iff.1 hx').1 hn).1 (hx'.trans hy'.symm)
theorem zero_run (hz : (P.info? et).bind (·.zero) = some z) (w : World) : (zeroValue et).run P w = .ok z w := by
  cases hi : P.info? et with
  | none => rw [hi] at hz; cases hz
  | some i =>
    have hz' : i.zero = some z := by simpa [hi] using hz
    simp [zeroValue, typeInfo, hi, hz']
abbrev setW (w : World) (b : Nat) (o : Obj) : World := { w with heap := w.heap.setIfInBounds b o }
theorem set_turn {w : World} {o o' : Obj} (h : w.heap[b]? = some o) : (setW w b o').heap[b]? = some o' ∧ Agr (fun k => k ≠ b) w.heap (setW w b o').heap ∧ (setW w b o').heap.size = w.heap.size :=
  ⟨(Go.MapKept.heap_set h).1, fun k hk => (Go.MapKept.heap_set h).2 k hk, by simp⟩
theorem push_new {es : Array MapEntry} {clock : Nat} (hs : Go.MapKept.Stamped es clock) (h3 : ∀ (i : Nat) (x : MapEntry), es[i]? = some x → ∃ a, x.key = enc a ∧ m a = some x.val) (h4 : ∀ a v, m a = some v → ∃ (i : Nat) (x : MapEntry), es[i]? = some x ∧ x.key = enc a ∧ x.val = v) (hne : ∀ x ∈ es.toList, x.key ≠ enc a) {H' : Heap} {v : Value}
    (hb : H'[b]? = some (.map (es.push ⟨enc a, v, clock⟩) (clock + 1))) : MapF enc H' b (put m a (some v)) ∧ StampF enc H' b a clock := by
  have hgt : ∀ i x, (es.push ⟨enc a, v, clock⟩)[i]? = some x → (i < es.size ∧ es[i]? = some x) ∨ (i = es.size ∧ x = ⟨enc a, v, clock⟩) := by
    intro i x hx
    rw [Array.getElem?_push] at hx
    by_cases hi : i = es.size
    · rw [if_pos hi] at hx; exact .inr ⟨hi, by cases hx; rfl⟩
    · rw [if_neg hi] at hx; exact .inl ⟨(Array.getElem?_eq_some_iff.1 hx).1, hx⟩
  refine ⟨⟨_, _, hb, Go.MapKept.stamped_push hs hne, fun i x hx => ?_, fun a' v' hv => ?_⟩, _, _, hb, fun i x hx => ?_⟩
  · rcases hgt i x hx with ⟨_, hx⟩ | ⟨_, rfl⟩
    · obtain ⟨a', e1, e2⟩ := h3 i x hx
      have : a' ≠ a := fun h => hne x (List.mem_of_getElem? (by simpa using hx)) (by rw [e1, h])
      exact ⟨a', e1, by rw [put_ne this]; exact e2⟩
    · exact ⟨a, rfl, put_self _ _ _⟩
  · by_cases ha : a' = a
    · subst ha
      rw [put_self] at hv
      cases hv
      exact ⟨es.size, ⟨enc a', v, clock⟩, by simp, rfl, rfl⟩
    · rw [put_ne ha] at hv
      obtain ⟨i, x, hx, e⟩ := h4 a' v' hv
      exact ⟨i, x, by rw [Array.getElem?_push, if_neg (by have := (Array.getElem?_eq_some_iff.1 hx).1; omega)]; exact hx, e⟩
  · rcases hgt i x hx with ⟨_, hx⟩ | ⟨_, rfl⟩
    · have hmem : x ∈ es.toList := List.mem_of_getElem? (by simpa using hx)
      have := hs.1 x hmem
      exact ⟨fun h => by omega, fun h => absurd h (hne x hmem)⟩
    · simp
theorem mmake {K : Value → Heap → Prop} (k : ∀ b H', b = H.size → H'.size = b + 1 → MapF enc H' b (fun _ => none) → Agr (fun k => k < b) H H' → K (.map (some b)) H') : VEff P (Instr.makeMap t none) H K := by
  refine VEff.mk fun w hw => ?_
  subst hw
  exact ⟨_, w.alloc (.map #[] 0), by simp [Instr.makeMap], ⟨rfl, rfl, rfl⟩, k w.heap.size _ rfl (by rw [alloc_heap]; simp) ⟨#[], 0, by rw [alloc_heap]; simp, Go.MapKept.stamped_empty 0, by simp, by simp⟩ (heap_push_old _ _)⟩
end

end Go.VC

/- Maps of the call's own as pieces. -/
set_option linter.unusedVariables false
set_option linter.unusedSimpArgs false
namespace Go.VC
section
variable {α : Type} {enc : α → Value} {b : Nat} {m m' : α → Option Value} {B : Nat → Prop} {H0 H H' : Heap} {ps : List Pc}
end
end Go.VC

/- Maps of slices of the call's own; cutting a slice's head off. -/
set_option linter.unusedVariables false
set_option linter.unusedSimpArgs false
namespace Go.VC
/-- What the map holds at a, nil where it holds nothing. -/
def slAt {α : Type} (m : α → Option Value) (a : α) : Value := (m a).getD (.slice none 0 0)
structure Qs {α β : Type} (enc : α → Value) (T : Ty β) (H : Heap) (lo : Nat) (e : TypeId) (mb : Nat) (m : α → Option Value) (xs : α → List β) : Prop where
  map : MapF enc H mb m
  lt : mb < lo
  own : ∀ k, SlO T (fun _ => False) H lo e (slAt m k) (xs k)
  apart : ∀ k k' b, k ≠ k' → slB (slAt m k) b → ¬ slB (slAt m k') b
section
variable {α β : Type} {enc : α → Value} {T : Ty β} {H H1 H2 : Heap} {lo mb : Nat} {e : TypeId} {m : α → Option Value} {xs : α → List β} {S' : Nat → Prop}
end

theorem text_beq (a b : ByteArray) : (a.toList == b.toList) = decide (a.data.toList = b.data.toList) := by
  rw [ByteArray.toList_eq, ByteArray.toList_eq]
  by_cases h : a.data.toList = b.data.toList
  · rw [decide_eq_true h, h]; simp
  · rw [decide_eq_false h]
    exact Bool.eq_false_iff.2 fun hh => h (by simpa using hh)
theorem text_inj {a b : ByteArray} (h : a.data.toList = b.data.toList) : a = b := by
  cases a; cases b; simp_all [Array.toList_inj]
theorem text_eq (a b : ByteArray) : (a.toList == b.toList) = true ↔ a = b := by
  rw [text_beq, decide_eq_true_eq]
  exact ⟨text_inj, fun h => by rw [h]⟩
end Go.VC

/- Slices of the call's own whose head is cut off and that are appended to: queues; bytes put together as texts. -/
set_option linter.unusedVariables false
set_option linter.unusedSimpArgs false
namespace Go.VC

section
variable {α : Type} {T : Ty α} {S S' : Nat → Prop} {H H' : Heap} {e : TypeId} {v : Value} {xs : List α}
end

/-! ### as pieces -/
section
variable {α : Type} {T : Ty α} {e : TypeId} {a : Option Addr} {n cap : Nat} {xs : List α} {B : Nat → Prop} {H0 H H' : Heap} {ps : List Pc}
end

/-! ### bytes and texts -/
theorem vb2s {P : Program} {s d e b o n cap : Nat} {H : Heap} {K : Value → Heap → Prop} (bs : List Nat) (hs : P.underlying s = some (.slice e)) (he : P.underlying e = some (.int .u8)) (hd : P.underlying d = some .string)
    (hc : ∀ (j x : Nat), bs[j]? = some x → cell H b (o + j) = some (.int .u8 (x : Int))) (hn : n = bs.length) (k : K (.string ⟨(bs.map UInt8.ofNat).toArray⟩) H) : VEff P (convert s d (.slice (some ⟨b, o, none⟩) n cap)) H K := by
  subst hn
  refine VEff.mk fun w hw => ?_
  subst hw
  have := run_convert_bytes_arg (P := P) w s e hs he b o bs.length cap (bs.map fun (n : Nat) => (n : Int)) (by simp) (fun i hi => by
    rw [cell_w, hc i bs[i] (List.getElem?_eq_getElem hi)]
    simp [List.getD, hi]) d hd
  have e1 : strOfNums (bs.map fun (n : Nat) => (n : Int)) = ⟨(bs.map UInt8.ofNat).toArray⟩ := by
    unfold strOfNums
    rw [List.map_map]
    congr 2
  rw [e1] at this
  exact ⟨_, w, this, Env.refl w, k⟩
theorem vb2s0 {P : Program} {s d e n cap : Nat} {H : Heap} {K : Value → Heap → Prop} (hs : P.underlying s = some (.slice e)) (he : P.underlying e = some (.int .u8)) (hd : P.underlying d = some .string)
    (k : K (.string ⟨#[]⟩) H) : VEff P (convert s d (.slice none n cap)) H K := by
  refine VEff.mk fun w hw => ?_
  subst hw
  exact ⟨_, w, run_convert_bytes_nil (P := P) w s e hs he n cap d hd, Env.refl w, k⟩
end Go.VC

/- Regions whose order is open, once more: the last operations may change what the quiet ones have read. -/
set_option linter.unusedVariables false
set_option linter.unusedSimpArgs false
namespace Go.VC

/-- Operation j waits for i, if only by way of others. -/
def needsB (ops : Array Oper) : Nat → Nat → Nat → Bool
  | 0, _, _ => false
  | f + 1, j, i => match ops[j]? with
    | none => false
    | some o => o.after.toList.any fun e => Region.binds .any e && (Nat.beq e.on i || needsB ops f e.on i)
/-- What is listed has all that it waits for listed. -/
def Shut (ops : Array Oper) (listed : Array Bool) : Prop :=
  ∀ (j : Nat) (o : Oper), ops[j]? = some o → listed.getD j false = true → ∀ e ∈ o.after, Region.binds .any e = true → listed.getD e.on false = true
theorem Shut.chain {ops : Array Oper} {listed : Array Bool} (h : Shut ops listed) {i : Nat} : ∀ (f j : Nat), needsB ops f j i = true → (∀ (o : Oper), ops[j]? = some o → ∀ e ∈ o.after, Region.binds .any e = true → listed.getD e.on false = true) → listed.getD i false = true
  | 0, _, hn, _ => by simp [needsB] at hn
  | f + 1, j, hn, hd => by
    unfold needsB at hn
    split at hn
    · cases hn
    · rename_i o ho
      obtain ⟨e, he, hb⟩ := List.any_eq_true.1 hn
      simp only [Bool.and_eq_true, Bool.or_eq_true] at hb
      have hl := hd o ho e (by simpa using he) hb.1
      rcases hb.2 with h1 | h1
      · rw [← Nat.eq_of_beq_eq_true h1]; exact hl
      · exact h.chain f e.on h1 fun o' ho' e' he' hb' => h e.on o' ho' hl e' he' hb'
theorem Shut.not_ready {ops : Array Oper} {listed : Array Bool} (h : Shut ops listed) {i j f : Nat} (hn : needsB ops f j i = true) (hi : listed.getD i false = false) : j ∉ Region.ready .any ops listed := by
  intro hj
  obtain ⟨_, o, ho, hall⟩ := mem_ready.1 hj
  have := h.chain f j hn fun o' ho' e he hb => by rw [ho] at ho'; cases ho'; exact hall e he hb
  rw [hi] at this; cases this
theorem getD_put {l : Array Bool} {i k : Nat} (h : (l.setIfInBounds i true).getD k false = true) : k = i ∨ l.getD k false = true := by
  by_cases hk : k = i
  · exact .inl hk
  · rw [getD_set_ne false (Ne.symm hk)] at h; exact .inr h
theorem Shut.put {ops : Array Oper} {listed : Array Bool} (h : Shut ops listed) {j : Nat} (hj : j ∈ Region.ready .any ops listed) : Shut ops (listed.setIfInBounds j true) := by
  intro k o ho hk e he hb
  rcases getD_put hk with rfl | hk
  · obtain ⟨_, o', ho', hall⟩ := mem_ready.1 hj
    rw [ho] at ho'; cases ho'
    exact getD_set_true (hall e he hb)
  · exact getD_set_true (h k o ho hk e he hb)

/-- Whatever order is picked from here on, and S holds behind every operation but those of Z. -/
def wpAnyZ (P : Program) (ops : Array Oper) (Q : Exit → Act → World → Prop) (S : World → Prop) (Z : List Nat) : Nat → Array Bool → Act → World → Prop
  | 0, listed, a, w => Region.ready .any ops listed = [] ∧ Q .normal a w
  | fuel + 1, listed, a, w =>
    (Region.ready .any ops listed = [] → Q .normal a w) ∧
    ∀ i ∈ Region.ready .any ops listed, wpOp P ops Q i (fun a' w' => (Z.contains i = false → S w') ∧ wpAnyZ P ops Q S Z fuel (listed.setIfInBounds i true) a' w') a w
theorem wpAny_of_Z {P : Program} {ops : Array Oper} {Q : Exit → Act → World → Prop} {S : World → Prop} {Z : List Nat} : ∀ (fuel : Nat) (listed : Array Bool) (a : Act) (w : World),
    wpAnyZ P ops Q S Z fuel listed a w → wpAny P .any ops Q fuel listed a w
  | 0, _, _, _, h => h
  | fuel + 1, _, _, _, h => ⟨h.1, fun i hi => wpOp_mono (fun a' w' h' => wpAny_of_Z fuel _ a' w' h'.2) (h.2 i hi)⟩
theorem wpAnyZ_first {P : Program} {ops : Array Oper} {Q : Exit → Act → World → Prop} {S : World → Prop} {Z : List Nat} {i f : Nat} {oi : Oper} {v : Value} (hi : ops[i]? = some oi)
    (hsel : ∀ (j : Nat) (o : Oper) cs b, ops[j]? = some o → o.op ≠ .select cs b)
    (hQ : ∀ c a w, Q (.panic c) (a.put oi.dst v) w → Q (.panic c) a w) (hiz : Z.contains i = false) (hz : ∀ j, Z.contains j = true → needsB ops f j i = true) :
    ∀ (fuel : Nat) (listed : Array Bool) (a : Act) (w : World), Shut ops listed →
      (∀ j oj, ops[j]? = some oj → j ≠ i → listed.getD j true = false → (∀ e ∈ oj.after, Region.binds .any e = true → e.on ≠ i) → oi.apart ops oj = true) →
      i ∈ Region.ready .any ops listed → YieldsIf P ops S oi v a → S w →
      wpAnyZ P ops Q S Z fuel (listed.setIfInBounds i true) (a.put oi.dst v) w → wpAnyZ P ops Q S Z (fuel + 1) listed a w := by
  intro fuel
  induction fuel with
  | zero =>
    intro listed a w _ _ hr hy hS H
    refine ⟨fun h => (by rw [h] at hr; cases hr), fun j hj => ?_⟩
    by_cases hji : j = i
    · subst hji; exact hy.wpOp hi hS ⟨fun _ => hS, H⟩
    · have := ready_mono hj hji
      rw [H.1] at this
      cases this
  | succ fuel ih =>
    intro listed a w hsh hfree hr hy hS H
    refine ⟨fun h => (by rw [h] at hr; cases hr), fun j hj => ?_⟩
    by_cases hji : j = i
    · subst hji; exact hy.wpOp hi hS ⟨fun _ => hS, H⟩
    · have h1 := H.2 j (ready_mono hj hji)
      obtain ⟨hjun, oj, hoj, hall⟩ := mem_ready.1 hj
      have hun : listed.getD i false = false := by
        have h0 := (mem_ready.1 hr).1
        rcases Nat.lt_or_ge i listed.size with h' | h'
        · simp [h'] at h0 ⊢; exact h0
        · simp [Array.getElem?_eq_none h'] at h0
      have hnot : ∀ e ∈ oj.after, Region.binds .any e = true → e.on ≠ i := fun e he hb heq => by
        have h1 := hall e he hb
        rw [heq, hun] at h1; cases h1
      have hjz : Z.contains j = false := by
        cases hc : Z.contains j with
        | false => rfl
        | true => exact absurd hj (hsh.not_ready (hz j hc) hun)
      have h2 := wpOp_putIf hoj (hfree j oj hoj hji hjun hnot) (fun cs b => hsel i oi cs b hi) (fun cs b => hsel j oj cs b hoj) hQ hy h1
      have hfree' : ∀ k ok, ops[k]? = some ok → k ≠ i → (listed.setIfInBounds j true).getD k true = false →
          (∀ e ∈ ok.after, Region.binds .any e = true → e.on ≠ i) → oi.apart ops ok = true := fun k ok hk hki hun hno => by
        refine hfree k ok hk hki ?_ hno
        by_cases hjk : j = k
        · subst hjk; exact hjun
        · rw [getD_set_ne true hjk] at hun; exact hun
      refine wpOp_mono (fun a' w' h3 => ⟨fun _ => h3.2.1 hjz, ih (listed.setIfInBounds j true) a' w' (hsh.put hj) hfree' (ready_mono hr (Ne.symm hji)) h3.1 (h3.2.1 hjz) ?_⟩) h2
      rw [Array.setIfInBounds_comm _ _ hji]
      exact h3.2.2

/-- One operation of the order, carried out here. -/
def stepZ (P : Program) (S : Nat → Prop) (Z : List Nat) (H0 : Heap) (all : List Oper) (i : Nat) (fr : Fr) (H : Heap) (next : Fr → Heap → Prop) : Prop :=
  match all[i]? with
  | none => False
  | some o => match o.guard with
    | some _ => False
    | none => match Z.contains i with
      | true => opK P false (fun _ => True) o fr H fun v H' => putK o.dst fr v fun fr' => next fr' H'
      | false => opK P false (fun _ => True) o fr H fun v H' => Agr S H0 H' ∧ putK o.dst fr v fun fr' => next fr' H'
def heldZ (P : Program) (S : Nat → Prop) (Z : List Nat) (H0 : Heap) (all : List Oper) (s : Sch) : Fr → Heap → (Fr → Heap → Prop) → Prop :=
  Sch.rec (motive := fun _ => Fr → Heap → (Fr → Heap → Prop) → Prop) (fun fr H K => K fr H)
    (fun i _ ih fr H K => match all[i]? with
      | none => False
      | some o => match o.guard with
        | some _ => False
        | none => match isDet o && convDet P o with
          | true => detK P S o fr H fun v => putK o.dst fr v fun fr' => ih fr' H K
          | false => False)
    (fun i _ ih fr H K => stepZ P S Z H0 all i fr H fun fr' H' => ih fr' H' K)
    (fun i _ j _ ih ih' fr H K => (stepZ P S Z H0 all i fr H fun fr' H' => ih fr' H' K) ∧ stepZ P S Z H0 all j fr H fun fr' H' => ih' fr' H' K) s
theorem heldZ_q (P : Program) (S : Nat → Prop) (Z : List Nat) (H0 : Heap) (all : List Oper) (i : Nat) (s : Sch) (fr : Fr) (H : Heap) (K : Fr → Heap → Prop) : heldZ P S Z H0 all (.q i s) fr H K =
    (match all[i]? with
      | none => False
      | some o => match o.guard with
        | some _ => False
        | none => match isDet o && convDet P o with
          | true => detK P S o fr H fun v => putK o.dst fr v fun fr' => heldZ P S Z H0 all s fr' H K
          | false => False) := rfl
/-- Z comes behind all quiet ones; behind an operation of Z there is none. -/
def hasQ : Sch → Bool
  | .e => false
  | .q _ _ => true
  | .f _ s => hasQ s
  | .b _ s _ s' => hasQ s || hasQ s'
def zAll (Z : List Nat) : Sch → Bool
  | .e => true
  | .q _ _ => false
  | .f i s => Z.contains i && zAll Z s
  | .b i s j s' => Z.contains i && Z.contains j && zAll Z s && zAll Z s'
def heldBZ (ops : Array Oper) (Z : List Nat) : Sch → Array Bool → Bool
  | .e, listed => (Region.ready .any ops listed).isEmpty
  | .q i s, listed => (Region.ready .any ops listed).contains i && Region.free .any ops listed i && !(Z.contains i) && (Z.all fun z => needsB ops ops.size z i) && heldBZ ops Z s (listed.setIfInBounds i true)
  | .f i s, listed => Region.ready .any ops listed == [i] && (!(Z.contains i) || zAll Z s) && heldBZ ops Z s (listed.setIfInBounds i true)
  | .b i s j s', listed => Region.ready .any ops listed == [i, j] && ((!(Z.contains i) && !(Z.contains j)) || (zAll Z s && zAll Z s')) && heldBZ ops Z s (listed.setIfInBounds i true) && heldBZ ops Z s' (listed.setIfInBounds j true)
theorem stepZ_sound {P : Program} {S : Nat → Prop} {Z : List Nat} {w0 : World} {all : List Oper} {Q : Exit → Act → World → Prop} {i : Nat} {fr : Fr} {a : Act} {w : World} {next : Fr → Heap → Prop} {N : Act → World → Prop}
    (hat : At fr a) (hc : Env w0 w) (h : stepZ P S Z w0.heap all i fr w.heap next)
    (hn : ∀ fr' a' w', At fr' a' → Env w0 w' → (Z.contains i = false → Cls w0 S w') → next fr' w'.heap → N a' w') : wpOp P all.toArray Q i N a w := by
  unfold stepZ at h
  split at h
  · exact h.elim
  · rename_i o ho
    have ho' : all.toArray[i]? = some o := by simpa using ho
    split at h
    · exact h.elim
    · rename_i hg
      have hwant : Region.wanted o (yielded all.toArray a.tmps) = true := by simp [Region.wanted, hg]
      unfold wpOp
      rw [ho']
      dsimp only
      rw [if_pos hwant]
      split at h
      · rename_i hz
        refine .inl (Oper.wp_mono ?_ (opK_sound hat h _))
        rintro a' w' ⟨v, rfl, henv, hk⟩
        rw [putK_eq] at hk
        exact hn _ _ _ (hat.put o.dst v) (hc.trans henv) (fun hne => by rw [hz] at hne; cases hne) hk
      · refine .inl (Oper.wp_mono ?_ (opK_sound hat h _))
        rintro a' w' ⟨v, rfl, henv, hagr, hk⟩
        rw [putK_eq] at hk
        exact hn _ _ _ (hat.put o.dst v) (hc.trans henv) (fun _ => ⟨hc.trans henv, hagr⟩) hk
theorem heldZ_sound {P : Program} {S : Nat → Prop} {Z : List Nat} {w0 : World} {all : List Oper} {Q : Exit → Act → World → Prop} (hs : Region.noSelect all.toArray = true)
    (hp : ∀ c a w, ¬ Q (.panic c) a w) : ∀ (l : Sch) (listed : Array Bool) (fr : Fr) (a : Act) (w : World) (K : Fr → Heap → Prop), At fr a → Env w0 w → (zAll Z l = false → Cls w0 S w) → Shut all.toArray listed →
    (∀ fr' a' w', At fr' a' → Env w0 w' → K fr' w'.heap → Q .normal a' w') → heldBZ all.toArray Z l listed = true → l.even = true →
    heldZ P S Z w0.heap all l fr w.heap K → wpAnyZ P all.toArray Q (Cls w0 S) Z l.len listed a w
  | .e, listed, fr, a, w, K, hat, he, _, _, hq, hB, _, h => ⟨by simpa [heldBZ] using hB, hq fr a w hat he h⟩
  | .q i s, listed, fr, a, w, K, hat, he, hc, hsh, hq, hB, hev, h => by
    have hc := hc rfl
    simp only [heldBZ, Bool.and_eq_true, Bool.not_eq_true', List.all_eq_true] at hB
    obtain ⟨⟨⟨⟨b1, b2⟩, b3⟩, b4⟩, hB2⟩ := hB
    rw [heldZ_q] at h
    split at h
    · exact h.elim
    · rename_i o ho
      have ho' : all.toArray[i]? = some o := by simpa using ho
      have hri : i ∈ Region.ready .any all.toArray listed := by simpa using b1
      split at h
      · exact h.elim
      · rename_i hg
        have hwant : Region.wanted o (yielded all.toArray a.tmps) = true := by simp [Region.wanted, hg]
        split at h
        · obtain ⟨v, hv, hk⟩ := detK_sound h
          rw [putK_eq] at hk
          refine wpAnyZ_first (v := v) (f := all.toArray.size) ho' (Region.noSelect_spec hs) (fun c a' w' hh => (hp _ _ _ hh).elim) b3 (fun j hj => b4 j (by simpa using hj)) s.len listed a w hsh (Region.free_spec ho' b2) hri
            (.inl ⟨hwant, fun w' hw' => ?_⟩) hc ?_
          · rw [hat.evalF]
            exact hv w' fun k hk => (hw'.2 k hk).trans (hc.2 k hk).symm
          · exact heldZ_sound hs hp s _ _ _ w K (hat.put o.dst v) he (fun _ => hc) (hsh.put hri) hq hB2 hev hk
        · exact h.elim
  | .f i s, listed, fr, a, w, K, hat, he, hc, hsh, hq, hB, hev, h => by
    simp only [heldBZ, Bool.and_eq_true, Bool.or_eq_true, Bool.not_eq_true', beq_iff_eq] at hB
    obtain ⟨⟨b1, b2⟩, hB2⟩ := hB
    refine ⟨(fun h0 => by rw [b1] at h0; cases h0), fun j hj => ?_⟩
    have hj0 := hj
    rw [b1] at hj
    obtain rfl : j = i := by simpa using hj
    refine stepZ_sound hat he h fun fr' a' w' h1 h2 h3 h4 => ⟨h3, heldZ_sound hs hp s _ _ _ w' K h1 h2 (fun hz => ?_) (hsh.put hj0) hq hB2 hev h4⟩
    rcases b2 with b2 | b2
    · exact h3 b2
    · rw [b2] at hz; cases hz
  | .b i s j s', listed, fr, a, w, K, hat, he, hc, hsh, hq, hB, hev, h => by
    simp only [heldBZ, Bool.and_eq_true, Bool.or_eq_true, Bool.not_eq_true', beq_iff_eq] at hB
    obtain ⟨⟨⟨b1, b2⟩, hB2⟩, hB3⟩ := hB
    simp only [Sch.even, Bool.and_eq_true, beq_iff_eq] at hev
    obtain ⟨⟨e1, e2⟩, e3⟩ := hev
    refine ⟨(fun h0 => by rw [b1] at h0; cases h0), fun k hk => ?_⟩
    have hk0 := hk
    rw [b1] at hk
    rcases List.mem_cons.1 hk with rfl | hk
    · refine stepZ_sound hat he h.1 fun fr' a' w' h1 h2 h3 h4 => ⟨h3, heldZ_sound hs hp s _ _ _ w' K h1 h2 (fun hz => ?_) (hsh.put hk0) hq hB2 e1 h4⟩
      rcases b2 with b2 | b2
      · exact h3 b2.1
      · rw [b2.1] at hz; cases hz
    · obtain rfl : k = j := by simpa using hk
      rw [e3]
      refine stepZ_sound hat he h.2 fun fr' a' w' h1 h2 h3 h4 => ⟨h3, heldZ_sound hs hp s' _ _ _ w' K h1 h2 (fun hz => ?_) (hsh.put hk0) hq hB3 e2 h4⟩
      rcases b2 with b2 | b2
      · exact h3 b2.2
      · rw [b2.2] at hz; cases hz
theorem VDraw.heldZ {P : Program} {l : List Oper} {fr : Fr} {H : Heap} {K : Fr → Heap → Prop} (S : Nat → Prop) (Z : List Nat) (sched : Sch) (hm : P.follows .mixedOrders = true)
    (hB : (Region.noSelect l.toArray && (sched.len == l.length) && sched.even && heldBZ l.toArray Z sched (Array.replicate l.length false)) = true)
    (h : VC.heldZ P S Z H l sched fr H K) : VDraw P l fr H K := by
  refine ⟨?_⟩
  intro id Q a w hat hw hp hq
  subst hw
  simp only [Bool.and_eq_true, beq_iff_eq] at hB
  refine wp_region_any hm (wpAny_of_Z (S := Cls w S) (Z := Z) _ _ _ _ ?_)
  have hsh : Shut l.toArray (Array.replicate l.length false) := fun j o _ hj => by
    rw [Array.getD_eq_getD_getElem?, Array.getElem?_replicate] at hj
    split at hj <;> simp at hj
  have := heldZ_sound (P := P) (S := S) (Z := Z) (w0 := w) (Q := Q) hB.1.1.1 hp sched (Array.replicate l.length false) fr a { w with drawn := w.drawn + 1 } K hat ⟨rfl, rfl, rfl⟩ (fun _ => ⟨⟨rfl, rfl, rfl⟩, Agr.refl _ _⟩) hsh hq hB.2 hB.1.2 h
  rw [hB.1.1.2] at this
  simpa using this
end Go.VC

/- Tables of slices: rows laid fresh, elements written. -/
set_option linter.unusedVariables false
set_option linter.unusedSimpArgs false
namespace Go.VC
section
variable {α : Type} {T : Ty α} {B : Nat → Prop} {H0 H H1 : Heap} {ps : List Pc} {e te : TypeId} {nb : Nat} {vs : List Value} {xs : List (List α)}
end
end Go.VC
/- Maps of the call's own whose keys are arrays or structs; going through a map. -/
set_option linter.unusedVariables false
set_option linter.unusedSimpArgs false
namespace Go.VC
structure MapTW (P : Program) (t kt et : TypeId) (z : Value) : Prop where
  under : P.underlying t = some (.map kt et)
  zero : (P.info? et).bind (·.zero) = some z
/-- What the model asks of keys, of all that are Ok. -/
structure KeyW (P : Program) (kt : TypeId) {α : Type} (Ok : α → Prop) (enc : α → Value) : Prop where
  inj : ∀ a b, enc a = enc b → a = b
  check : ∀ (w : World) (em : Bool) (a : α), Ok a → (Instr.checkKey em 10000 kt (enc a)).run P w = .ok () w
  find : ∀ (w : World) (a : α), Ok a → ∀ es : List MapEntry, (∀ e ∈ es, ∃ b, Ok b ∧ e.key = enc b) →
    ((Instr.findKey kt (enc a) es).run P w = .ok none w ∧ ∀ e ∈ es, e.key ≠ enc a) ∨ ∃ j e, (Instr.findKey kt (enc a) es).run P w = .ok (some (j, e.val)) w ∧ es[j]? = some e ∧ e.key = enc a
  stays : ∀ (w : World) (a : α), Ok a → (Instr.keyThatStays (enc a) (enc a)).run P w = .ok (enc a) w
theorem KeyW.ofLaw {P : Program} {kt : TypeId} {α : Type} {Ok : α → Prop} {enc : α → Value} (h : WideMaps.KeyLaw P kt) (hi : ∀ a b, enc a = enc b → a = b) (hk : ∀ a, Ok a → ∃ l, keyOf P kt (enc a) = some l) : KeyW P kt Ok enc :=
  ⟨hi, fun w em a ha => let ⟨_, e⟩ := hk a ha; h.check w em e, fun w a ha es hes => let ⟨_, e⟩ := hk a ha; h.find w e es fun x hx => by
      obtain ⟨b, hb, e⟩ := hes x hx
      rw [e]; exact hk b hb,
    fun w a ha => let ⟨_, e⟩ := hk a ha; h.stays w e⟩
/-- The map in block b holds m, all of whose keys are Ok. -/
def MapW {α : Type} (Ok : α → Prop) (enc : α → Value) (H : Heap) (b : Nat) (m : α → Option Value) : Prop := MapF enc H b m ∧ ∀ a v, m a = some v → Ok a
def TurnW {α : Type} (Ok : α → Prop) (enc : α → Value) (H : Heap) (K : Heap → Prop) (b : Nat) (m : α → Option Value) : Prop :=
  ∀ H', MapW Ok enc H' b m → Agr (fun k => k ≠ b) H H' → H'.size = H.size → K H'
section
variable {α : Type} {Ok : α → Prop} {enc : α → Value} {P : Program} {t kt et : TypeId} {z : Value} {S : Nat → Prop} {H : Heap} {b : Nat} {m : α → Option Value} {a : α}
theorem MapW.agr {H' : Heap} (h : MapW Ok enc H b m) (k : Agr S H H') (hb : S b) : MapW Ok enc H' b m := ⟨h.1.agr k hb, h.2⟩
theorem put_ok (h : ∀ a v, m a = some v → Ok a) (ha : Ok a) (v : Value) : ∀ b u, put m a (some v) b = some u → Ok b := fun b u hb => by
  by_cases hba : b = a
  · rw [hba]; exact ha
  · rw [put_ne hba] at hb; exact h b u hb
theorem find_specW (hk : KeyW P kt Ok enc) (ha : Ok a) (hok : ∀ a v, m a = some v → Ok a) {es : Array MapEntry} (hes : ∀ (i : Nat) (x : MapEntry), es[i]? = some x → ∃ a, x.key = enc a ∧ m a = some x.val) (hm : ∀ a v, m a = some v → ∃ (i : Nat) (x : MapEntry), es[i]? = some x ∧ x.key = enc a ∧ x.val = v) (w : World) :
    ((Instr.findKey kt (enc a) es.toList).run P w = .ok none w ∧ m a = none ∧ ∀ x ∈ es.toList, x.key ≠ enc a) ∨ ∃ j e, (Instr.findKey kt (enc a) es.toList).run P w = .ok (some (j, e.val)) w ∧ es[j]? = some e ∧ e.key = enc a ∧ m a = some e.val := by
  have hall : ∀ x ∈ es.toList, ∃ b, Ok b ∧ x.key = enc b := fun x hx => by
    obtain ⟨i, hi⟩ := List.getElem?_of_mem hx
    obtain ⟨b, e1, e2⟩ := hes i x (by simpa using hi)
    exact ⟨b, hok b _ e2, e1⟩
  rcases hk.find w a ha es.toList hall with ⟨h1, h2⟩ | ⟨j, e, h1, h2, h3⟩
  · refine .inl ⟨h1, ?_, h2⟩
    cases hma : m a with
    | none => rfl
    | some v =>
      obtain ⟨i, x, hx, he, _⟩ := hm a v hma
      exact absurd he (h2 x (List.mem_of_getElem? (by simpa using hx)))
  · have hj : es[j]? = some e := by simpa using h2
    refine .inr ⟨j, e, h1, hj, h3, ?_⟩
    obtain ⟨a', e1, e2⟩ := hes j e hj
    rw [hk.inj a a' (h3.symm.trans e1)]; exact e2
theorem mlookW (ht : MapTW P t kt et z) (hk : KeyW P kt Ok enc) (ha : Ok a) (h : MapW Ok enc H b m) (hb : S b) {K : Value → Prop} (k : K ((m a).getD z)) : VDet P (Instr.lookup t (.map (some b)) (enc a) false) S H K := by
  obtain ⟨⟨es, clock, h1, h2, h3, h4⟩, hok⟩ := h
  refine VDet.mk _ (fun w hw => ?_) k
  have hb' := (hw b hb).trans h1
  rcases find_specW hk ha hok h3 h4 w with ⟨e1, e2, e3⟩ | ⟨j, e, e1, e2, e3, e4⟩
  · simp [Instr.lookup, run_underlying ht.under, Go.MapKept.run_getObj_map hb', hk.check w _ a ha, e1, zero_run ht.zero, e2]
  · simp [Instr.lookup, run_underlying ht.under, Go.MapKept.run_getObj_map hb', hk.check w _ a ha, e1, e4]
theorem mlookOkW (ht : MapTW P t kt et z) (hk : KeyW P kt Ok enc) (ha : Ok a) (h : MapW Ok enc H b m) (hb : S b) {K : Value → Prop} (k : K (.tuple #[(m a).getD z, .bool (m a).isSome])) : VDet P (Instr.lookup t (.map (some b)) (enc a) true) S H K := by
  obtain ⟨⟨es, clock, h1, h2, h3, h4⟩, hok⟩ := h
  refine VDet.mk _ (fun w hw => ?_) k
  have hb' := (hw b hb).trans h1
  rcases find_specW hk ha hok h3 h4 w with ⟨e1, e2, e3⟩ | ⟨j, e, e1, e2, e3, e4⟩
  · simp [Instr.lookup, run_underlying ht.under, Go.MapKept.run_getObj_map hb', hk.check w _ a ha, e1, zero_run ht.zero, e2]
  · simp [Instr.lookup, run_underlying ht.under, Go.MapKept.run_getObj_map hb', hk.check w _ a ha, e1, e4]
theorem modify_oldW (hinj : ∀ a b, enc a = enc b → a = b) {es : Array MapEntry} {clock : Nat} (hs : Go.MapKept.Stamped es clock) (h3 : ∀ (i : Nat) (x : MapEntry), es[i]? = some x → ∃ a, x.key = enc a ∧ m a = some x.val) (h4 : ∀ a v, m a = some v → ∃ (i : Nat) (x : MapEntry), es[i]? = some x ∧ x.key = enc a ∧ x.val = v) {j : Nat} {e : MapEntry} (hj : es[j]? = some e) (he : e.key = enc a) {f : MapEntry → MapEntry} {v : Value}
    (hf1 : (f e).key = enc a) (hf2 : (f e).val = v) (hf3 : ∀ x, (f x).born = x.born) {H' : Heap}
    (hb : H'[b]? = some (.map (es.modify j f) clock)) : MapF enc H' b (put m a (some v)) ∧ StampF enc H' b a e.born := by
  have hgt : ∀ i x, (es.modify j f)[i]? = some x → (i ≠ j ∧ es[i]? = some x) ∨ (i = j ∧ x = f e) := by
    intro i x hx
    rw [Array.getElem?_modify] at hx
    by_cases hi : j = i
    · subst hi; rw [if_pos rfl, hj] at hx; exact .inr ⟨rfl, by cases hx; rfl⟩
    · rw [if_neg hi] at hx; exact .inl ⟨Ne.symm hi, hx⟩
  refine ⟨⟨_, _, hb, Go.MapKept.stamped_modify hs _ _ (fun x _ => hf3 x) (fun x _ hx => ?_), fun i x hx => ?_, fun a' v' hv => ?_⟩, _, _, hb, fun i x hx => ?_⟩
  · rw [hj] at hx; cases hx; rw [hf1, he]
  · rcases hgt i x hx with ⟨hne, hx⟩ | ⟨_, rfl⟩
    · obtain ⟨a', e1, e2⟩ := h3 i x hx
      have : a' ≠ a := fun h => hne (stamped_key hs hx hj (by rw [e1, h, he]))
      exact ⟨a', e1, by rw [put_ne this]; exact e2⟩
    · exact ⟨a, hf1, by rw [put_self, hf2]⟩
  · by_cases ha : a' = a
    · subst ha
      rw [put_self] at hv
      cases hv
      exact ⟨j, f e, by rw [Array.getElem?_modify, if_pos rfl, hj]; rfl, hf1, hf2⟩
    · rw [put_ne ha] at hv
      obtain ⟨i, x, hx, e1, e2⟩ := h4 a' v' hv
      refine ⟨i, x, ?_, e1, e2⟩
      rw [Array.getElem?_modify, if_neg ?_]
      · exact hx
      · rintro rfl
        rw [hj] at hx; cases hx
        exact ha (hinj _ _ (e1.symm.trans he))
  · rcases hgt i x hx with ⟨hne, hx⟩ | ⟨_, rfl⟩
    · exact ⟨fun h => absurd (stamped_born hs hx hj h) hne, fun h => absurd (stamped_key hs hx hj (h.trans he.symm)) hne⟩
    · exact ⟨fun _ => hf1, fun _ => hf3 e⟩
theorem mputW (ht : MapTW P t kt et z) (hk : KeyW P kt Ok enc) (ha : Ok a) (h : MapW Ok enc H b m) {v : Value} {K : Heap → Prop} (k : TurnW Ok enc H K b (put m a (some v))) : VEffU P (Instr.mapUpdate t (.map (some b)) (enc a) v) H K := by
  obtain ⟨⟨es, clock, h1, h2, h3, h4⟩, hok⟩ := h
  refine VEffU.mk fun w hw => ?_
  subst hw
  rcases find_specW hk ha hok h3 h4 w with ⟨e1, e2, e3⟩ | ⟨j, e, e1, e2, e3, e4⟩
  · obtain ⟨t1, t2, t3⟩ := set_turn (o' := .map (es.push ⟨enc a, v, clock⟩) (clock + 1)) h1
    exact ⟨setW w b (.map (es.push ⟨enc a, v, clock⟩) (clock + 1)), by simp [Instr.mapUpdate, run_underlying ht.under, Go.MapKept.run_getObj_map h1, hk.check w _ a ha, e1, Go.MapKept.run_setObj_map _ h1], ⟨rfl, rfl, rfl⟩, k _ ⟨(push_new h2 h3 h4 e3 t1).1, put_ok hok ha v⟩ t2 t3⟩
  · obtain ⟨t1, t2, t3⟩ := set_turn (o' := .map (es.modify j fun e => { e with key := enc a, val := v }) clock) h1
    exact ⟨setW w b (.map (es.modify j fun e => { e with key := enc a, val := v }) clock), by simp [Instr.mapUpdate, run_underlying ht.under, Go.MapKept.run_getObj_map h1, hk.check w _ a ha, e1, Go.MapKept.run_setObj_map _ h1, e2, e3, hk.stays w a ha], ⟨rfl, rfl, rfl⟩, k _ ⟨(modify_oldW hk.inj h2 h3 h4 e2 e3 (f := fun e => { e with key := enc a, val := v }) rfl rfl (fun _ => rfl) t1).1, put_ok hok ha v⟩ t2 t3⟩
theorem mmakeW {K : Value → Heap → Prop} (k : ∀ b H', b = H.size → H'.size = b + 1 → MapW Ok enc H' b (fun _ => none) → Agr (fun k => k < b) H H' → K (.map (some b)) H') : VEff P (Instr.makeMap t none) H K :=
  mmake fun b H' h1 h2 h3 h4 => k b H' h1 h2 ⟨h3, fun a v h => by cases h⟩ h4
end
end Go.VC

/- Going through a map of the call's own; wide-keyed maps and loops over them as pieces. -/
set_option linter.unusedVariables false
set_option linter.unusedSimpArgs false
namespace Go.VC
/-- The map in block b holds m, and is gone through by the iterator in block r: D have come, `last` the last of them; n are still to come. -/
def IterW {α : Type} (Ok : α → Prop) (enc : α → Value) (H : Heap) (b r : Nat) (m : α → Option Value) (D : α → Prop) (last : Option α) (n : Nat) : Prop :=
  (∃ es clock seen, H[b]? = some (.map es clock) ∧ Go.MapKept.Stamped es clock ∧ (∀ (i : Nat) (x : MapEntry), es[i]? = some x → ∃ a, x.key = enc a ∧ m a = some x.val) ∧
    (∀ a v, m a = some v → ∃ (i : Nat) (x : MapEntry), es[i]? = some x ∧ x.key = enc a ∧ x.val = v) ∧ H[r]? = some (.mapIter (some b) clock seen clock) ∧
    (∀ (i : Nat) (x : MapEntry) (a : α), es[i]? = some x → x.key = enc a → (seen.contains x.born = true ↔ D a)) ∧ n = (leftOf es seen).size ∧
    ∀ a, last = some a → ∃ (e : MapEntry) (s0 : Array Nat), e ∈ es.toList ∧ e.key = enc a ∧ seen = s0.push e.born) ∧ (∀ a v, m a = some v → Ok a)
section
variable {α : Type} {Ok : α → Prop} {enc : α → Value} {P : Program} {t kt et : TypeId} {z : Value} {S : Nat → Prop} {H : Heap} {b r n : Nat} {m : α → Option Value} {D : α → Prop} {last : Option α}
theorem IterW.agr {H' : Heap} (h : IterW Ok enc H b r m D last n) (k : Agr S H H') (hb : S b) (hr : S r) : IterW Ok enc H' b r m D last n := by
  obtain ⟨⟨es, clock, seen, h1, h2, h3, h4, h5, h6⟩, h7⟩ := h
  exact ⟨⟨es, clock, seen, (k b hb).trans h1, h2, h3, h4, (k r hr).trans h5, h6⟩, h7⟩
theorem left_push (es : Array MapEntry) (seen : Array Nat) {e : MapEntry} (he : e ∈ (leftOf es seen).toList) : (leftOf es (seen.push e.born)).size < (leftOf es seen).size := by
  have h1 : leftOf es (seen.push e.born) = (leftOf es seen).filter fun x => !(x.born == e.born) := by
    unfold leftOf
    rw [Array.filter_filter]
    congr 1
    funext x
    rw [Array.contains_push]
    cases h1 : seen.contains x.born <;> cases h2 : x.born == e.born <;> simp_all
  have h2 : ((leftOf es seen).filter fun x => !(x.born == e.born)).size = ((leftOf es seen).toList.filter fun x => !(x.born == e.born)).length := by rw [← Array.toList_filter, Array.length_toList]
  rw [h1, h2, ← Array.length_toList]
  exact List.length_filter_lt_length_iff_exists.2 ⟨e, he, by simp⟩
theorem mrange (ht : MapTW P t kt et z) (h : MapW Ok enc H b m) {K : Value → Heap → Prop}
    (k : ∀ r n H', r = H.size → H'.size = r + 1 → IterW Ok enc H' b r m (fun _ => False) none n → Agr (fun k => k < H.size) H H' → K (.pointer (some ⟨r, 0, none⟩)) H') : VEff P (Instr.range t (.map (some b))) H K := by
  obtain ⟨⟨es, clock, h1, h2, h3, h4⟩, hok⟩ := h
  refine VEff.mk fun w hw => ?_
  subst hw
  have hbl : b < w.heap.size := (Array.getElem?_eq_some_iff.1 h1).1
  refine ⟨_, w.alloc (.mapIter (some b) clock #[] clock), by simp [Instr.range, run_underlying ht.under, Go.MapKept.run_getObj_map h1], ⟨rfl, rfl, rfl⟩, k w.heap.size (leftOf es #[]).size _ rfl (by rw [alloc_heap]; simp) ⟨⟨es, clock, #[], ?_, h2, h3, h4, by rw [alloc_heap]; simp, fun i x a hx hk => by simp, rfl, fun a h => by cases h⟩, hok⟩ (heap_push_old _ _)⟩
  rw [alloc_heap, Array.getElem?_push, if_neg (by omega)]; exact h1
theorem mnext {ty : TypeId} (hi : ∀ a b, enc a = enc b → a = b) (h : IterW Ok enc H b r m D last n) {K : Value → Heap → Prop} (k0 : (∀ a, (m a).isSome = true → D a) → K (.tuple #[.bool false]) H)
    (k1 : ∀ a v H' n', m a = some v → ¬ D a → n' < n → IterW Ok enc H' b r m (fun x => D x ∨ x = a) (some a) n' → Agr (fun k => k ≠ r) H H' → H'.size = H.size → K (.tuple #[.bool true, enc a, v]) H') : VEff P (Instr.next (.pointer (some ⟨r, 0, none⟩)) false ty) H K := by
  obtain ⟨⟨es, clock, seen, h1, h2, h3, h4, h5, h6, h7, h8⟩, hok⟩ := h
  refine VEff.mk fun w hw => ?_
  subst hw
  have hbr : b ≠ r := by
    rintro rfl
    rw [h1] at h5; cases h5
  have hml : ∀ x, x ∈ (leftOf es seen).toList ↔ x ∈ es.toList ∧ seen.contains x.born = false := fun x => by
    unfold leftOf
    rw [Array.toList_filter, List.mem_filter, Bool.not_eq_true']
  rcases run_next_at (P := P) w ty r b clock clock seen es clock h5 h1 h2.1 (Nat.le_refl _) with ⟨e1, e2⟩ | ⟨e, he, w1, hw1, e2⟩
  · refine ⟨_, w, e2, Env.refl w, k0 fun a ha => ?_⟩
    obtain ⟨v, hv⟩ := Option.isSome_iff_exists.1 ha
    obtain ⟨i, x, hx, hk, -⟩ := h4 a v hv
    refine (h6 i x a hx hk).1 ?_
    cases hs : seen.contains x.born with
    | true => rfl
    | false =>
      have := (hml x).2 ⟨List.mem_of_getElem? (i := i) (by simpa using hx), hs⟩
      have h0 : (leftOf es seen).toList = [] := List.eq_nil_of_length_eq_zero (by rw [Array.length_toList]; exact e1)
      rw [h0] at this; cases this
  · obtain ⟨he1, he2⟩ := (hml e).1 he
    obtain ⟨j, hj⟩ := List.getElem?_of_mem he1
    have hj' : es[j]? = some e := by simpa using hj
    obtain ⟨a, hka, hma⟩ := h3 j e hj'
    have hnD : ¬ D a := fun hd => by
      rw [(h6 j e a hj' hka).2 hd] at he2; cases he2
    have hw1h : w1.heap = w.heap := by rcases hw1 with rfl | rfl <;> rfl
    have hw1e : Env w w1 := by rcases hw1 with rfl | rfl <;> exact ⟨rfl, rfl, rfl⟩
    have hrl : r < w.heap.size := (Array.getElem?_eq_some_iff.1 h5).1
    have hset : (Go.ChangeMaps.setBlock w1 r (.mapIter (some b) clock (seen.push e.born) clock)).heap = w.heap.setIfInBounds r (.mapIter (some b) clock (seen.push e.born) clock) := by
      show w1.heap.setIfInBounds r _ = _
      rw [hw1h]
    refine ⟨_, _, e2, ⟨hw1e.os, hw1e.tape, hw1e.output⟩, ?_⟩
    rw [hka]
    refine k1 a e.val _ _ hma hnD (h7 ▸ left_push es seen he) ⟨⟨es, clock, seen.push e.born, ?_, h2, h3, h4, ?_, fun i x a' hx hk => ?_, rfl, fun a' ha' => ?_⟩, hok⟩ ?_ ?_
    · rw [hset, Array.getElem?_setIfInBounds_ne (Ne.symm hbr)]; exact h1
    · rw [hset, Array.getElem?_setIfInBounds_self_of_lt hrl]
    · rw [Array.contains_push, Bool.or_eq_true, h6 i x a' hx hk, beq_iff_eq]
      refine or_congr Iff.rfl ⟨fun hb => ?_, fun ha' => ?_⟩
      · obtain rfl := stamped_born h2 hx hj' hb
        rw [hj'] at hx; cases hx
        exact hi _ _ (hk.symm.trans hka)
      · subst ha'
        obtain rfl := stamped_key h2 hx hj' (hk.trans hka.symm)
        rw [hj'] at hx; cases hx; rfl
    · cases ha'
      exact ⟨e, seen, he1, hka, rfl⟩
    · rw [hset]
      exact fun k hk => Array.getElem?_setIfInBounds_ne (Ne.symm hk)
    · rw [hset]; simp
theorem mhere {a : α} {v : Value} (h : IterW Ok enc H b r m D (some a) n) (hi : ∀ a b, enc a = enc b → a = b) (hv : m a = some v) {K : Value → Heap → Prop} (k : K (.tuple #[enc a, v]) H) : VEff P (Instr.entry (.pointer (some ⟨r, 0, none⟩))) H K := by
  obtain ⟨⟨es, clock, seen, h1, h2, h3, h4, h5, h6, h7, h8⟩, hok⟩ := h
  obtain ⟨e, s0, he, hk, rfl⟩ := h8 a rfl
  refine VEff.mk fun w hw => ?_
  subst hw
  obtain ⟨i, x, hx, hkx, hvx⟩ := h4 a v hv
  obtain ⟨j, hj⟩ := List.getElem?_of_mem he
  have hj' : es[j]? = some e := by simpa using hj
  obtain rfl := stamped_key h2 hx hj' (hkx.trans hk.symm)
  rw [hj'] at hx; cases hx
  refine ⟨_, w, run_entry_at w r b clock s0 es clock e h5 h1 he h2.2.1, Env.refl w, ?_⟩
  rw [hk, hvx]; exact k
end

/-! ### as pieces -/
section
variable {α : Type} {Ok : α → Prop} {enc : α → Value} {b r n : Nat} {m m' : α → Option Value} {D : α → Prop} {last : Option α} {B : Nat → Prop} {H0 H H' : Heap} {ps : List Pc} {P : Program} {t kt et : TypeId} {z : Value}
def pMW (Ok : α → Prop) (enc : α → Value) (b : Nat) (m : α → Option Value) : Pc := ⟨fun k => k = b, fun H => MapW Ok enc H b m, fun h hp => hp.agr h rfl⟩
def pIW (Ok : α → Prop) (enc : α → Value) (b r : Nat) (m : α → Option Value) (D : α → Prop) (last : Option α) (n : Nat) : Pc := ⟨fun k => k = b ∨ k = r, fun H => IterW Ok enc H b r m D last n, fun h hp => hp.agr h (.inl rfl) (.inr rfl)⟩
theorem StB.mapW (st : StB B H0 H ps) (i : Nat) (hp : ps[i]? = some (pMW Ok enc b m)) : MapW Ok enc H b m := st.at_ i hp
theorem StB.iterW (st : StB B H0 H ps) (i : Nat) (hp : ps[i]? = some (pIW Ok enc b r m D last n)) : IterW Ok enc H b r m D last n := st.at_ i hp
theorem StB.mapNewW (st : StB B H0 H ps) (hb : b = H.size) (hs : H'.size = b + 1) (hm : MapW Ok enc H' b (fun _ => none)) (ha : Agr (fun k => k < b) H H') : StB B H0 H' (ps ++ [pMW Ok enc b fun _ => none]) := by
  subst hb
  exact st.add (ha.mono fun k hk => hk) _ hm fun k hk => by have : k = H.size := hk; omega
theorem mputPW {v : Value} {a : α} {K : Heap → Prop} (st : StB B H0 H ps) (i : Nat) (ht : MapTW P t kt et z) (hk : KeyW P kt Ok enc) (ha : Ok a) (hp : ps[i]? = some (pMW Ok enc b m)) (hm : put m a (some v) = m')
    (k : ∀ H', StB B H0 H' (ps.set i (pMW Ok enc b m')) → K H') : VEffU P (Instr.mapUpdate t (.map (some b)) (enc a) v) H K := by
  refine mputW ht hk ha (st.mapW i hp) ?_
  intro H' hb' ha' hs'
  subst hm
  exact k H' (st.upd i hp (ha'.mono fun k hk hkb => hk.2 hkb) _ hb' (fun k hk => .inl hk) (fun k hk => by rw [hs']; exact (st.in_ i hp hk).2) (by omega))
theorem mrangeP {K : Value → Heap → Prop} (st : StB B H0 H ps) (i : Nat) (ht : MapTW P t kt et z) (hp : ps[i]? = some (pMW Ok enc b m))
    (k : ∀ r n H', StB B H0 H' (ps.set i (pIW Ok enc b r m (fun _ => False) none n)) → K (.pointer (some ⟨r, 0, none⟩)) H') : VEff P (Instr.range t (.map (some b))) H K := by
  refine mrange ht (st.mapW i hp) fun r n H' hr hs hi ha => ?_
  subst hr
  have hbl := (st.in_ i hp (k := b) rfl).2
  refine k _ n H' (st.upd i hp (ha.mono fun k hk => hk.1) _ hi (fun k hk => ?_) (fun k hk => ?_) (by omega))
  · rcases hk with hk | hk
    · exact .inl hk
    · exact .inr (by omega)
  · rcases hk with rfl | rfl <;> omega
theorem mnextP {ty : TypeId} {K : Value → Heap → Prop} (st : StB B H0 H ps) (i : Nat) (hi : ∀ a b, enc a = enc b → a = b) (hp : ps[i]? = some (pIW Ok enc b r m D last n)) (k0 : (∀ a, (m a).isSome = true → D a) → K (.tuple #[.bool false]) H)
    (k1 : ∀ a v H' n', m a = some v → ¬ D a → n' < n → StB B H0 H' (ps.set i (pIW Ok enc b r m (fun x => D x ∨ x = a) (some a) n')) → K (.tuple #[.bool true, enc a, v]) H') : VEff P (Instr.next (.pointer (some ⟨r, 0, none⟩)) false ty) H K := by
  refine mnext hi (st.iterW i hp) k0 fun a v H' n' h1 h2 h3 h4 h5 h6 => k1 a v H' n' h1 h2 h3 (st.upd i hp (h5.mono fun k hk hkr => hk.2 (.inr hkr)) _ h4 (fun k hk => .inl hk) (fun k hk => by rw [h6]; exact (st.in_ i hp hk).2) (by omega))
end
end Go.VC

/- Appending to own slices without a bound but the model's; maps of slices with wide keys as pieces. -/
set_option linter.unusedVariables false
set_option linter.unusedSimpArgs false
namespace Go.VC
section
variable {α : Type} {T : Ty α} {e : TypeId} {a : Option Addr} {n cap : Nat} {xs : List α} {B : Nat → Prop} {H0 H : Heap} {ps : List Pc}
end

/-! ### maps of slices -/
section
variable {α β : Type} {Ok : α → Prop} {enc : α → Value} {T : Ty β} {e : TypeId} {b : Nat} {m : α → Option Value} {xs : α → List β} {B : Nat → Prop} {H0 H H' : Heap} {ps : List Pc} {P : Program} {t kt et : TypeId} {a : α}
end
end Go.VC

/- A block whose cells hold slices of the call's own, of several types. -/
set_option linter.unusedVariables false
set_option linter.unusedSimpArgs false
namespace Go.VC
/-- What a slice of the call's own holds. -/
structure Slot where
  ok : Heap → Value → Prop
  fr : ∀ {S : Nat → Prop} {H H' : Heap} {v : Value}, Agr S H H' → (∀ k, slB v k → S k) → ok H v → ok H' v
  lt : ∀ {H : Heap} {v : Value} {k : Nat}, ok H v → slB v k → k < H.size
def slot {α : Type} (T : Ty α) (e : TypeId) (xs : List α) : Slot := ⟨fun H v => SlO T none_ H 0 e v xs, fun h hb hv => hv.agr h hb (fun _ f => f.elim), fun h hk => (h.lt hk).2⟩
def updS (ss : Nat → Slot) (j : Nat) (s : Slot) : Nat → Slot := fun i => if i = j then s else ss i
theorem updS_self (ss : Nat → Slot) (j : Nat) (s : Slot) : updS ss j s j = s := if_pos rfl
theorem updS_ne {ss : Nat → Slot} {i j : Nat} {s : Slot} (h : i ≠ j) : updS ss j s i = ss i := if_neg h
section
variable {α : Type} {T : Ty α} {B : Nat → Prop} {H0 H H1 : Heap} {ps : List Pc} {e te : TypeId} {b : Nat} {vs : List Value} {ss : Nat → Slot} {xs : List α} {v : Value} {j : Nat}
def pF (te : TypeId) (b : Nat) (vs : List Value) (ss : Nat → Slot) : Pc where
  foot k := k = b ∨ ∃ (i : Nat) (v : Value), vs[i]? = some v ∧ slB v k
  ok H := Blk H b te vs ∧ (∀ (i : Nat) (v : Value), vs[i]? = some v → (ss i).ok H v) ∧ (∀ (i j : Nat) (v w : Value) (k : Nat), i ≠ j → vs[i]? = some v → vs[j]? = some w → slB v k → ¬ slB w k) ∧ ∀ (i : Nat) (v : Value), vs[i]? = some v → ¬ slB v b
  fr h hp := ⟨hp.1.agr h (.inl rfl), fun i v hv => (ss i).fr h (fun k hk => .inr ⟨i, v, hv, hk⟩) (hp.2.1 i v hv), hp.2.2⟩
theorem nil_slB {k : Nat} : ¬ slB (.slice none 0 0) k := fun ⟨_, _, _, h⟩ => by cases h
theorem StB.fldNew {n : Nat} (st : StB B H0 H ps) (i : Nat) (hp : ps[i]? = some (pB te b (List.replicate n (.slice none 0 0)))) (hs : ∀ j H, (ss j).ok H (.slice none 0 0)) : StB B H0 H (ps.set i (pF te b (List.replicate n (.slice none 0 0)) ss)) := by
  have hz : ∀ (j : Nat) (v : Value), (List.replicate n (Value.slice none 0 0))[j]? = some v → v = .slice none 0 0 := fun j v hv => by
    exact List.eq_of_mem_replicate (List.mem_of_getElem? hv)
  refine st.upd i hp (Agr.refl _ _) (pF te b (List.replicate n (.slice none 0 0)) ss) ⟨st.blk i hp, fun j v hv => by rw [hz j v hv]; exact hs j H, fun i j v w k _ hv hw hk => ?_, fun j v hv hk => ?_⟩ (fun k hk => ?_) (fun k hk => ?_) (Nat.le_refl _)
  · rw [hz i v hv] at hk; exact absurd hk nil_slB
  · rw [hz j v hv] at hk; exact nil_slB hk
  · rcases hk with hk | ⟨j, v, hv, hk⟩
    · exact .inl hk
    · rw [hz j v hv] at hk; exact absurd hk nil_slB
  · rcases hk with hk | ⟨j, v, hv, hk⟩
    · exact (st.in_ i hp hk).2
    · rw [hz j v hv] at hk; exact absurd hk nil_slB
theorem StB.fblk (st : StB B H0 H ps) (i : Nat) (hp : ps[i]? = some (pF te b vs ss)) : Blk H b te vs := (st.at_ i hp).1
theorem StB.fview (st : StB B H0 H ps) (i : Nat) (hp : ps[i]? = some (pF te b vs ss)) (hv : vs[j]? = some v) (hs : ss j = slot T e xs) : ∃ a cap, v = .slice a xs.length cap ∧ SlD T (Old H) H a cap xs := by
  have h := (st.at_ i hp).2.1 j v hv
  rw [hs] at h
  obtain ⟨a, cap, h1, h2, -⟩ := SlO.view (S' := Old H) (h : SlO T none_ H 0 e v xs) (fun k hk => (st.in_ i hp (.inr ⟨j, v, hv, hk⟩)).2) (fun _ f => f.elim)
  exact ⟨a, cap, h1, h2⟩
/-- The same, while the slice in cell j is out, as v'. -/
def pFm (te : TypeId) (b : Nat) (vs : List Value) (ss : Nat → Slot) (j : Nat) (s : Slot) (v' : Value) : Pc where
  foot k := k = b ∨ slB v' k ∨ ∃ (i : Nat) (v : Value), i ≠ j ∧ vs[i]? = some v ∧ slB v k
  ok H := Blk H b te vs ∧ j < vs.length ∧ s.ok H v' ∧ (∀ (i : Nat) (v : Value), i ≠ j → vs[i]? = some v → (ss i).ok H v) ∧ (∀ (i l : Nat) (v w : Value) (k : Nat), i ≠ j → l ≠ j → i ≠ l → vs[i]? = some v → vs[l]? = some w → slB v k → ¬ slB w k) ∧
    (∀ (i : Nat) (v : Value) (k : Nat), i ≠ j → vs[i]? = some v → slB v k → ¬ slB v' k) ∧ (∀ (i : Nat) (v : Value), i ≠ j → vs[i]? = some v → ¬ slB v b) ∧ ¬ slB v' b
  fr h hp := ⟨hp.1.agr h (.inl rfl), hp.2.1, s.fr h (fun k hk => .inr (.inl hk)) hp.2.2.1, fun i v hi hv => (ss i).fr h (fun k hk => .inr (.inr ⟨i, v, hi, hv, hk⟩)) (hp.2.2.2.1 i v hi hv), hp.2.2.2.2⟩
theorem appF {P : Program} {tt ty q o m cap2 by_ : Nat} {z : Value} {ys : List α} {ds : List Value} {K : Value → Heap → Prop} (st : StB B H0 H ps) (i : Nat) (ht : SlT P tt e T.size by_ z) (hp : ps[i]? = some (pF te b vs ss)) (hv : vs[j]? = some v) (hs : ss j = slot T e xs)
    (hd : Cells H q o ds) (hy : T.reps none_ H ds ys) (hm : m = ys.length) (h1 : ∀ u ∈ ds, u.oneCell' = true) (h63 : xs.length + ys.length ≤ maxLen) (hby : (xs.length + ys.length) * by_ ≤ 140737488355328)
    (k : ∀ v' H', StB B H0 H' (ps.set i (pFm te b vs ss j (slot T e (xs ++ ys)) v')) → Agr (fun k => k < H.size ∧ ¬ slB v k) H H' → v'.oneCell' = true → K v' H') :
    VEff P (Builtin.append_ #[tt, tt] ty [v, .slice (some ⟨q, o, none⟩) m cap2].toArray) H K := by
  obtain ⟨hblk, hall, hap, hb⟩ := st.at_ i hp
  have hown := hall j v hv
  rw [hs] at hown
  have hjl := (List.getElem?_eq_some_iff.1 hv).1
  have hbl : b < H.size := (st.in_ i hp (.inl rfl)).2
  have hlt : ∀ (l : Nat) (w : Value), vs[l]? = some w → ∀ k, slB w k → k < H.size := fun l w hw k hk => (st.in_ i hp (.inr ⟨l, w, hw, hk⟩)).2
  refine vappendO (T := T) (S := none_) (lo := 0) ht (hown : SlO T none_ H 0 e v xs) (Nat.zero_le _) (fun k hk => hk.elim) hd hy hm h1 h63 hby ?_
  intro v' H' hv' hagr hsz hfr
  refine k v' H' (st.upd i hp (hagr.mono fun k hk => ⟨hk.1, fun hb => hk.2 (.inr ⟨j, v, hv, hb⟩)⟩) (pFm te b vs ss j (slot T e (xs ++ ys)) v') ⟨hblk.agr hagr ⟨hbl, hb j v hv⟩, hjl, hv', fun l w hl hw => (ss l).fr hagr (fun k hk => ⟨hlt l w hw k hk, hap l j w v k hl hw hv hk⟩) (hall l w hw), fun l l' w w' k _ _ hll => hap l l' w w' k hll, fun l w k hl hw hk hk' => ?_, fun l w _ hw => hb l w hw, fun hk => ?_⟩ (fun k hk => ?_) (fun k hk => ?_) hsz) hagr hv'.one
  · rcases hfr k hk' with h | h
    · exact hap l j w v k hl hw hv hk h
    · have := hlt l w hw k hk; omega
  · rcases hfr b hk with h | h
    · exact hb j v hv h
    · omega
  · rcases hk with hk | hk | ⟨l, w, -, hw, hk⟩
    · exact .inl (.inl hk)
    · rcases hfr k hk with h | h
      · exact .inl (.inr ⟨j, v, hv, h⟩)
      · exact .inr h
    · exact .inl (.inr ⟨l, w, hw, hk⟩)
  · rcases hk with hk | hk | ⟨l, w, hl, hw, hk⟩
    · have : k = b := hk; omega
    · exact (hv'.lt hk).2
    · have := hlt l w hw k hk; omega
theorem stF {P : Program} {o : Nat} {s : Slot} {t : TypeId} {K : Heap → Prop} (st : StB B H0 H ps) (i : Nat) (ht : CellT P t) (hp : ps[i]? = some (pFm te b vs ss j s v)) (ho : o = j) (h1 : v.oneCell' = true)
    (k : ∀ H', StB B H0 H' (ps.set i (pF te b (vs.set j v) (updS ss j s))) → K H') : VEffU P (Instr.storeAt t (.pointer (some ⟨b, o, none⟩)) v) H K := by
  subst ho
  obtain ⟨hblk, hjl, hv', hall, hap, hapv, hb, hvb⟩ := st.at_ i hp
  refine VC.st1 ht hblk hjl h1 ?_
  intro H' hb' ha' hs'
  have e1 : ∀ (l : Nat) (w : Value), (vs.set o v)[l]? = some w → (l = o ∧ w = v) ∨ (l ≠ o ∧ vs[l]? = some w) := fun l w hw => by
    by_cases hl : l = o
    · subst hl
      rw [List.getElem?_set_self hjl] at hw
      cases hw; exact .inl ⟨rfl, rfl⟩
    · rw [List.getElem?_set_ne (Ne.symm hl)] at hw; exact .inr ⟨hl, hw⟩
  refine k H' (st.upd i hp (ha'.mono fun k hk hkb => hk.2 (.inl hkb)) (pF te b (vs.set o v) (updS ss o s)) ⟨hb', fun l w hw => ?_, fun l l' w w' kk hll hw hw' hk hk' => ?_, fun l w hw => ?_⟩ (fun k hk => ?_) (fun k hk => ?_) (by omega))
  · rcases e1 l w hw with ⟨rfl, rfl⟩ | ⟨hl, hw⟩
    · rw [updS_self]; exact s.fr ha' (fun k hk hkb => hvb (hkb ▸ hk)) hv'
    · rw [updS_ne hl]; exact (ss l).fr ha' (fun k hk hkb => hb l w hl hw (hkb ▸ hk)) (hall l w hl hw)
  · rcases e1 l w hw with ⟨rfl, rfl⟩ | ⟨hl, hw1⟩ <;> rcases e1 l' w' hw' with ⟨rfl, rfl⟩ | ⟨hl', hw1'⟩
    · exact hll rfl
    · exact hapv l' w' kk hl' hw1' hk' hk
    · exact hapv l w kk hl hw1 hk hk'
    · exact hap l l' w w' kk hl hl' hll hw1 hw1' hk hk'
  · rcases e1 l w hw with ⟨rfl, rfl⟩ | ⟨hl, hw⟩
    · exact hvb
    · exact hb l w hl hw
  · refine .inl ?_
    rcases hk with hk | ⟨l, w, hw, hk⟩
    · exact .inl hk
    · rcases e1 l w hw with ⟨rfl, rfl⟩ | ⟨hl, hw⟩
      · exact .inr (.inl hk)
      · exact .inr (.inr ⟨l, w, hl, hw, hk⟩)
  · rw [hs']
    rcases hk with hk | ⟨l, w, hw, hk⟩
    · exact (st.in_ i hp (.inl hk)).2
    · rcases e1 l w hw with ⟨rfl, rfl⟩ | ⟨hl, hw⟩
      · exact (st.in_ i hp (.inr (.inl hk))).2
      · exact (st.in_ i hp (.inr (.inr ⟨l, w, hl, hw, hk⟩))).2
end
end Go.VC
/- A block whose first cell is anything, and whose other cells hold slices of the call's own. -/
set_option linter.unusedVariables false
set_option linter.unusedSimpArgs false
namespace Go.VC
section
variable {α : Type} {T : Ty α} {B : Nat → Prop} {H0 H H1 : Heap} {ps : List Pc} {e te : TypeId} {b : Nat} {w0 : Value} {vs : List Value} {ss : Nat → Slot} {xs : List α} {v : Value} {j : Nat}
end
end Go.VC
/- Facts on the types of the translation, written by a program. -/
set_option maxRecDepth 100000
namespace Go.Proofs.YtfbghcpdinlmcaaGreatDoor
open Go.VC
theorem ct3 : CellT Tryz.prog 3 := ⟨⟨_, rfl, rfl⟩, rfl⟩
theorem ct4 : CellT Tryz.prog 4 := ⟨⟨_, rfl, rfl⟩, rfl⟩
theorem ct5 : CellT Tryz.prog 5 := ⟨⟨_, rfl, rfl⟩, rfl⟩
theorem ct9 : CellT Tryz.prog 9 := ⟨⟨_, rfl, rfl⟩, rfl⟩
theorem ct23 : CellT Tryz.prog 23 := ⟨⟨_, rfl, rfl⟩, rfl⟩
theorem ct24 : CellT Tryz.prog 24 := ⟨⟨_, rfl, rfl⟩, rfl⟩
theorem ct28 : CellT Tryz.prog 28 := ⟨⟨_, rfl, rfl⟩, rfl⟩
theorem ct34 : CellT Tryz.prog 34 := ⟨⟨_, rfl, rfl⟩, rfl⟩
theorem sl34 : SlT Tryz.prog 34 100 4 32 (Tryz.t100.zero.getD undef) := ⟨rfl, ⟨_, rfl, rfl, rfl, rfl⟩, rfl⟩ -- [][4]uint64
theorem ct35 : CellT Tryz.prog 35 := ⟨⟨_, rfl, rfl⟩, rfl⟩
theorem sl35 : SlT Tryz.prog 35 41 1 24 (.slice none 0 0) := ⟨rfl, ⟨_, rfl, rfl, rfl, rfl⟩, rfl⟩ -- [][]int
theorem ct36 : CellT Tryz.prog 36 := ⟨⟨_, rfl, rfl⟩, rfl⟩
theorem sl36 : SlT Tryz.prog 36 4 1 1 (.bool false) := ⟨rfl, ⟨_, rfl, rfl, rfl, rfl⟩, rfl⟩ -- []bool
theorem ag38 : AggT Tryz.prog 38 3 := ⟨⟨_, rfl, rfl⟩, rfl⟩
theorem fl38_0 : FieldT Tryz.prog 38 0 0 34 1 := ⟨⟨_, _, rfl, rfl, rfl, rfl⟩, rfl, Nat.noConfusion⟩ -- Cells
theorem fl38_1 : FieldT Tryz.prog 38 1 1 35 1 := ⟨⟨_, _, rfl, rfl, rfl, rfl⟩, rfl, Nat.noConfusion⟩ -- Next
theorem fl38_2 : FieldT Tryz.prog 38 2 2 36 1 := ⟨⟨_, _, rfl, rfl, rfl, rfl⟩, rfl, Nat.noConfusion⟩ -- Final
theorem ar40 : ArrT Tryz.prog 40 256 3 1 := ⟨rfl, rfl⟩
theorem ag40 : AggT Tryz.prog 40 256 := ⟨⟨_, rfl, rfl⟩, rfl⟩
theorem ct41 : CellT Tryz.prog 41 := ⟨⟨_, rfl, rfl⟩, rfl⟩
theorem sl41 : SlT Tryz.prog 41 3 1 8 (.int .i64 0) := ⟨rfl, ⟨_, rfl, rfl, rfl, rfl⟩, rfl⟩ -- []int
theorem ag43 : AggT Tryz.prog 43 259 := ⟨⟨_, rfl, rfl⟩, rfl⟩
theorem fl43_0 : FieldT Tryz.prog 43 0 0 40 256 := ⟨⟨_, _, rfl, rfl, rfl, rfl⟩, rfl, Nat.noConfusion⟩ -- Cell
theorem fl43_1 : FieldT Tryz.prog 43 1 256 41 1 := ⟨⟨_, _, rfl, rfl, rfl, rfl⟩, rfl, Nat.noConfusion⟩ -- Reps
theorem fl43_2 : FieldT Tryz.prog 43 2 257 35 1 := ⟨⟨_, _, rfl, rfl, rfl, rfl⟩, rfl, Nat.noConfusion⟩ -- Next
theorem fl43_3 : FieldT Tryz.prog 43 3 258 36 1 := ⟨⟨_, _, rfl, rfl, rfl, rfl⟩, rfl, Nat.noConfusion⟩ -- Final
theorem fl64_0 : FieldT Tryz.prog 64 0 0 28 1 := ⟨⟨_, _, rfl, rfl, rfl, rfl⟩, rfl, Nat.noConfusion⟩ -- A
theorem fl64_1 : FieldT Tryz.prog 64 1 1 28 1 := ⟨⟨_, _, rfl, rfl, rfl, rfl⟩, rfl, Nat.noConfusion⟩ -- B
theorem fl65_0 : FieldT Tryz.prog 65 0 0 28 1 := ⟨⟨_, _, rfl, rfl, rfl, rfl⟩, rfl, Nat.noConfusion⟩ -- A
theorem fl65_1 : FieldT Tryz.prog 65 1 1 28 1 := ⟨⟨_, _, rfl, rfl, rfl, rfl⟩, rfl, Nat.noConfusion⟩ -- B
theorem ct74 : CellT Tryz.prog 74 := ⟨⟨_, rfl, rfl⟩, rfl⟩
theorem sl74 : SlT Tryz.prog 74 174 7 56 (Tryz.t174.zero.getD undef) := ⟨rfl, ⟨_, rfl, rfl, rfl, rfl⟩, rfl⟩ -- []nfa.Edge
theorem ag76 : AggT Tryz.prog 76 4 := ⟨⟨_, rfl, rfl⟩, rfl⟩
theorem fl76_0 : FieldT Tryz.prog 76 0 0 3 1 := ⟨⟨_, _, rfl, rfl, rfl, rfl⟩, rfl, Nat.noConfusion⟩ -- States
theorem fl76_1 : FieldT Tryz.prog 76 1 1 3 1 := ⟨⟨_, _, rfl, rfl, rfl, rfl⟩, rfl, Nat.noConfusion⟩ -- Start
theorem fl76_2 : FieldT Tryz.prog 76 2 2 3 1 := ⟨⟨_, _, rfl, rfl, rfl, rfl⟩, rfl, Nat.noConfusion⟩ -- End
theorem fl76_3 : FieldT Tryz.prog 76 3 3 74 1 := ⟨⟨_, _, rfl, rfl, rfl, rfl⟩, rfl, Nat.noConfusion⟩ -- Edges
theorem ct99 : CellT Tryz.prog 99 := ⟨⟨_, rfl, rfl⟩, rfl⟩
theorem ar100 : ArrT Tryz.prog 100 4 99 1 := ⟨rfl, rfl⟩
theorem ag100 : AggT Tryz.prog 100 4 := ⟨⟨_, rfl, rfl⟩, rfl⟩
theorem ar101 : ArrT Tryz.prog 101 4 99 1 := ⟨rfl, rfl⟩
theorem ag101 : AggT Tryz.prog 101 4 := ⟨⟨_, rfl, rfl⟩, rfl⟩
theorem ag104 : AggT Tryz.prog 104 4 := ⟨⟨_, rfl, rfl⟩, rfl⟩
theorem fl104_0 : FieldT Tryz.prog 104 0 0 101 4 := ⟨⟨_, _, rfl, rfl, rfl, rfl⟩, rfl, Nat.noConfusion⟩ -- Set
theorem fl105_0 : FieldT Tryz.prog 105 0 0 28 1 := ⟨⟨_, _, rfl, rfl, rfl, rfl⟩, rfl, Nat.noConfusion⟩ -- A
theorem fl105_1 : FieldT Tryz.prog 105 1 1 28 1 := ⟨⟨_, _, rfl, rfl, rfl, rfl⟩, rfl, Nat.noConfusion⟩ -- B
theorem ct106 : CellT Tryz.prog 106 := ⟨⟨_, rfl, rfl⟩, rfl⟩
theorem sl106 : SlT Tryz.prog 106 101 4 32 (Tryz.t101.zero.getD undef) := ⟨rfl, ⟨_, rfl, rfl, rfl, rfl⟩, rfl⟩ -- []class.Set
theorem ar107 : ArrT Tryz.prog 107 256 5 1 := ⟨rfl, rfl⟩
theorem fl109_0 : FieldT Tryz.prog 109 0 0 106 1 := ⟨⟨_, _, rfl, rfl, rfl, rfl⟩, rfl, Nat.noConfusion⟩ -- cells
theorem fl109_1 : FieldT Tryz.prog 109 1 1 107 256 := ⟨⟨_, _, rfl, rfl, rfl, rfl⟩, rfl, Nat.noConfusion⟩ -- cell
theorem fl109_2 : FieldT Tryz.prog 109 2 257 35 1 := ⟨⟨_, _, rfl, rfl, rfl, rfl⟩, rfl, Nat.noConfusion⟩ -- next
theorem fl109_3 : FieldT Tryz.prog 109 3 258 36 1 := ⟨⟨_, _, rfl, rfl, rfl, rfl⟩, rfl, Nat.noConfusion⟩ -- final
theorem fl109_4 : FieldT Tryz.prog 109 4 259 36 1 := ⟨⟨_, _, rfl, rfl, rfl, rfl⟩, rfl, Nat.noConfusion⟩ -- alive
theorem sl117 : SlT Tryz.prog 117 157 256 256 (Tryz.t157.zero.getD undef) := ⟨rfl, ⟨_, rfl, rfl, rfl, rfl⟩, rfl⟩ -- []louperef01.Set
theorem ct120 : CellT Tryz.prog 120 := ⟨⟨_, rfl, rfl⟩, rfl⟩
theorem ct124 : CellT Tryz.prog 124 := ⟨⟨_, rfl, rfl⟩, rfl⟩
theorem sl124 : SlT Tryz.prog 124 129 2 16 (Tryz.t129.zero.getD undef) := ⟨rfl, ⟨_, rfl, rfl, rfl, rfl⟩, rfl⟩ -- [][2]int
theorem ar125 : ArrT Tryz.prog 125 1024 41 1 := ⟨rfl, rfl⟩
theorem fl127_0 : FieldT Tryz.prog 127 0 0 124 1 := ⟨⟨_, _, rfl, rfl, rfl, rfl⟩, rfl, Nat.noConfusion⟩ -- list
theorem fl127_1 : FieldT Tryz.prog 127 1 1 125 1024 := ⟨⟨_, _, rfl, rfl, rfl, rfl⟩, rfl, Nat.noConfusion⟩ -- bucket
theorem ar129 : ArrT Tryz.prog 129 2 3 1 := ⟨rfl, rfl⟩
theorem ar157 : ArrT Tryz.prog 157 256 4 1 := ⟨rfl, rfl⟩
theorem ag157 : AggT Tryz.prog 157 256 := ⟨⟨_, rfl, rfl⟩, rfl⟩
theorem ct168 : CellT Tryz.prog 168 := ⟨⟨_, rfl, rfl⟩, rfl⟩
theorem ct170 : CellT Tryz.prog 170 := ⟨⟨_, rfl, rfl⟩, rfl⟩
theorem sl170 : SlT Tryz.prog 170 74 1 24 (.slice none 0 0) := ⟨rfl, ⟨_, rfl, rfl, rfl, rfl⟩, rfl⟩ -- [][]nfa.Edge
theorem fl172_0 : FieldT Tryz.prog 172 0 0 35 1 := ⟨⟨_, _, rfl, rfl, rfl, rfl⟩, rfl, Nat.noConfusion⟩ -- silent
theorem fl172_1 : FieldT Tryz.prog 172 1 1 170 1 := ⟨⟨_, _, rfl, rfl, rfl, rfl⟩, rfl, Nat.noConfusion⟩ -- taking
theorem fl172_2 : FieldT Tryz.prog 172 2 2 3 1 := ⟨⟨_, _, rfl, rfl, rfl, rfl⟩, rfl, Nat.noConfusion⟩ -- states
theorem ag174 : AggT Tryz.prog 174 7 := ⟨⟨_, rfl, rfl⟩, rfl⟩
theorem fl174_0 : FieldT Tryz.prog 174 0 0 3 1 := ⟨⟨_, _, rfl, rfl, rfl, rfl⟩, rfl, Nat.noConfusion⟩ -- From
theorem fl174_1 : FieldT Tryz.prog 174 1 1 3 1 := ⟨⟨_, _, rfl, rfl, rfl, rfl⟩, rfl, Nat.noConfusion⟩ -- To
theorem fl174_2 : FieldT Tryz.prog 174 2 2 4 1 := ⟨⟨_, _, rfl, rfl, rfl, rfl⟩, rfl, Nat.noConfusion⟩ -- Silent
theorem fl174_3 : FieldT Tryz.prog 174 3 3 101 4 := ⟨⟨_, _, rfl, rfl, rfl, rfl⟩, rfl, Nat.noConfusion⟩ -- Set
theorem sl201 : SlT Tryz.prog 201 5 1 1 (.int .u8 0) := ⟨rfl, ⟨_, rfl, rfl, rfl, rfl⟩, rfl⟩ -- []uint8
theorem fl216_0 : FieldT Tryz.prog 216 0 0 3 1 := ⟨⟨_, _, rfl, rfl, rfl, rfl⟩, rfl, Nat.noConfusion⟩ -- budget
theorem fl216_1 : FieldT Tryz.prog 216 1 1 3 1 := ⟨⟨_, _, rfl, rfl, rfl, rfl⟩, rfl, Nat.noConfusion⟩ -- most
theorem ag224 : AggT Tryz.prog 224 2 := ⟨⟨_, rfl, rfl⟩, rfl⟩
theorem fl224_0 : FieldT Tryz.prog 224 0 0 3 1 := ⟨⟨_, _, rfl, rfl, rfl, rfl⟩, rfl, Nat.noConfusion⟩ -- a
theorem fl224_1 : FieldT Tryz.prog 224 1 1 3 1 := ⟨⟨_, _, rfl, rfl, rfl, rfl⟩, rfl, Nat.noConfusion⟩ -- b
theorem fl246_0 : FieldT Tryz.prog 246 0 0 76 4 := ⟨⟨_, _, rfl, rfl, rfl, rfl⟩, rfl, Nat.noConfusion⟩ -- Nfa
theorem fl246_2 : FieldT Tryz.prog 246 2 5 24 1 := ⟨⟨_, _, rfl, rfl, rfl, rfl⟩, rfl, Nat.noConfusion⟩ -- err
theorem ct256 : CellT Tryz.prog 256 := ⟨⟨_, rfl, rfl⟩, rfl⟩
theorem ct257 : CellT Tryz.prog 257 := ⟨⟨_, rfl, rfl⟩, rfl⟩
theorem sl257 : SlT Tryz.prog 257 9 1 16 (Tryz.t9.zero.getD undef) := ⟨rfl, ⟨_, rfl, rfl, rfl, rfl⟩, rfl⟩ -- []string
theorem fl259_0 : FieldT Tryz.prog 259 0 0 256 1 := ⟨⟨_, _, rfl, rfl, rfl, rfl⟩, rfl, Nat.noConfusion⟩ -- number
theorem fl259_1 : FieldT Tryz.prog 259 1 1 257 1 := ⟨⟨_, _, rfl, rfl, rfl, rfl⟩, rfl, Nat.noConfusion⟩ -- found
theorem fl259_2 : FieldT Tryz.prog 259 2 2 3 1 := ⟨⟨_, _, rfl, rfl, rfl, rfl⟩, rfl, Nat.noConfusion⟩ -- most
theorem ar263 : ArrT Tryz.prog 263 2 101 4 := ⟨rfl, rfl⟩
theorem ct298 : CellT Tryz.prog 298 := ⟨⟨_, rfl, rfl⟩, rfl⟩
theorem ct299 : CellT Tryz.prog 299 := ⟨⟨_, rfl, rfl⟩, rfl⟩
theorem sl299 : SlT Tryz.prog 299 224 2 16 (Tryz.t224.zero.getD undef) := ⟨rfl, ⟨_, rfl, rfl, rfl, rfl⟩, rfl⟩ -- []lang.pair
theorem fl301_0 : FieldT Tryz.prog 301 0 0 298 1 := ⟨⟨_, _, rfl, rfl, rfl, rfl⟩, rfl, Nat.noConfusion⟩ -- number
theorem fl301_1 : FieldT Tryz.prog 301 1 1 299 1 := ⟨⟨_, _, rfl, rfl, rfl, rfl⟩, rfl, Nat.noConfusion⟩ -- found
theorem fl301_2 : FieldT Tryz.prog 301 2 2 3 1 := ⟨⟨_, _, rfl, rfl, rfl, rfl⟩, rfl, Nat.noConfusion⟩ -- most
theorem fl305_0 : FieldT Tryz.prog 305 0 0 28 1 := ⟨⟨_, _, rfl, rfl, rfl, rfl⟩, rfl, Nat.noConfusion⟩ -- A
theorem fl305_1 : FieldT Tryz.prog 305 1 1 28 1 := ⟨⟨_, _, rfl, rfl, rfl, rfl⟩, rfl, Nat.noConfusion⟩ -- B
theorem fl310_0 : FieldT Tryz.prog 310 0 0 28 1 := ⟨⟨_, _, rfl, rfl, rfl, rfl⟩, rfl, Nat.noConfusion⟩ -- A
end Go.Proofs.YtfbghcpdinlmcaaGreatDoor
/- What the functions of package class compute: sets of bytes as 256 bits. -/
set_option linter.unusedVariables false
set_option linter.unusedSimpArgs false
set_option maxRecDepth 100000
namespace Go.Proofs.YtfbghcpdinlmcaaGreatDoor
open Go.VC

/-- Word i of a set. -/
def wd (s : BitVec 256) (i : Nat) : Nat := (s.toNat / 2 ^ (64 * i)) % 2 ^ 64
def setV (s : BitVec 256) : Value := .agg #[.int .u64 (wd s 0), .int .u64 (wd s 1), .int .u64 (wd s 2), .int .u64 (wd s 3)]
def setL (s : BitVec 256) : List Value := [.int .u64 (wd s 0), .int .u64 (wd s 1), .int .u64 (wd s 2), .int .u64 (wd s 3)]
theorem wd_lt (s : BitVec 256) (i : Nat) : wd s i < 2 ^ 64 := Nat.mod_lt _ (by decide)
theorem wd_in (s : BitVec 256) (i : Nat) : inK .u64 (wd s i : Int) := by
  have := wd_lt s i
  refine ⟨?_, ?_⟩ <;> simp only [IntKind.min, IntKind.max, IntKind.signed, IntKind.bits] <;> simp <;> omega
theorem wd_bit (s : BitVec 256) (i j : Nat) (hj : j < 64) : (wd s i).testBit j = s.getLsbD (64 * i + j) := by
  unfold wd
  rw [Nat.testBit_mod_two_pow, Nat.testBit_div_two_pow, BitVec.testBit_toNat]
  simp [hj]; congr 1; omega
theorem wd_inj {s t : BitVec 256} (h : ∀ i, i < 4 → wd s i = wd t i) : s = t := by
  apply BitVec.eq_of_getLsbD_eq
  intro k hk
  have h1 := wd_bit s (k / 64) (k % 64) (Nat.mod_lt _ (by decide))
  have h2 := wd_bit t (k / 64) (k % 64) (Nat.mod_lt _ (by decide))
  rw [show 64 * (k / 64) + k % 64 = k by omega] at h1 h2
  rw [← h1, ← h2, h _ (by omega)]
theorem setV_inj {s t : BitVec 256} (h : setV s = setV t) : s = t := by
  unfold setV at h
  simp only [Value.agg.injEq, Array.mk.injEq, List.cons.injEq, Value.int.injEq, true_and, and_true, Int.natCast_inj] at h
  apply wd_inj
  intro i hi
  match i, hi with
  | 0, _ => exact h.1
  | 1, _ => exact h.2.1
  | 2, _ => exact h.2.2.1
  | 3, _ => exact h.2.2.2

theorem has_c (s : BitVec 256) (b : Nat) (hb : b < 256) (H : Heap) : Pure Tryz.prog 92 #[setV s, .int .u8 b] H (.bool (s.getLsbD b)) := by
  refine FnOk.of_vc Tryz.func92 rfl (Tryz.call92 _) ?_
  (conv => whnf)
  refine vbox (setL s) rfl ?_
  intro p H1 hp hs1 hb1 ha1
  (conv => whnf); refine vshr (b := 6) (by decide) ?_
  (conv => whnf); refine ixa ar101 (by omega) (by omega) ?_
  (conv => whnf); refine ld1 ct99 (v := .int .u64 (wd s (b / 64))) ?_ trivial ?_
  · rw [hb1.cell]
    have : b / 2 ^ 6 < 4 := by omega
    rw [show b / 64 = b / 2 ^ 6 by omega]
    generalize b / 2 ^ 6 = q at this
    match q, this with
    | 0, _ => rfl
    | 1, _ => rfl
    | 2, _ => rfl
    | 3, _ => rfl
  (conv => whnf); refine vand (b := 63) ⟨by simp [IntKind.min, IntKind.signed], by simp [IntKind.max, IntKind.signed, IntKind.bits]; omega⟩ ⟨by decide, by decide⟩ ?_
  (conv => whnf); refine vshr (Nat.le_trans Nat.and_le_right (by decide)) ?_
  (conv => whnf); refine vand (b := 1) (inK_le (wd_in s _) (Nat.div_le_self _ _)) ⟨by decide, by decide⟩ ?_
  (conv => whnf)
  refine ⟨?_, by rw [← hp]; exact ha1⟩
  congr 1
  have e1 : b &&& 63 = b % 64 := by rw [show (63 : Nat) = 2 ^ 6 - 1 by decide, Nat.and_two_pow_sub_one_eq_mod]
  have h1 := wd_bit s (b / 64) (b % 64) (Nat.mod_lt _ (by decide))
  rw [show 64 * (b / 64) + b % 64 = b by omega] at h1
  rw [e1, ← h1, Nat.testBit_eq_decide_div_mod_eq, Nat.and_one_is_mod]
  have := Nat.mod_two_eq_zero_or_one (wd s (b / 64) / 2 ^ (b % 64))
  rcases this with h | h <;> simp [h]

/-- The four loads and bit operations of Meet, Union. -/
theorem wd_and (a b : BitVec 256) (i : Nat) : wd (a &&& b) i = wd a i &&& wd b i := by
  apply Nat.eq_of_testBit_eq
  intro j
  rw [Nat.testBit_and]
  by_cases hj : j < 64
  · rw [wd_bit _ _ _ hj, wd_bit _ _ _ hj, wd_bit _ _ _ hj, BitVec.getLsbD_and]
  · rw [Nat.testBit_lt_two_pow (Nat.lt_of_lt_of_le (wd_lt _ _) (Nat.pow_le_pow_right (by decide) (by omega))),
      Nat.testBit_lt_two_pow (x := wd a i) (Nat.lt_of_lt_of_le (wd_lt _ _) (Nat.pow_le_pow_right (by decide) (by omega)))]; rfl
theorem wd_or (a b : BitVec 256) (i : Nat) : wd (a ||| b) i = wd a i ||| wd b i := by
  apply Nat.eq_of_testBit_eq
  intro j
  rw [Nat.testBit_or]
  by_cases hj : j < 64
  · rw [wd_bit _ _ _ hj, wd_bit _ _ _ hj, wd_bit _ _ _ hj, BitVec.getLsbD_or]
  · rw [Nat.testBit_lt_two_pow (Nat.lt_of_lt_of_le (wd_lt _ _) (Nat.pow_le_pow_right (by decide) (by omega))),
      Nat.testBit_lt_two_pow (x := wd a i) (Nat.lt_of_lt_of_le (wd_lt _ _) (Nat.pow_le_pow_right (by decide) (by omega))),
      Nat.testBit_lt_two_pow (x := wd b i) (Nat.lt_of_lt_of_le (wd_lt _ _) (Nat.pow_le_pow_right (by decide) (by omega)))]; rfl

theorem meet_c (a b : BitVec 256) (H : Heap) : Pure Tryz.prog 144 #[setV a, setV b] H (setV (a &&& b)) := by
  refine FnOk.of_vc Tryz.func144 rfl (Tryz.call144 _) ?_
  (conv => whnf); refine vbox (setL a) rfl ?_
  intro p H1 hp hs1 hb1 ha1
  (conv => whnf); refine vbox (setL b) rfl ?_
  intro q H2 hq hs2 hb2 ha2
  (conv => whnf); refine valloc (setV 0) (setL 0) rfl rfl ?_
  intro r H3 hr hs3 hb3 ha3
  replace hb1 := (hb1.agr ha2 (show p < q by omega)).agr ha3 (show p < r by omega)
  replace hb2 := hb2.agr ha3 (show q < r by omega)
  (conv => whnf); refine ixa ar101 (by decide) (by decide) ?_
  (conv => whnf); refine ld1 ct99 ((hb1.cell _).trans rfl) trivial ?_
  (conv => whnf); refine ixa ar101 (by decide) (by decide) ?_
  (conv => whnf); refine ld1 ct99 ((hb2.cell _).trans rfl) trivial ?_
  (conv => whnf); refine vand (wd_in a _) (wd_in b _) ?_
  (conv => whnf); refine ixa ar101 (by decide) (by decide) ?_
  (conv => whnf); refine ld1 ct99 ((hb1.cell _).trans rfl) trivial ?_
  (conv => whnf); refine ixa ar101 (by decide) (by decide) ?_
  (conv => whnf); refine ld1 ct99 ((hb2.cell _).trans rfl) trivial ?_
  (conv => whnf); refine vand (wd_in a _) (wd_in b _) ?_
  (conv => whnf); refine ixa ar101 (by decide) (by decide) ?_
  (conv => whnf); refine ld1 ct99 ((hb1.cell _).trans rfl) trivial ?_
  (conv => whnf); refine ixa ar101 (by decide) (by decide) ?_
  (conv => whnf); refine ld1 ct99 ((hb2.cell _).trans rfl) trivial ?_
  (conv => whnf); refine vand (wd_in a _) (wd_in b _) ?_
  (conv => whnf); refine ixa ar101 (by decide) (by decide) ?_
  (conv => whnf); refine ld1 ct99 ((hb1.cell _).trans rfl) trivial ?_
  (conv => whnf); refine ixa ar101 (by decide) (by decide) ?_
  (conv => whnf); refine ld1 ct99 ((hb2.cell _).trans rfl) trivial ?_
  (conv => whnf); refine vand (wd_in a _) (wd_in b _) ?_
  (conv => whnf); refine vbuildA ar101 (setV 0) rfl [Value.int .u64 ((wd a 0 &&& wd b 0 : Nat) : Int), Value.int .u64 ((wd a 1 &&& wd b 1 : Nat) : Int), Value.int .u64 ((wd a 2 &&& wd b 2 : Nat) : Int), Value.int .u64 ((wd a 3 &&& wd b 3 : Nat) : Int)] rfl ?_
  (conv => whnf); refine stN rfl hb3 (show 0 + 4 ≤ 4 by decide) rfl ?_
  intro H4 hb4 ha4 hs4
  (conv => whnf); refine ldN (cs := [Value.int .u64 ((wd a 0 &&& wd b 0 : Nat) : Int), Value.int .u64 ((wd a 1 &&& wd b 1 : Nat) : Int), Value.int .u64 ((wd a 2 &&& wd b 2 : Nat) : Int), Value.int .u64 ((wd a 3 &&& wd b 3 : Nat) : Int)]) ag101 (hb4.cells (fun j v hv => by simpa [splice, setL] using hv)) trivial ?_
  refine ⟨?_, ?_⟩
  · unfold setV; rw [wd_and, wd_and, wd_and, wd_and]
  · intro k hk; rw [ha4 k (by omega), ha3 k (by omega), ha2 k (by omega), ha1 k (by omega)]

theorem union_c (a b : BitVec 256) (H : Heap) : Pure Tryz.prog 162 #[setV a, setV b] H (setV (a ||| b)) := by
  refine FnOk.of_vc Tryz.func162 rfl (Tryz.call162 _) ?_
  (conv => whnf); refine vbox (setL a) rfl ?_
  intro p H1 hp hs1 hb1 ha1
  (conv => whnf); refine vbox (setL b) rfl ?_
  intro q H2 hq hs2 hb2 ha2
  (conv => whnf); refine valloc (setV 0) (setL 0) rfl rfl ?_
  intro r H3 hr hs3 hb3 ha3
  replace hb1 := (hb1.agr ha2 (show p < q by omega)).agr ha3 (show p < r by omega)
  replace hb2 := hb2.agr ha3 (show q < r by omega)
  (conv => whnf); refine ixa ar101 (by decide) (by decide) ?_
  (conv => whnf); refine ld1 ct99 ((hb1.cell _).trans rfl) trivial ?_
  (conv => whnf); refine ixa ar101 (by decide) (by decide) ?_
  (conv => whnf); refine ld1 ct99 ((hb2.cell _).trans rfl) trivial ?_
  (conv => whnf); refine vor (wd_in a _) (wd_in b _) ?_
  (conv => whnf); refine ixa ar101 (by decide) (by decide) ?_
  (conv => whnf); refine ld1 ct99 ((hb1.cell _).trans rfl) trivial ?_
  (conv => whnf); refine ixa ar101 (by decide) (by decide) ?_
  (conv => whnf); refine ld1 ct99 ((hb2.cell _).trans rfl) trivial ?_
  (conv => whnf); refine vor (wd_in a _) (wd_in b _) ?_
  (conv => whnf); refine ixa ar101 (by decide) (by decide) ?_
  (conv => whnf); refine ld1 ct99 ((hb1.cell _).trans rfl) trivial ?_
  (conv => whnf); refine ixa ar101 (by decide) (by decide) ?_
  (conv => whnf); refine ld1 ct99 ((hb2.cell _).trans rfl) trivial ?_
  (conv => whnf); refine vor (wd_in a _) (wd_in b _) ?_
  (conv => whnf); refine ixa ar101 (by decide) (by decide) ?_
  (conv => whnf); refine ld1 ct99 ((hb1.cell _).trans rfl) trivial ?_
  (conv => whnf); refine ixa ar101 (by decide) (by decide) ?_
  (conv => whnf); refine ld1 ct99 ((hb2.cell _).trans rfl) trivial ?_
  (conv => whnf); refine vor (wd_in a _) (wd_in b _) ?_
  (conv => whnf); refine vbuildA ar101 (setV 0) rfl [Value.int .u64 ((wd a 0 ||| wd b 0 : Nat) : Int), Value.int .u64 ((wd a 1 ||| wd b 1 : Nat) : Int), Value.int .u64 ((wd a 2 ||| wd b 2 : Nat) : Int), Value.int .u64 ((wd a 3 ||| wd b 3 : Nat) : Int)] rfl ?_
  (conv => whnf); refine stN rfl hb3 (show 0 + 4 ≤ 4 by decide) rfl ?_
  intro H4 hb4 ha4 hs4
  (conv => whnf); refine ldN (cs := [Value.int .u64 ((wd a 0 ||| wd b 0 : Nat) : Int), Value.int .u64 ((wd a 1 ||| wd b 1 : Nat) : Int), Value.int .u64 ((wd a 2 ||| wd b 2 : Nat) : Int), Value.int .u64 ((wd a 3 ||| wd b 3 : Nat) : Int)]) ag101 (hb4.cells (fun j v hv => by simpa [splice, setL] using hv)) trivial ?_
  refine ⟨?_, ?_⟩
  · unfold setV; rw [wd_or, wd_or, wd_or, wd_or]
  · intro k hk; rw [ha4 k (by omega), ha3 k (by omega), ha2 k (by omega), ha1 k (by omega)]

theorem and63 (b : Nat) : b &&& 63 = b % 64 := by rw [show (63 : Nat) = 2 ^ 6 - 1 by decide, Nat.and_two_pow_sub_one_eq_mod]
theorem setL_get (s : BitVec 256) (b : Nat) (hb : b < 256) : (setL s)[b / 2 ^ 6]? = some (.int .u64 (wd s (b / 64))) := by
  have : b / 2 ^ 6 < 4 := by omega
  rw [show b / 64 = b / 2 ^ 6 by omega]
  generalize b / 2 ^ 6 = q at this
  match q, this with
  | 0, _ => rfl
  | 1, _ => rfl
  | 2, _ => rfl
  | 3, _ => rfl
theorem wd_put (s : BitVec 256) (b i : Nat) (hb : b < 256) : wd (s ||| BitVec.twoPow 256 b) i = if i = b / 64 then wd s i ||| 2 ^ (b % 64) else wd s i := by
  apply Nat.eq_of_testBit_eq
  intro j
  by_cases hj : j < 64
  · rw [wd_bit _ _ _ hj, BitVec.getLsbD_or, BitVec.getLsbD_twoPow]
    by_cases hi : i = b / 64
    · rw [if_pos hi, Nat.testBit_or, wd_bit _ _ _ hj, Nat.testBit_two_pow]
      congr 1
      by_cases h : b % 64 = j
      · have : b = 64 * i + j := by omega
        simp [h, ← this, hb]
      · have : ¬ b = 64 * i + j := by omega
        simp [h, this]
    · rw [if_neg hi, wd_bit _ _ _ hj]
      have : ¬ b = 64 * i + j := by omega
      simp [this]
  · have hbig : 2 ^ 64 ≤ 2 ^ j := Nat.pow_le_pow_right (by decide) (by omega)
    rw [Nat.testBit_lt_two_pow (Nat.lt_of_lt_of_le (wd_lt _ _) hbig)]
    split
    · rw [Nat.testBit_or, Nat.testBit_lt_two_pow (Nat.lt_of_lt_of_le (wd_lt _ _) hbig), Nat.testBit_two_pow]
      simp; omega
    · rw [Nat.testBit_lt_two_pow (Nat.lt_of_lt_of_le (wd_lt _ _) hbig)]
theorem setL_put (s : BitVec 256) (b : Nat) (hb : b < 256) : (setL s).set (b / 64) (.int .u64 ((wd s (b / 64) ||| 2 ^ (b % 64) : Nat) : Int)) = setL (s ||| BitVec.twoPow 256 b) := by
  have h : b / 64 < 4 := by omega
  unfold setL
  rw [wd_put s b 0 hb, wd_put s b 1 hb, wd_put s b 2 hb, wd_put s b 3 hb]
  generalize b / 64 = q at h
  match q, h with
  | 0, _ => rfl
  | 1, _ => rfl
  | 2, _ => rfl
  | 3, _ => rfl

theorem span_c (lo hi : Nat) (hlo : lo < 256) (hhi : hi < 256) (H : Heap) : FnOk Tryz.prog 124 #[.int .u8 lo, .int .u8 hi] H fun v H' =>
    (∃ s, v = setV s ∧ ∀ b, b < 256 → s.getLsbD b = (decide (lo ≤ b) && decide (b ≤ hi))) ∧ Agr (Old H) H H' := by
  refine FnOk.of_vc Tryz.func124 rfl (Tryz.call124 _) ?_
  (conv => whnf); refine valloc (setV 0) (setL 0) rfl rfl ?_
  intro r H1 hr hs1 hb1 ha1
  (conv => whnf); refine valloc (setV 0) (setL 0) rfl rfl ?_
  intro p H2 hp hs2 hb2 ha2
  replace hb1 := hb1.agr ha2 (show r < p by omega)
  (conv => whnf); rw [w64 (x := (lo : Int)) (by omega) (by omega)]
  refine VLoop.mk [6] (fun b : Nat => [.int .i64 b]) (fun b H3 => lo ≤ b ∧ (b ≤ hi + 1 ∨ b = lo) ∧ Agr (fun k => k ≠ p) H2 H3 ∧ H3.size = H2.size ∧ ∃ s : BitVec 256, Blk H3 p 101 (setL s) ∧ ∀ c, c < 256 → s.getLsbD c = (decide (lo ≤ c) && decide (c < b))) (fun b _ => 256 - b) ?_ ?_
  · (conv => whnf)
    exact ⟨lo, rfl, by omega, by omega, Agr.refl _ _, rfl, 0, hb2, fun c hc => by simp⟩
  · rintro b H3 junk ⟨h1, h2, ha3, hs3, s, hb3, hs⟩
    (conv => whnf); rw [w64 (x := (hi : Int)) (by omega) (by omega)]
    refine VIte.mk (fun h => ?_) (fun h => ?_) <;> simp only [decide_eq_true_eq, decide_eq_false_iff_not] at h
    · (conv => whnf)
      refine VDraw.tail 9 (sq [0,1,2,3,4,5,6,7,8] (.f 9 .e)) rfl (by kernel_rfl) ?_
      (conv => whnf); refine vshr (b := 6) (by decide) ?_
      (conv => whnf); refine ixa ar101 (by omega) (by omega) ?_
      (conv => whnf); refine ld1 ct99 (v := .int .u64 (wd s (b / 64))) (by rw [hb3.cell, Nat.zero_add, Nat.mul_one]; exact setL_get s b (by omega)) trivial ?_
      (conv => whnf); refine vand (b := 63) (inI64 (by omega)) (inI64 (by decide)) ?_
      have hpow : 2 ^ (b % 64) < 2 ^ 64 := Nat.pow_lt_pow_right (by decide) (by omega)
      rw [and63]
      have hin : inK .u64 ((1 * 2 ^ (b % 64) : Nat) : Int) := inU64 (by omega)
      (conv => whnf); refine vshl (a := 1) (by simp [IntKind.bits]; omega) hin ?_
      (conv => whnf); refine vor (wd_in s _) hin ?_
      (conv => whnf); refine ixa ar101 (by omega) (by omega) ?_
      (conv => whnf); refine st1 ct99 hb3 (by simp [setL]; omega) rfl ?_
      intro H4 hb4 ha4 hs4
      (conv => whnf); rw [w64 (x := (b : Int) + 1) (by omega) (by omega)]
      refine ⟨rfl, b + 1, by simp, ⟨by omega, by omega, ha3.trans ha4, by omega, s ||| BitVec.twoPow 256 b, ?_, fun c hc => ?_⟩, by omega⟩
      · rw [Nat.zero_add, Nat.mul_one, Nat.one_mul] at hb4
        rw [← setL_put s b (by omega)]
        exact hb4
      · rw [BitVec.getLsbD_or, hs c hc, BitVec.getLsbD_twoPow]
        by_cases hbc : b = c
        · subst hbc; simp [hc, h1]
        · have : (decide (c < b + 1)) = decide (c < b) := by simp; omega
          simp [hbc, this]
    · (conv => whnf)
      refine ldN (cs := setL s) ag101 (hb3.cells (fun j v hv => by simpa using hv)) trivial ?_
      (conv => whnf); refine stN rfl (hb1.agr ha3 (show r ≠ p by omega)) (show 0 + 4 ≤ 4 by decide) rfl ?_
      intro H4 hb4 ha4 hs4
      (conv => whnf); refine ldN (cs := setL s) ag101 (hb4.cells (fun j v hv => by simpa [splice, setL] using hv)) trivial ?_
      refine ⟨⟨s, rfl, fun c hc => ?_⟩, fun k hk => ?_⟩
      · rw [hs c hc]
        rcases h2 with h2 | h2
        · have : (decide (c < b)) = decide (c ≤ hi) := by simp; omega
          rw [this]
        · subst h2
          by_cases hcl : b ≤ c
          · simp [show ¬ c < b by omega, show ¬ c ≤ hi by omega]
          · simp [hcl]
      · unfold Old at hk
        rw [ha4 k (by omega), ha3 k (by omega), ha2 k (by omega), ha1 k (by omega)]

/-! ### sets as data, and their equality -/
def tSet : Ty (BitVec 256) where
  size := 4
  rep _ _ cs s := cs = setL s
  len h := by rw [h]; rfl
  frame h _ := h
  mono h _ := h
def setLits (s : BitVec 256) : List Lit := [.int .u64 (wd s 0), .int .u64 (wd s 1), .int .u64 (wd s 2), .int .u64 (wd s 3)]
theorem setLits_inj (a b : BitVec 256) : decide (a = b) = true ↔ setLits a = setLits b := by
  rw [decide_eq_true_eq]
  constructor
  · rintro rfl; rfl
  · intro h
    unfold setLits at h
    simp only [List.cons.injEq, Lit.int.injEq, true_and, and_true, Int.natCast_inj] at h
    apply wd_inj
    intro i hi
    match i, hi with
    | 0, _ => exact h.1
    | 1, _ => exact h.2.1
    | 2, _ => exact h.2.2.1
    | 3, _ => exact h.2.2.2
theorem set_wf (s : BitVec 256) (i : Nat) : (Lit.int .u64 (wd s i)).wf = true := by
  have := wd_in s i
  unfold Lit.wf
  simp only [Bool.and_eq_true, decide_eq_true_eq]
  exact this
theorem set_lits (s : BitVec 256) : Tryz.prog.keyLits 2 101 (setL s) = some (setLits s) := by
  have c1 : Tryz.prog.cellsOf 101 = 4 := rfl
  have c2 : Tryz.prog.cellsOf 99 = 1 := rfl
  simp [Program.keyLits, Tryz.underlying101, Tryz.underlying99, c1, c2, setL, setLits, set_wf, List.range, List.range.loop]
theorem set_neq (a b : BitVec 256) {x y : Operand} {S : Nat → Prop} {H : Heap} {K : Value → Prop} (k : K (.bool (!decide (a = b)))) :
    VDet Tryz.prog (do eqGuard .neq 101 x y (setV a) (setV b); binOp .neq 101 (setV a) (setV b)) S H K :=
  vneq (m := 2) (la := setLits a) (lb := setLits b) rfl (by decide) (Tryz.eqGuardType101) rfl rfl (set_lits a) (set_lits b) (setLits_inj a b) k


def spanS (lo hi : Nat) : BitVec 256 := BitVec.ofNat 256 ((2 ^ (hi + 1 - lo) - 1) <<< lo)
theorem spanS_bit (lo hi b : Nat) (hb : b < 256) : (spanS lo hi).getLsbD b = (decide (lo ≤ b) && decide (b ≤ hi)) := by
  unfold spanS
  rw [BitVec.getLsbD_ofNat, Nat.testBit_shiftLeft, Nat.testBit_two_pow_sub_one]
  by_cases h : lo ≤ b
  · simp only [hb, decide_true, Bool.true_and, h, ge_iff_le]
    congr 1
    rw [eq_iff_iff]; omega
  · simp [h]
theorem span_p (lo hi : Nat) (hlo : lo < 256) (hhi : hi < 256) (H : Heap) : Pure Tryz.prog 124 #[.int .u8 lo, .int .u8 hi] H (setV (spanS lo hi)) := by
  refine (span_c lo hi hlo hhi H).mono ?_
  rintro v H' ⟨⟨s, rfl, hs⟩, ha⟩
  refine ⟨?_, ha⟩
  congr 1
  apply BitVec.eq_of_getLsbD_eq
  intro b hb
  rw [hs b hb, spanS_bit lo hi b hb]
theorem spanS_full : spanS 0 255 = BitVec.allOnes 256 := by
  apply BitVec.eq_of_getLsbD_eq
  intro b hb
  rw [spanS_bit 0 255 b hb, BitVec.getLsbD_allOnes]
  simp [hb]; omega

end Go.Proofs.YtfbghcpdinlmcaaGreatDoor
/- Nondeterministic automata, plain: what silent edges reach, what a text reaches. -/
set_option linter.unusedVariables false
set_option linter.unusedSimpArgs false
namespace Go.Proofs.YtfbghcpdinlmcaaGreatDoor
open Go.VC
structure EdM where
  fr : Int
  to : Int
  sil : Bool
  set : BitVec 256
structure NfM where
  st : Int
  start : Int
  fin : Int
  edges : List EdM
def NfM.has (a : NfM) (q : Int) : Bool := decide (0 ≤ q) && decide (q < a.st) && decide (a.st ≤ 65536)
theorem NfM.has_iff {a : NfM} {q : Int} : a.has q = true ↔ 0 ≤ q ∧ q < a.st ∧ a.st ≤ 65536 := by
  unfold NfM.has
  simp only [Bool.and_eq_true, decide_eq_true_eq, and_assoc]
/-- What silent edges reach. -/
inductive Sils (a : NfM) : Int → Int → Prop
  | refl (p : Int) : Sils a p p
  | step {p : Int} {e : EdM} : Sils a p e.fr → e ∈ a.edges → e.sil = true → a.has e.to = true → Sils a p e.to
abbrev PS := Int → Prop
def clS (a : NfM) (X : PS) : PS := fun q => ∃ p, X p ∧ Sils a p q
def begS (a : NfM) : PS := clS a fun q => q = a.start ∧ a.has a.start = true
def hopS (a : NfM) (X : PS) (b : Nat) : PS := fun q => ∃ e ∈ a.edges, e.sil = false ∧ e.set.getLsbD b = true ∧ X e.fr ∧ a.has e.to = true ∧ q = e.to
def goS (a : NfM) (X : PS) (b : Nat) : PS := clS a (hopS a X b)
/-- Closed under silent edges. -/
def Shut_ (a : NfM) (X : PS) : Prop := ∀ e ∈ a.edges, e.sil = true → a.has e.to = true → X e.fr → X e.to
theorem clS_in {a : NfM} {X : PS} {q : Int} (h : X q) : clS a X q := ⟨q, h, .refl q⟩
theorem clS_shut (a : NfM) (X : PS) : Shut_ a (clS a X) := fun e h1 h2 h3 ⟨p, hp, hs⟩ => ⟨p, hp, .step hs h1 h2 h3⟩
theorem clS_least {a : NfM} {X Y : PS} (h : ∀ q, X q → Y q) (hs : Shut_ a Y) : ∀ q, clS a X q → Y q := by
  rintro q ⟨p, hp, hq⟩
  induction hq with
  | refl => exact h _ hp
  | step _ h1 h2 h3 ih => exact hs _ h1 h2 h3 ih
theorem clS_has {a : NfM} {X : PS} (h : ∀ q, X q → a.has q = true) : ∀ q, clS a X q → a.has q = true := clS_least h fun e _ _ h3 _ => h3
theorem begS_has (a : NfM) : ∀ q, begS a q → a.has q = true := clS_has fun q ⟨e, h⟩ => e ▸ h
theorem goS_has (a : NfM) (X : PS) (b : Nat) : ∀ q, goS a X b q → a.has q = true := clS_has fun q ⟨e, _, _, _, _, h, hq⟩ => hq ▸ h
/-! ### sorted lists -/
theorem srt_uniq : ∀ {l m : List Int}, l.Pairwise (· < ·) → m.Pairwise (· < ·) → (∀ q, q ∈ l ↔ q ∈ m) → l = m
  | [], [], _, _, _ => rfl
  | [], y :: m, _, _, h => by have := (h y).2 (by simp); cases this
  | x :: l, [], _, _, h => by have := (h x).1 (by simp); cases this
  | x :: l, y :: m, hl, hm, h => by
    obtain ⟨h1, h2⟩ := List.pairwise_cons.1 hl
    obtain ⟨k1, k2⟩ := List.pairwise_cons.1 hm
    have hxy : x = y := by
      have hx := (h x).1 (by simp)
      have hy := (h y).2 (by simp)
      rcases List.mem_cons.1 hx with e | hx
      · exact e
      · rcases List.mem_cons.1 hy with e | hy
        · exact e.symm
        · have := h1 y hy; have := k1 x hx; omega
    subst hxy
    congr 1
    refine srt_uniq h2 k2 fun q => ⟨fun hq => ?_, fun hq => ?_⟩
    · rcases List.mem_cons.1 ((h q).1 (by simp [hq])) with e | h3
      · have := h1 q hq; omega
      · exact h3
    · rcases List.mem_cons.1 ((h q).2 (by simp [hq])) with e | h3
      · have := k1 q hq; omega
      · exact h3
open Classical in
/-- The list of a set of states, rising. -/
noncomputable def lstS (X : PS) : List Int := ((List.range 65536).map fun (n : Nat) => (n : Int)).filter fun q => decide (X q)
theorem lstS_srt (X : PS) : (lstS X).Pairwise (· < ·) := by
  unfold lstS
  refine List.Pairwise.filter _ ?_
  rw [List.pairwise_map]
  exact List.pairwise_lt_range.imp fun h => by omega
open Classical in
theorem lstS_mem {X : PS} (h : ∀ q, X q → 0 ≤ q ∧ q < 65536) (q : Int) : q ∈ lstS X ↔ X q := by
  unfold lstS
  rw [List.mem_filter, decide_eq_true_eq, List.mem_map]
  constructor
  · exact fun ⟨_, hx⟩ => hx
  · intro hx
    obtain ⟨h1, h2⟩ := h q hx
    exact ⟨⟨q.toNat, List.mem_range.2 (by omega), by omega⟩, hx⟩
theorem lstS_uniq {X : PS} {l : List Int} (h : ∀ q, X q → 0 ≤ q ∧ q < 65536) (hs : l.Pairwise (· < ·)) (hm : ∀ q, q ∈ l ↔ X q) : l = lstS X :=
  srt_uniq hs (lstS_srt X) fun q => (hm q).trans (lstS_mem h q).symm
theorem lstS_len (X : PS) : (lstS X).length ≤ 65536 := by
  unfold lstS
  exact Nat.le_trans (List.length_filter_le _ _) (by simp)
theorem has_rng {a : NfM} {X : PS} (h : ∀ q, X q → a.has q = true) : ∀ q, X q → 0 ≤ q ∧ q < 65536 := fun q hq => by
  have := NfM.has_iff.1 (h q hq); omega
/-! ### a text of two parts -/
/-! ### turned round -/
/-- A way through the automaton that reads a text. -/
inductive Way (a : NfM) : Int → List Nat → Int → Prop
  | nil {p : Int} : a.has p = true → Way a p [] p
  | sil {e : EdM} {s : List Nat} {q : Int} : e ∈ a.edges → e.sil = true → a.has e.fr = true → Way a e.to s q → Way a e.fr s q
  | hop {e : EdM} {b : Nat} {s : List Nat} {q : Int} : e ∈ a.edges → e.sil = false → e.set.getLsbD b = true → a.has e.fr = true → Way a e.to s q → Way a e.fr (b :: s) q
end Go.Proofs.YtfbghcpdinlmcaaGreatDoor
/- Sets of bytes as 256 bools: From and Words. -/
set_option linter.unusedVariables false
set_option linter.unusedSimpArgs false
set_option maxRecDepth 100000
namespace Go.Proofs.YtfbghcpdinlmcaaGreatDoor
open Go.VC
def bitsTo (x : BitVec 256) (k : Nat) : List Value := (List.range 256).map fun b => .bool (decide (b < k) && x.getLsbD b)
def bitsL (x : BitVec 256) : List Value := bitsTo x 256
theorem bitsTo_len (x : BitVec 256) (k : Nat) : (bitsTo x k).length = 256 := by simp [bitsTo]
theorem bitsTo_get (x : BitVec 256) (k : Nat) {b : Nat} (h : b < 256) : (bitsTo x k)[b]? = some (.bool (decide (b < k) && x.getLsbD b)) := by
  unfold bitsTo
  rw [List.getElem?_map, List.getElem?_range h]; rfl
theorem bitsL_get (x : BitVec 256) {b : Nat} (h : b < 256) : (bitsL x)[b]? = some (.bool (x.getLsbD b)) := by
  unfold bitsL
  rw [bitsTo_get x 256 h]; simp [h]
theorem bitsTo_set (x : BitVec 256) {k : Nat} (h : k < 256) : (bitsTo x k).set k (.bool (x.getLsbD k)) = bitsTo x (k + 1) := by
  apply List.ext_getElem?
  intro i
  by_cases hi : i < 256
  · rw [bitsTo_get _ _ hi, List.getElem?_set, bitsTo_len]
    by_cases hik : k = i
    · subst hik; simp [h]
    · rw [if_neg hik, bitsTo_get _ _ hi]
      have : decide (i < k) = decide (i < k + 1) := decide_eq_decide.2 (by omega)
      rw [this]
  · rw [List.getElem?_eq_none (by simp [bitsTo_len]; omega), List.getElem?_eq_none (by simp [bitsTo_len]; omega)]
theorem bitsTo_zero (x : BitVec 256) : bitsTo x 0 = List.replicate 256 (.bool false) := by
  unfold bitsTo
  simp [List.map_const']
def tB : Ty (BitVec 256) where
  size := 256
  rep _ _ cs s := cs = bitsL s
  len h := by rw [h]; exact bitsTo_len _ _
  frame h _ := h
  mono h _ := h
theorem bits_ones (x : BitVec 256) (k : Nat) : (bitsTo x k).all (·.oneCell') = true := by
  simp [bitsTo, Value.oneCell']
theorem tB_ones : tB.Ones := by
  rintro S H cs x rfl u hu
  exact List.all_eq_true.1 (bits_ones x 256) u hu
theorem word_bit (x : BitVec 256) (b : Nat) (hb : b < 256) : ((((wd x (b / 64) / 2 ^ (b % 64) % 2 : Nat) : Int) == (1 : Int))) = x.getLsbD b := by
  have h1 := wd_bit x (b / 64) (b % 64) (Nat.mod_lt _ (by decide))
  rw [show 64 * (b / 64) + b % 64 = b by omega] at h1
  rw [← h1, Nat.testBit_eq_decide_div_mod_eq]
  have := Nat.mod_two_eq_zero_or_one (wd x (b / 64) / 2 ^ (b % 64))
  rcases this with h | h <;> simp [h]

theorem from_p (x : BitVec 256) (H : Heap) : Pure Tryz.prog 119 #[.agg (setL x).toArray] H (.agg (bitsL x).toArray) := by
  refine FnOk.of_vc Tryz.func119 rfl (Tryz.call119 _) ?_
  (conv => whnf); refine vbox (setL x) rfl ?_
  intro p1 H1 hp1 hs1 hb1 ha1
  (conv => whnf); refine valloc _ (List.replicate 256 (.bool false)) rfl rfl ?_
  intro p2 H2 hp2 hs2 hb2 ha2
  (conv => whnf); refine valloc _ (List.replicate 256 (.bool false)) rfl rfl ?_
  intro p3 H3 hp3 hs3 hb3 ha3
  (conv => whnf)
  refine VLoop.mk [4] (fun k : Nat => [.int .i64 k]) (fun k H4 => k ≤ 256 ∧ Agr (fun j => j < p3) H3 H4 ∧ H4.size = H3.size ∧ Blk H4 p3 157 (bitsTo x k)) (fun k _ => 256 - k) ?_ ?_
  · (conv => whnf)
    exact ⟨0, rfl, by omega, Agr.refl _ _, rfl, by rw [bitsTo_zero]; exact hb3⟩
  · rintro k H4 junk ⟨hk, ha4, hs4, hb4⟩
    have hb1' := ((hb1.agr ha2 (show p1 < p2 by omega)).agr ha3 (show p1 < p3 by omega)).agr ha4 (show p1 < p3 by omega)
    (conv => whnf); refine VIte.mk (fun h => ?_) (fun h => ?_) <;> simp only [decide_eq_true_eq, decide_eq_false_iff_not] at h
    · have hk6 : k / 64 < 4 := by omega
      (conv => whnf); refine vquo (b := 64) (by decide) (inI64 (by omega)) ?_
      (conv => whnf); refine ixa ar100 (by omega) (by omega) ?_
      (conv => whnf); refine ld1 (v := .int .u64 (wd x (k / 64))) ct99 ?_ trivial ?_
      · rw [hb1'.cell, show 0 + (((k / 64 : Nat) : Int)).toNat * 1 = k / 64 by omega]
        have := setL_get x k (by omega)
        rwa [show k / 2 ^ 6 = k / 64 by rfl] at this
      (conv => whnf); refine vrem (b := 64) (by decide) ?_
      (conv => whnf); rw [wrap_in (k := .u64) (inU64 (x := k % 64) (by omega))]
      (conv => whnf); refine vshr (k := .u64) (b := k % 64) (by show k % 64 ≤ 64; omega) ?_
      (conv => whnf); refine vrem (k := .u64) (b := 2) (by decide) ?_
      (conv => whnf); refine ixa ar157 (by omega) (by omega) ?_
      rw [word_bit x k (by omega)]
      (conv => whnf); refine st1 ct4 hb4 (by rw [bitsTo_len]; omega) rfl ?_
      intro H5 hb5 ha5 hs5
      rw [show 0 + ((k : Nat) : Int).toNat * 1 = k by omega, bitsTo_set x (by omega)] at hb5
      (conv => whnf); rw [w64 (x := (k : Int) + 1) (by omega) (by omega)]
      exact ⟨rfl, k + 1, by simp, ⟨by omega, ha4.trans (ha5.mono fun j hj => by omega), by omega, hb5⟩, by omega⟩
    · obtain rfl : k = 256 := by omega
      (conv => whnf); refine ldN (cs := bitsL x) (by rw [show (bitsL x).length = 256 from bitsTo_len _ _]; exact ag157) (hb4.cells fun j v hv => by rw [Nat.zero_add]; exact hv) trivial ?_
      (conv => whnf); refine VC.stN (cs := bitsL x) (by rw [show (bitsL x).length = 256 from bitsTo_len _ _]; rfl) ((hb2.agr ha3 (show p2 < p3 by omega)).agr ha4 (show p2 < p3 by omega)) (by rw [show (bitsL x).length = 256 from bitsTo_len _ _]; simp) (bits_ones x 256) ?_
      intro H6 hb6 ha6 hs6
      have hsp : splice (List.replicate 256 (.bool false)) 0 (bitsL x) = bitsL x := by
        unfold splice
        rw [show (bitsL x).length = 256 from bitsTo_len _ _]
        simp
      rw [hsp] at hb6
      (conv => whnf); refine ldN (cs := bitsL x) (by rw [show (bitsL x).length = 256 from bitsTo_len _ _]; exact ag157) (hb6.cells fun j v hv => by rw [Nat.zero_add]; exact hv) trivial ?_
      exact ⟨rfl, (((ha1.mono fun j hj => by omega).trans (ha2.mono fun j hj => by omega)).trans (ha3.mono fun j hj => by omega)).trans ((ha4.mono fun j hj => by omega).trans (ha6.mono fun j hj => by omega))⟩

/-! ### sets as functions -/
def funL (f : Nat → Bool) : List Value := (List.range 256).map fun b => .bool (f b)
theorem funL_len (f : Nat → Bool) : (funL f).length = 256 := by simp [funL]
theorem funL_get (f : Nat → Bool) {b : Nat} (h : b < 256) : (funL f)[b]? = some (.bool (f b)) := by
  unfold funL
  rw [List.getElem?_map, List.getElem?_range h]; rfl
theorem funL_set (f : Nat → Bool) {k : Nat} (h : k < 256) : (funL f).set k (.bool true) = funL fun b => decide (b = k) || f b := by
  apply List.ext_getElem?
  intro i
  by_cases hi : i < 256
  · rw [funL_get _ hi, List.getElem?_set, funL_len]
    by_cases hik : k = i
    · subst hik; simp [h]
    · rw [if_neg hik, funL_get _ hi, decide_eq_false (Ne.symm hik)]; rfl
  · rw [List.getElem?_eq_none (by simp [funL_len]; omega), List.getElem?_eq_none (by simp [funL_len]; omega)]
theorem funL_zero : funL (fun _ => false) = List.replicate 256 (.bool false) := by
  unfold funL
  rw [List.map_const', List.length_range]
def tF : Ty (Nat → Bool) where
  size := 256
  rep _ _ cs f := cs = funL f
  len h := by rw [h]; exact funL_len _
  frame h _ := h
  mono h _ := h
theorem splice_all {l c : List Value} (h : c.length = l.length) : splice l 0 c = c := by
  unfold splice
  rw [List.take_zero, List.nil_append, Nat.zero_add, h, List.drop_length, List.append_nil]

/-! ### Words -/
end Go.Proofs.YtfbghcpdinlmcaaGreatDoor
/- A piece split in two; a map of slices that is only read from now on; keys that are texts. -/
set_option linter.unusedVariables false
set_option linter.unusedSimpArgs false
namespace Go.VC
section
variable {B : Nat → Prop} {H0 H : Heap} {ps : List Pc} {p : Pc}
theorem StB.apart2 (st : StB B H0 H ps) {i j : Nat} {q : Pc} (hp : ps[i]? = some p) (hq : ps[j]? = some q) (hij : i ≠ j) : Dis p q := by
  have hil := (List.getElem?_eq_some_iff.1 hp).1
  have hjl := (List.getElem?_eq_some_iff.1 hq).1
  have e1 := (List.getElem?_eq_some_iff.1 hp).2
  have e2 := (List.getElem?_eq_some_iff.1 hq).2
  intro k hk hk'
  rcases Nat.lt_or_gt_of_ne hij with h | h
  · exact List.pairwise_iff_getElem.1 st.dis i j hil hjl h k (by rw [e1]; exact hk) (by rw [e2]; exact hk')
  · exact List.pairwise_iff_getElem.1 st.dis j i hjl hil h k (by rw [e2]; exact hk') (by rw [e1]; exact hk)
end
section
variable {α β : Type} {Ok : α → Prop} {enc : α → Value} {T : Ty β} {e : TypeId} {b : Nat} {m : α → Option Value} {xs : α → List β} {B : Nat → Prop} {H0 H : Heap} {ps : List Pc}
end
/-- Every key. -/
abbrev anyK {α : Type} (_ : α) : Prop := True
theorem KeyW.ofE {P : Program} {kt : TypeId} {d : TypeDesc} {α : Type} {enc : α → Value} (hd : P.underlying kt = some d) (hk : KeyE d enc) : KeyW P kt anyK enc where
  inj := hk.inj
  check w em a _ := Go.MapKept.run_checkKey hd (hk.isKey a) em 9999
  find w a _ es hes := by
    have hall : ∀ x ∈ es, Go.MapKept.IsKey d x.key := fun x hx => by
      obtain ⟨b, -, e⟩ := hes x hx
      rw [e]; exact hk.isKey b
    rcases Go.MapKept.findNow_spec (hk.isKey a) es 0 hall with ⟨h1, h2⟩ | ⟨j, e, h1, h2, h3⟩
    · exact .inl ⟨Go.MapKept.run_findKey hd h1, h2⟩
    · exact .inr ⟨j, e, by rw [Nat.zero_add] at h1; exact Go.MapKept.run_findKey hd h1, h2, h3⟩
  stays w a _ := Go.MapKept.run_keyThatStays (hk.isKey a)
end Go.VC
/- Taking a map's slice out, and laying it again by an update. -/
set_option linter.unusedVariables false
set_option linter.unusedSimpArgs false
namespace Go.VC
section
variable {α β : Type} {Ok : α → Prop} {enc : α → Value} {T : Ty β} {e : TypeId} {b : Nat} {m : α → Option Value} {xs : α → List β} {B : Nat → Prop} {H0 H H' : Heap} {ps : List Pc} {P : Program} {t kt et : TypeId} {a : α}
end
end Go.VC
/- Nondeterministic automata in memory. -/
set_option linter.unusedVariables false
set_option linter.unusedSimpArgs false
set_option maxRecDepth 100000
namespace Go.Proofs.YtfbghcpdinlmcaaGreatDoor
open Go.VC
/-- An edge of the program's. -/
def edL (e : EdM) : List Value := [.int .i64 e.fr, .int .i64 e.to, .bool e.sil, .int .u64 (wd e.set 0), .int .u64 (wd e.set 1), .int .u64 (wd e.set 2), .int .u64 (wd e.set 3)]
theorem edL_set (e : EdM) : ∀ (j : Nat) (v : Value), (setL e.set)[j]? = some v → (edL e)[3 + j]? = some v := by
  intro j v h
  rw [show 3 + j = j + 3 by omega]
  exact h
def EdM.Ok (e : EdM) : Prop := inK .i64 e.fr ∧ inK .i64 e.to
def tEd : Ty EdM where
  size := 7
  rep _ _ cs e := cs = edL e ∧ e.Ok
  len h := by rw [h.1]; rfl
  frame h _ := h
  mono h _ := h
theorem ed_ones (e : EdM) : (edL e).all (·.oneCell') = true := rfl
def NfM.Rng (a : NfM) : Prop := inK .i64 a.st ∧ inK .i64 a.start ∧ inK .i64 a.fin
def nfL (a : NfM) (v : Value) : List Value := [.int .i64 a.st, .int .i64 a.start, .int .i64 a.fin, v]
/-- An automaton of the program's, to be read. -/
def NfV (S : Nat → Prop) (H : Heap) (v : Value) (a : NfM) : Prop := a.Rng ∧ a.edges.length ≤ 1048576 ∧ ∃ ea ec, v = .agg (nfL a (.slice ea a.edges.length ec)).toArray ∧ SlD tEd S H ea ec a.edges
section
variable {S S' : Nat → Prop} {H H' : Heap} {v : Value} {a : NfM}
end
theorem edge_z : (Tryz.prog.info? 174).bind (·.zero) = some (.agg #[.int .i64 0, .int .i64 0, .bool false, .int .u64 0, .int .u64 0, .int .u64 0, .int .u64 0]) := rfl
theorem nfa_z : (Tryz.prog.info? 76).bind (·.zero) = some (.agg #[.int .i64 0, .int .i64 0, .int .i64 0, .slice none 0 0]) := rfl
/-- Boxing an automaton, and reading it. -/
theorem nf_box {S : Nat → Prop} {H : Heap} {v : Value} {a : NfM} {K : Value → Heap → Prop} {t : TypeId} (h : NfV S H v a)
    (k : ∀ ea ec, v = .agg (nfL a (.slice ea a.edges.length ec)).toArray → SlD tEd S H ea ec a.edges → New H (fun b H' => K (.pointer (some ⟨b, 0, none⟩)) H') t (nfL a (.slice ea a.edges.length ec))) : VEff Tryz.prog (Instr.box t v) H K := by
  obtain ⟨hr, hl, ea, ec, rfl, h1⟩ := h
  exact vbox (nfL a (.slice ea a.edges.length ec)) rfl (k ea ec rfl h1)
theorem nf_load {S S0 : Nat → Prop} {H : Heap} {a : NfM} {pb : Nat} {ea : Option Addr} {ec : Nat} {K : Value → Prop} {t : TypeId} (hr : a.Rng) (hl : a.edges.length ≤ 1048576) (hb : Blk H pb t (nfL a (.slice ea a.edges.length ec))) (hag : AggT Tryz.prog t 4) (hS : S0 pb) (h1 : SlD tEd S H ea ec a.edges)
    (k : ∀ v, NfV S H v a → K v) : VDet Tryz.prog (Instr.loadAt t (.pointer (some ⟨pb, 0, none⟩))) S0 H K :=
  ldN (cs := nfL a (.slice ea a.edges.length ec)) hag (hb.cells fun j v hv => by rw [Nat.zero_add]; exact hv) hS (k _ ⟨hr, hl, ea, ec, rfl, h1⟩)
/-! ### has -/
end Go.Proofs.YtfbghcpdinlmcaaGreatDoor
/- Regions whose order is open, with operations under conditions. -/
set_option linter.unusedVariables false
set_option linter.unusedSimpArgs false
namespace Go.VC
/-- An operation's condition: what is asked where it is wanted, and where it isn't. -/
def whenK (all : List Oper) (o : Oper) (fr : Fr) (yes no : Fr → Prop) : Prop :=
  match o.guard with
  | none => yes fr
  | some (j, want) => match (all[j]?).bind (·.dst) with
    | none => False
    | some t => rdK fr t fun v => match v with
      | .bool b => VIte b
        (wrK fr t (.bool true) fun fr1 => match want with
          | true => yes fr1
          | false => no fr1)
        (wrK fr t (.bool false) fun fr1 => match want with
          | false => yes fr1
          | true => no fr1)
      | .tuple _ => no fr
      | _ => False
theorem whenK_sound {all : List Oper} {o : Oper} {fr : Fr} {a : Act} {yes no : Fr → Prop} (hat : At fr a) (h : whenK all o fr yes no) :
    (Region.wanted o (yielded all.toArray a.tmps) = true ∧ yes fr) ∨ (Region.wanted o (yielded all.toArray a.tmps) = false ∧ no fr) := by
  unfold whenK at h
  split at h
  · rename_i hg
    exact .inl ⟨by simp [Region.wanted, hg], h⟩
  · rename_i j want hg
    split at h
    · exact h.elim
    · rename_i t ht
      rw [rdK_eq] at h
      split at h
      · rename_i b hb
        have hy := yielded_at hat ht hb
        have hs : fr.set t (.bool b) = fr := rd_set_self hb (by simp [undef])
        cases b <;> cases want <;> simp only [VIte, wrK_eq, hs] at h
        · exact .inl ⟨by simp [Region.wanted, hg, hy], h⟩
        · exact .inr ⟨by simp [Region.wanted, hg, hy], h⟩
        · exact .inr ⟨by simp [Region.wanted, hg, hy], h⟩
        · exact .inl ⟨by simp [Region.wanted, hg, hy], h⟩
      · rename_i vs hb
        exact .inr ⟨by simp [Region.wanted, hg, yielded_no hat ht hb], h⟩
      · exact h.elim
def skipG (o : Oper) (H : Heap) (K : Fr → Heap → Prop) (fr : Fr) : Prop := putK o.dst fr undef fun fr' => apK K fr' H
def quietG (P : Program) (S : Nat → Prop) (o : Oper) (H : Heap) (K : Fr → Heap → Prop) (fr : Fr) : Prop :=
  match isDet o && convDet P o with
  | true => detK P S o fr H fun v => putK o.dst fr v fun fr' => apK K fr' H
  | false => False
def doG (P : Program) (S : Nat → Prop) (z : Bool) (H0 : Heap) (o : Oper) (H : Heap) (K : Fr → Heap → Prop) (fr : Fr) : Prop :=
  match z with
  | true => opK P false (fun _ => True) o fr H fun v H' => putK o.dst fr v fun fr' => apK K fr' H'
  | false => opK P false (fun _ => True) o fr H fun v H' => Agr S H0 H' ∧ putK o.dst fr v fun fr' => apK K fr' H'
def stepG (P : Program) (S : Nat → Prop) (Z : List Nat) (H0 : Heap) (all : List Oper) (i : Nat) (fr : Fr) (H : Heap) (next : Fr → Heap → Prop) : Prop :=
  match all[i]? with
  | none => False
  | some o => whenK all o fr (doG P S (Z.contains i) H0 o H next) (skipG o H next)
theorem stepG_sound {P : Program} {S : Nat → Prop} {Z : List Nat} {w0 : World} {all : List Oper} {Q : Exit → Act → World → Prop} {i : Nat} {fr : Fr} {a : Act} {w : World} {next : Fr → Heap → Prop} {N : Act → World → Prop}
    (hat : At fr a) (hc : Env w0 w) (hcl : Z.contains i = false → Cls w0 S w) (h : stepG P S Z w0.heap all i fr w.heap next)
    (hn : ∀ fr' a' w', At fr' a' → Env w0 w' → (Z.contains i = false → Cls w0 S w') → next fr' w'.heap → N a' w') : wpOp P all.toArray Q i N a w := by
  unfold stepG at h
  split at h
  · exact h.elim
  · rename_i o ho
    have ho' : all.toArray[i]? = some o := by simpa using ho
    rcases whenK_sound hat h with ⟨hwant, h⟩ | ⟨hwant, h⟩
    · unfold wpOp
      rw [ho']
      dsimp only
      rw [if_pos hwant]
      unfold doG at h
      split at h
      · rename_i hz
        refine .inl (Oper.wp_mono ?_ (opK_sound hat h _))
        rintro a' w' ⟨v, rfl, henv, hk⟩
        rw [putK_eq] at hk
        exact hn _ _ _ (hat.put o.dst v) (hc.trans henv) (fun hne => by rw [hz] at hne; cases hne) hk
      · refine .inl (Oper.wp_mono ?_ (opK_sound hat h _))
        rintro a' w' ⟨v, rfl, henv, hagr, hk⟩
        rw [putK_eq] at hk
        exact hn _ _ _ (hat.put o.dst v) (hc.trans henv) (fun _ => ⟨hc.trans henv, hagr⟩) hk
    · unfold wpOp
      rw [ho']
      dsimp only
      rw [if_neg (by rw [hwant]; exact Bool.false_ne_true)]
      unfold skipG at h
      rw [putK_eq] at h
      exact hn _ _ _ (hat.put o.dst undef) hc hcl h
end Go.VC
/- The library's slices.Sort at []int, by the kit's shelf (laid by its tool); as an operation on own slices. -/
set_option linter.unusedVariables false
set_option linter.unusedSimpArgs false
set_option maxRecDepth 100000
namespace Go.VC
open Go.Sort
/-- A function that sorts ints. -/
structure SortsI (P : Program) (f : FuncId) : Prop where
  call : ∀ (args : Array Value) (w : World), (callFunc f args).run P w = .ok (.enter f args) w
  some_ : ∀ (blk off cap : Nat) (zs : List Int) (w : World), Holds (Value.int .i64) w blk off zs.toArray → blk < w.heap.size → zs.length < 4611686018427387904 →
    Calls P f #[.slice (some ⟨blk, off, none⟩) zs.length cap] w fun e w' => e = .returned (.tuple #[]) ∧ ∃ n os, w' = grow (putRow (Value.int .i64) (Sort.ahead w n) blk off (zs.mergeSort fun x y => decide (x ≤ y)).toArray) os
  none_ : ∀ (p : Option Addr) (cap : Nat) (w : World), Calls P f #[.slice p 0 cap] w fun e w' => e = .returned (.tuple #[]) ∧ w' = w
theorem reps_ints {S : Nat → Prop} {H : Heap} : ∀ {xs : List Int} {cs : List Value}, (tInt .i64).reps S H cs xs → cs = xs.map (Value.int .i64) ∧ ∀ x ∈ xs, inK .i64 x
  | [], _, h => by cases h; exact ⟨rfl, fun x hx => by cases hx⟩
  | x :: xs, _, h => by
    obtain ⟨c, r, rfl, ⟨rfl, h1⟩, h2⟩ := h
    obtain ⟨rfl, h3⟩ := reps_ints h2
    refine ⟨rfl, fun y hy => ?_⟩
    rcases List.mem_cons.1 hy with rfl | hy
    · exact h1
    · exact h3 y hy
theorem ints_reps {S : Nat → Prop} {H : Heap} : ∀ {xs : List Int}, (∀ x ∈ xs, inK .i64 x) → (tInt .i64).reps S H (xs.map (Value.int .i64)) xs
  | [], _ => rfl
  | x :: xs, h => ⟨[.int .i64 x], xs.map (Value.int .i64), rfl, ⟨rfl, h x (by simp)⟩, ints_reps fun y hy => h y (by simp [hy])⟩
theorem sortI {P : Program} {f : FuncId} {B : Nat → Prop} {H0 H : Heap} {ps : List Pc} {e : TypeId} {a : Option Addr} {n cap : Nat} {xs : List Int} {K : Value → Heap → Prop} (hf : SortsI P f) (st : StB B H0 H ps) (i : Nat) (hp : ps[i]? = some (pS (tInt .i64) e a n cap xs)) (hlen : xs.length < 4611686018427387904)
    (k : ∀ H', StB B H0 H' (ps.set i (pS (tInt .i64) e a n cap (xs.mergeSort fun x y => decide (x ≤ y)))) → K (.tuple #[]) H') : VCall P f #[.slice a n cap] H K := by
  obtain ⟨hown, -⟩ := st.at_ i hp
  obtain ⟨cs, ⟨hcl, hcase⟩, hreps⟩ := hown
  obtain ⟨rfl, hrng⟩ := reps_ints hreps
  refine ⟨fun w hw => ⟨hf.call _ w, ?_⟩⟩
  subst hw
  rcases hcase with ⟨he, hn0⟩ | ⟨b, c, l, he, -, hb, hnc, hcm, hll, htk⟩
  · injection he with e1 e2 e3
    subst e1; subst e2; subst e3
    obtain rfl := List.eq_nil_of_length_eq_zero hn0
    refine (hf.none_ none 0 w).mono ?_
    rintro _ _ ⟨rfl, rfl⟩
    exact ⟨_, rfl, Env.refl _, k _ (by rw [show ([] : List Int).mergeSort (fun x y => decide (x ≤ y)) = [] by simp]; exact st.say i hp _ (st.at_ i hp) (fun k hk => hk))⟩
  · injection he with e1 e2 e3
    subst e1; subst e2; subst e3
    rw [show xs.length * (tInt .i64).size = xs.length from Nat.mul_one _] at htk
    rw [show cap * (tInt .i64).size = cap from Nat.mul_one _] at hll
    have hbl := (Array.getElem?_eq_some_iff.1 hb).1
    have hsl : (xs.mergeSort fun x y => decide (x ≤ y)).length = xs.length := List.length_mergeSort _
    have hH : Holds (Value.int .i64) w b 0 xs.toArray := holds_of_blockI (e := e) (cur := l.toArray) hb (by simpa using htk)
    refine (hf.some_ b 0 cap xs w hH hbl hlen).mono ?_
    rintro _ w' ⟨rfl, n, os, rfl⟩
    have hbw := heap_sortedI (n := n) (os := os) (xs.mergeSort fun x y => decide (x ≤ y)).toArray hb
    obtain ⟨-, -, -, hsz, hoth⟩ := grownBy_sortedI (w := w) (g := b) (n := n) (os := os) (xs.mergeSort fun x y => decide (x ≤ y)).toArray
    refine ⟨_, rfl, ⟨rfl, rfl, rfl⟩, k _ (st.upd i hp (fun j hj => hoth j hj.1 fun e => ?_) _ ⟨⟨_, ⟨?_, .inr ⟨b, cap, (putCells (Value.int .i64) 0 (xs.mergeSort fun x y => decide (x ≤ y)).toArray l.toArray).toList, ?_, Nat.zero_le _, ?_, by omega, hcm, ?_, ?_⟩⟩, ints_reps fun x hx => hrng x (List.mem_mergeSort.1 hx)⟩, fun k hk => hk.elim⟩ (fun k hk => .inl hk) (fun k hk => ?_) hsz)⟩
    · cases e
      exact hj.2 (.inl ⟨0, _, _, rfl⟩)
    · rw [List.length_map]; exact (Nat.mul_one _).symm
    · rw [hsl]
    · show _ = _
      rw [hbw]
    · rw [Array.length_toList]
      unfold putCells
      rw [Array.size_mapIdx]
      simp only [List.size_toArray, hll]
      exact (Nat.mul_one _).symm
    · rw [show (xs.mergeSort fun x y => decide (x ≤ y)).length * (tInt .i64).size = (xs.mergeSort fun x y => decide (x ≤ y)).length from Nat.mul_one _]
      exact take_putCellsI l.toArray _ (by rw [hsl]; simpa [hll] using hnc)
    · have h1 := (st.in_ i hp hk).2
      exact Nat.lt_of_lt_of_le h1 hsz
end Go.VC
namespace Go.Proofs.YtfbghcpdinlmcaaGreatDoor
open Go.VC
def sort_ren : Go.Shelf.Ren := ⟨fun | 189 => 140 | 125 => 181 | 257 => 180 | 128 => 206 | 129 => 207 | 294 => 197 | 295 => 198 | 296 => 199 | 297 => 200 | 298 => 201 | 299 => 202 | 216 => 203 | 300 => 204 | 301 => 205 | 328 => 219 | 329 => 220 | 330 => 221 | 331 => 222 | 332 => 223 | 215 => 224 | 343 => 235 | n => n, fun | 28 => 41 | 3 => 3 | 46 => 218 | 0 => 0 | 51 => 332 | 53 => 99 | 4 => 4 | 183 => 325 | 182 => 324 | 131 => 260 | 5 => 5 | 9 => 9 | 218 => 344 | 222 => 348 | 228 => 359 | 229 => 247 | n => n, fun | n => n⟩
theorem lays189 : Go.Proofs.Lays.n189 Tryz.prog sort_ren := {
  mixed := by kernel_rfl
  f125 := Tryz.func181.trans (congrArg some (by kernel_rfl))
  f128 := Tryz.func206.trans (congrArg some (by kernel_rfl))
  f129 := Tryz.func207.trans (congrArg some (by kernel_rfl))
  f189 := Tryz.func140.trans (congrArg some (by kernel_rfl))
  f215 := Tryz.func224.trans (congrArg some (by kernel_rfl))
  f216 := Tryz.func203.trans (congrArg some (by kernel_rfl))
  f257 := Tryz.func180.trans (congrArg some (by kernel_rfl))
  f294 := Tryz.func197.trans (congrArg some (by kernel_rfl))
  f295 := Tryz.func198.trans (congrArg some (by kernel_rfl))
  f296 := Tryz.func199.trans (congrArg some (by kernel_rfl))
  f297 := Tryz.func200.trans (congrArg some (by kernel_rfl))
  f298 := Tryz.func201.trans (congrArg some (by kernel_rfl))
  f299 := Tryz.func202.trans (congrArg some (by kernel_rfl))
  f300 := Tryz.func204.trans (congrArg some (by kernel_rfl))
  f301 := Tryz.func205.trans (congrArg some (by kernel_rfl))
  f328 := Tryz.func219.trans (congrArg some (by kernel_rfl))
  f329 := Tryz.func220.trans (congrArg some (by kernel_rfl))
  f330 := Tryz.func221.trans (congrArg some (by kernel_rfl))
  f331 := Tryz.func222.trans (congrArg some (by kernel_rfl))
  f332 := Tryz.func223.trans (congrArg some (by kernel_rfl))
  f343 := Tryz.func235.trans (congrArg some (by kernel_rfl))
  t0 := Tryz.underlying0
  a0 := Tryz.isAgg0
  z0 := Tryz.sizeOf0
  v0 := Tryz.zeroValue0
  t3 := Tryz.underlying3
  a3 := Tryz.isAgg3
  z3 := Tryz.sizeOf3
  v3 := Tryz.zeroValue3
  t4 := Tryz.underlying4
  a4 := Tryz.isAgg4
  z4 := Tryz.sizeOf4
  v4 := Tryz.zeroValue4
  t5 := Tryz.underlying5
  a5 := Tryz.isAgg5
  z5 := Tryz.sizeOf5
  v5 := Tryz.zeroValue5
  t9 := Tryz.underlying9
  a9 := Tryz.isAgg9
  z9 := Tryz.sizeOf9
  v9 := Tryz.zeroValue9
  t28 := Tryz.underlying41
  a28 := Tryz.isAgg41
  z28 := Tryz.sizeOf41
  v28 := Tryz.zeroValue41
  t46 := Tryz.underlying218
  a46 := Tryz.isAgg218
  z46 := Tryz.sizeOf218
  v46 := Tryz.zeroValue218
  t51 := Tryz.underlying332
  a51 := Tryz.isAgg332
  z51 := Tryz.sizeOf332
  v51 := Tryz.zeroValue332
  t53 := Tryz.underlying99
  a53 := Tryz.isAgg99
  z53 := Tryz.sizeOf99
  v53 := Tryz.zeroValue99
  t131 := Tryz.underlying260
  a131 := Tryz.isAgg260
  z131 := Tryz.sizeOf260
  v131 := Tryz.zeroValue260
  t182 := Tryz.underlying324
  a182 := Tryz.isAgg324
  z182 := Tryz.sizeOf324
  v182 := Tryz.zeroValue324
  t183 := Tryz.underlying325
  a183 := Tryz.isAgg325
  z183 := Tryz.sizeOf325
  v183 := Tryz.zeroValue325
  t218 := Tryz.underlying344
  a218 := Tryz.isAgg344
  z218 := Tryz.sizeOf344
  v218 := Tryz.zeroValue344
  t222 := Tryz.underlying348
  a222 := Tryz.isAgg348
  z222 := Tryz.sizeOf348
  v222 := Tryz.zeroValue348
  t228 := Tryz.underlying359
  a228 := Tryz.isAgg359
  z228 := Tryz.sizeOf359
  v228 := Tryz.zeroValue359
  t229 := Tryz.underlying247
  a229 := Tryz.isAgg247
  z229 := Tryz.sizeOf247
  v229 := Tryz.zeroValue247 }
theorem sorts_ : SortsI Tryz.prog 140 where
  call := Tryz.call140
  some_ := fun blk off cap zs w hH hblk hsz => Any.slices_Sort_int lays189 blk off cap zs w hH hblk hsz
  none_ := fun p cap w => Any.slices_Sort_int_none lays189 p cap w
end Go.Proofs.YtfbghcpdinlmcaaGreatDoor
/- A range over a function: its rounds, and the code around it (the calculus once more, within a fence that holds everything). -/
set_option linter.unusedVariables false
set_option linter.unusedSimpArgs false
namespace Go.VC
/-- The fence that holds everything; ro: the round that the frame is of. -/
def FW (ro : Option Nat) : Fence := { Fence.wide with round := ro }
/-- The marks that loops over functions have left. -/
def marks (ds : List Nat) : List Deferred := ds.map fun D => { target := .collected D, args := #[] }
structure AtD (ds : List Nat) (fr : Fr) (a : Act) : Prop where
  tmps : a.tmps.toList = fr
  defers : a.defers = marks ds
/-! ### yield -/
/-- A call of yield. -/
structure VRound (P : Program) (l : Nat) (args : Array Value) (H : Heap) (K : Value → Heap → Prop) : Prop where
  in_ ::
  out_ : ∀ w : World, w.heap = H → ∃ f tmps assign body, (Instr.yield l args).run P w = .ok (.round l f tmps assign body) w ∧ RoundIn (FW none) 0 P l f tmps assign body w fun e w' => ∃ v, e = .returned v ∧ Env w w' ∧ K v w'.heap
/-- One operation; a call of yield is taken in, a deferred call is not. -/
def yK (P : Program) (o : Oper) (fr : Fr) (H : Heap) (K : Value → Heap → Prop) : Prop :=
  match o.op with
  | .call { callee := .value f, args, .. } => evK fr f fun g => match g with
    | .func (.yield l) first cap => evsK fr args.toList fun vs => VRound P l (first.toList ++ vs).toArray H K
    | _ => opK P false (fun _ => True) o fr H K
  | .defer _ => False
  | _ => opK P false (fun _ => True) o fr H K
/-- An operation under a condition. -/
def guardYK (P : Program) (o : Oper) (want : Bool) (t : Nat) (fr : Fr) (H : Heap) (K : Fr → Heap → Prop) : Prop :=
  rdK fr t fun v => match v with
    | .bool b => VIte b
      (wrK fr t (.bool true) fun fr1 => match want with
        | true => yK P o fr1 H fun v H' => putK o.dst fr1 v fun fr' => apK K fr' H'
        | false => putK o.dst fr1 undef fun fr' => apK K fr' H)
      (wrK fr t (.bool false) fun fr1 => match want with
        | false => yK P o fr1 H fun v H' => putK o.dst fr1 v fun fr' => apK K fr' H'
        | true => putK o.dst fr1 undef fun fr' => apK K fr' H)
    | .tuple _ => putK o.dst fr undef fun fr' => apK K fr' H
    | _ => False
/-! ### code -/
abbrev KD := Fr → List Nat → Heap → Prop
def LiftD (w0 : World) (Q : Exit → Fr → List Nat → Heap → Prop) : Exit → Act → World → Prop
  | .panic _, _, _ => False
  | .outgrown, _, _ => False
  | e, a, w => ∃ fr ds, AtD ds fr a ∧ Env w0 w ∧ Q e fr ds w.heap
def exitKD (X : List (Nat × KD)) (id : Nat) (fr : Fr) (ds : List Nat) (H : Heap) : Prop :=
  match X with
  | [] => False
  | (j, k) :: X => match Nat.beq j id with
    | true => k fr ds H
    | false => exitKD X id fr ds H
def QxD (kn : KD) (X : List (Nat × KD)) (kr : KD) (e : Exit) (fr : Fr) (ds : List Nat) (H : Heap) : Prop :=
  match e with
  | .normal => kn fr ds H
  | .exit id => exitKD X id fr ds H
  | .ret => kr fr ds H
  | _ => False
structure VLoopD (P : Program) (ro : Option Nat) (c : Code) (fr : Fr) (ds : List Nat) (H : Heap) (X : List (Nat × KD)) (kr : KD) : Prop where
  in_ ::
  out_ : ∀ (n : Nat) (a : Act) (w : World), AtD ds fr a → w.heap = H → (Code.loop c).wpIn (FW ro) n P (LiftD w (QxD (fun _ _ _ => False) X kr)) a w
/-- A range over a function. -/
structure VRF (P : Program) (g : Operand) (ps : Array Tmp) (assign body : Code) (fr : Fr) (ds : List Nat) (H : Heap) (kn : KD) (X : List (Nat × KD)) (kr : KD) : Prop where
  in_ ::
  out_ : ∀ (n : Nat) (a : Act) (w : World), AtD ds fr a → w.heap = H → (Code.rangeFunc g ps assign body).wpIn (FW none) n P (LiftD w (QxD kn X kr)) a w
section
variable (P : Program) (ro : Option Nat) (a b : Code) (fr : Fr) (ds : List Nat) (H : Heap) (kn : KD) (X : List (Nat × KD)) (kr : KD)
end
/-! ### loops -/
/-! ### functions -/
/-- A function's end: the marks are taken, then the results are read. -/
structure VRet (P : Program) (rs : List ResultVar) (R : Value → Heap → Prop) (fr : Fr) (ds : List Nat) (H : Heap) : Prop where
  in_ ::
  nd : ds.Nodup
  open_ : ∀ D ∈ ds, H[D]? = some (.deferred (some []))
  res : ∀ H', Agr (fun k => k ∉ ds) H H' → H'.size = H.size → resK P rs fr H' R
/-! ### the statement, and its rounds -/
end Go.VC
/- Appending to an own slice that is used on as it was; pieces in another order, bundled, put aside. -/
set_option linter.unusedVariables false
set_option linter.unusedSimpArgs false
namespace Go.VC
section
variable {B : Nat → Prop} {H0 H : Heap} {ps qs : List Pc} {p : Pc}
theorem StB.perm (st : StB B H0 H ps) (h : ps.Perm qs) : StB B H0 H qs :=
  ⟨st.old, st.lt0, st.size, fun p hp => st.oks p (h.mem_iff.2 hp), fun p hp => st.rng p (h.mem_iff.2 hp), (h.pairwise_iff fun {x y} hxy k hk hk' => hxy k hk' hk).1 st.dis⟩
theorem StB.sub (st : StB B H0 H ps) (h : qs.Sublist ps) : StB B H0 H qs :=
  ⟨st.old, st.lt0, st.size, fun p hp => st.oks p (h.subset hp), fun p hp => st.rng p (h.subset hp), st.dis.sublist h⟩
end
section
variable {α : Type} {T : Ty α} {e : TypeId} {a : Option Addr} {n cap : Nat} {xs : List α} {B : Nat → Prop} {H0 H : Heap} {p1 p2 : Pc} {rest : List Pc}
end
end Go.VC
/- slices.Sorted of maps.Keys of a map of ints: the walk. -/
set_option linter.unusedVariables false
set_option linter.unusedSimpArgs false
set_option maxRecDepth 100000
namespace Go.VC
section
variable {B : Nat → Prop} {H0 H : Heap} {ps rest : List Pc}
/-- Some of the first n pieces, in another order, and the others. -/
theorem StB.pickN (st : StB B H0 H ps) (n : Nat) (is : List Nat) (hn : is.Nodup) : StB B H0 H ((is.filterMap fun i => (ps.take n)[i]?) ++ ps.drop n) := by
  have e := List.take_append_drop n ps
  rw [← e] at st
  generalize ps.take n = qs at *
  generalize ps.drop n = rs at *
  obtain ⟨d1, d2, d3⟩ := List.pairwise_append.1 st.dis
  have st1 : StB B H0 H qs := st.sub (List.sublist_append_left _ _)
  have st2 := st1.pick is hn
  have hm : ∀ q, q ∈ is.filterMap (fun i => qs[i]?) → q ∈ qs := fun q hq => by
    obtain ⟨i, -, hi⟩ := List.mem_filterMap.1 hq
    exact List.mem_of_getElem? hi
  refine ⟨st.old, st.lt0, st.size, fun q hq => ?_, fun q hq k hk => ?_, List.pairwise_append.2 ⟨st2.dis, d2, fun q hq r hr => d3 q (hm q hq) r hr⟩⟩
  · rcases List.mem_append.1 hq with hq | hq
    · exact st2.oks q hq
    · exact st.oks q (List.mem_append.2 (.inr hq))
  · rcases List.mem_append.1 hq with hq | hq
    · exact st2.rng q hq k hk
    · exact st.rng q (List.mem_append.2 (.inr hq)) k hk
end
end Go.VC
namespace Go.Proofs.YtfbghcpdinlmcaaGreatDoor
open Go.VC
abbrev kI : Int → Value := Value.int .i64
theorem keyIW : KeyW Tryz.prog 3 (anyK (α := Int)) kI := KeyW.ofE Tryz.underlying3 (keyI .i64)
theorem mapII : MapTW Tryz.prog 251 3 3 (.int .i64 0) := ⟨rfl, rfl⟩
abbrev Dom (mm : Int → Option Value) : Int → Prop := fun q => (mm q).isSome = true
abbrev tIk : Ty Int := tInt .i64
theorem nodupI_len : ∀ (n : Nat) (l : List Int), l.Nodup → (∀ x ∈ l, 0 ≤ x ∧ x < (n : Int)) → l.length ≤ n
  | 0, l, _, h => by
    cases l with
    | nil => exact Nat.le_refl _
    | cons x l => have := h x List.mem_cons_self; omega
  | n + 1, l, hd, h => by
    have h1 := nodupI_len n (l.filter fun x => decide (x < (n : Int))) (hd.filter _) (fun x hx => by
      obtain ⟨h1, h2⟩ := List.mem_filter.1 hx
      exact ⟨(h x h1).1, by simpa using h2⟩)
    have h2 : l.length ≤ (l.filter fun x => decide (x < (n : Int))).length + 1 := by
      clear h1
      induction l with
      | nil => simp
      | cons x l ih =>
        rw [List.nodup_cons] at hd
        by_cases hx : x < (n : Int)
        · rw [List.filter_cons_of_pos (by simpa using hx)]
          have := ih hd.2 (fun y hy => h y (List.mem_cons_of_mem _ hy))
          simp only [List.length_cons]; omega
        · rw [List.filter_cons_of_neg (by simpa using hx)]
          have hxn : x = (n : Int) := by have := h x List.mem_cons_self; omega
          have : l.filter (fun x => decide (x < (n : Int))) = l := List.filter_eq_self.2 fun y hy => by
            have h3 := h y (List.mem_cons_of_mem _ hy)
            have : y ≠ x := fun e => hd.1 (e ▸ hy)
            rw [decide_eq_true_eq]; omega
          rw [this]; simp
    omega
theorem kint {x : Int} (h : 0 ≤ x ∧ x < 65536) : inK .i64 x := ⟨by simp [IntKind.min, IntKind.signed, IntKind.bits]; omega, by simp [IntKind.max, IntKind.signed, IntKind.bits]; omega⟩
theorem sorted_srt {ks : List Int} (h : ks.Nodup) : (ks.mergeSort fun x y => decide (x ≤ y)).Pairwise (· < ·) := by
  have h1 : (ks.mergeSort fun x y => decide (x ≤ y)).Pairwise (· ≤ ·) := (List.pairwise_mergeSort (fun a b c h1 h2 => by simp only [decide_eq_true_eq] at *; omega) (fun a b => by simp only [Bool.or_eq_true, decide_eq_true_eq]; omega) _).imp fun h => of_decide_eq_true h
  have h2 : (ks.mergeSort fun x y => decide (x ≤ y)).Nodup := (List.mergeSort_perm _ _).nodup_iff.2 h
  exact (h1.and h2).imp fun ⟨h3, h4⟩ => by omega
end Go.Proofs.YtfbghcpdinlmcaaGreatDoor
/- Tables and automata, in plain Lean. -/
set_option linter.unusedVariables false
set_option linter.unusedSimpArgs false
namespace Go.Proofs.YtfbghcpdinlmcaaGreatDoor

/-- The union of the cells, if no two meet. -/
def disjGo (all : BitVec 256) : List (BitVec 256) → Option (BitVec 256)
  | [] => some all
  | c :: cs => if all &&& c = 0#256 then disjGo (all ||| c) cs else none
theorem disjGo_append (all : BitVec 256) (cs ds : List (BitVec 256)) : disjGo all (cs ++ ds) = (disjGo all cs).bind fun x => disjGo x ds := by
  induction cs generalizing all with
  | nil => rfl
  | cons c cs ih =>
    simp only [List.cons_append, disjGo]
    split
    · exact ih _
    · rfl
theorem disjGo_snoc {all : BitVec 256} {cs : List (BitVec 256)} {x c : BitVec 256} (h : disjGo all cs = some x) : disjGo all (cs ++ [c]) = if x &&& c = 0#256 then some (x ||| c) else none := by
  rw [disjGo_append, h]; rfl
def rowOk (n m : Nat) (row : List Int) : Bool := row.length == m && row.all fun q => decide (0 ≤ q) && decide (q < (n : Int))
def soundB (cells : List (BitVec 256)) (next : List (List Int)) (fl : Nat) : Bool :=
  match disjGo 0#256 cells with
  | none => false
  | some all => all == BitVec.allOnes 256 && decide (1 ≤ next.length) && decide (next.length ≤ 65536) && next.length == fl && next.all (rowOk next.length cells.length)

theorem take_succ_snoc {α : Type} {l : List α} {k : Nat} {x : α} (h : l[k]? = some x) : l.take (k + 1) = l.take k ++ [x] := by
  rw [List.take_add_one, h]; rfl
theorem get_some {α : Type} {l : List α} {k : Nat} (h : k < l.length) : ∃ x, l[k]? = some x := ⟨l[k], List.getElem?_eq_getElem h⟩

/-! ### merging -/
def alikeB (next : List (List Int)) (c d : Nat) : Bool := c == d || next.all fun row => row[c]? == row[d]?
def cellOf (cells : List (BitVec 256)) (b : Nat) : Nat := cells.findIdx fun c => c.getLsbD b
structure MS where
  cols : List Nat
  sets : List (BitVec 256)
  cell : List Nat
def mFind (next : List (List Int)) (cols : List Nat) (f : Nat) : Option Nat := cols.findIdx? fun c => alikeB next c f
/-- The columns, the sets and the place, once there is a column for f. -/
def mNew (next : List (List Int)) (cols : List Nat) (sets : List (BitVec 256)) (f : Nat) : List Nat × List (BitVec 256) × Nat :=
  match mFind next cols f with
  | some i => (cols, sets, i)
  | none => (cols ++ [f], sets ++ [0#256], cols.length)
def mStep (next : List (List Int)) (cells : List (BitVec 256)) (st : MS) (b : Nat) (s : BitVec 256) : MS :=
  let r := mNew next st.cols st.sets (cellOf cells b)
  ⟨r.1, r.2.1.set r.2.2 (r.2.1.getD r.2.2 0#256 ||| s), st.cell ++ [r.2.2]⟩
def mRun (next : List (List Int)) (cells : List (BitVec 256)) (sp : Nat → BitVec 256) : Nat → MS
  | 0 => ⟨[], [], []⟩
  | b + 1 => mStep next cells (mRun next cells sp b) b (sp b)

theorem disjGo_bits {all : BitVec 256} {cs : List (BitVec 256)} {x : BitVec 256} (h : disjGo all cs = some x) (b : Nat) : x.getLsbD b = (all.getLsbD b || cs.any fun c => c.getLsbD b) := by
  induction cs generalizing all with
  | nil => simp only [disjGo, Option.some.injEq] at h; subst h; simp
  | cons c cs ih =>
    simp only [disjGo] at h
    split at h
    · rw [ih h, BitVec.getLsbD_or, List.any_cons, Bool.or_assoc]
    · cases h
theorem soundB_cells {cells : List (BitVec 256)} {next : List (List Int)} {fl : Nat} (h : soundB cells next fl = true) {b : Nat} (hb : b < 256) : cellOf cells b < cells.length ∧ ∀ c, cells[cellOf cells b]? = some c → c.getLsbD b = true := by
  unfold soundB at h
  split at h
  · cases h
  · rename_i all hall
    simp only [Bool.and_eq_true, beq_iff_eq] at h
    have h1 := disjGo_bits hall b
    rw [h.1.1.1.1, BitVec.getLsbD_allOnes] at h1
    simp only [hb, decide_true, BitVec.getLsbD_zero, Bool.false_or] at h1
    have h2 : cellOf cells b < cells.length := List.findIdx_lt_length.2 (by simpa using (List.any_eq_true.1 h1.symm))
    refine ⟨h2, fun c hc => ?_⟩
    have := List.findIdx_getElem (w := h2)
    rw [List.getElem?_eq_getElem h2] at hc
    cases hc
    exact this
theorem cellOf_before {cells : List (BitVec 256)} {b k : Nat} {c : BitVec 256} (hk : k < cellOf cells b) (hc : cells[k]? = some c) : c.getLsbD b = false := by
  have := List.not_of_lt_findIdx hk
  have hlt := (List.getElem?_eq_some_iff.1 hc).1
  rw [List.getElem?_eq_getElem hlt] at hc
  cases hc
  simpa using this
theorem soundB_rows {cells : List (BitVec 256)} {next : List (List Int)} {fl : Nat} (h : soundB cells next fl = true) : 1 ≤ next.length ∧ next.length ≤ 65536 ∧ next.length = fl ∧ ∀ row ∈ next, row.length = cells.length ∧ ∀ q ∈ row, 0 ≤ q ∧ q < (next.length : Int) := by
  unfold soundB at h
  split at h
  · cases h
  · simp only [Bool.and_eq_true, beq_iff_eq, decide_eq_true_eq, List.all_eq_true, rowOk] at h
    exact ⟨h.1.1.1.2, h.1.1.2, h.1.2, fun row hr => ⟨(h.2 row hr).1, fun q hq => (h.2 row hr).2 q hq⟩⟩

structure MOk (m b : Nat) (st : MS) : Prop where
  len : st.cols.length = st.sets.length
  le : st.cols.length ≤ b
  cell : st.cell.length = b
  cols : ∀ c ∈ st.cols, c < m
  places : ∀ p ∈ st.cell, p < st.cols.length
theorem mNew_ok {next : List (List Int)} {cols : List Nat} {sets : List (BitVec 256)} {f m b : Nat} (h1 : cols.length = sets.length) (h2 : cols.length ≤ b) (h3 : ∀ c ∈ cols, c < m) (hf : f < m) :
    (mNew next cols sets f).1.length = (mNew next cols sets f).2.1.length ∧ (mNew next cols sets f).1.length ≤ b + 1 ∧ (∀ c ∈ (mNew next cols sets f).1, c < m) ∧ (mNew next cols sets f).2.2 < (mNew next cols sets f).1.length ∧ cols.length ≤ (mNew next cols sets f).1.length := by
  unfold mNew
  split
  · rename_i i hi
    have hlt : i < cols.length := by
      have := List.findIdx?_eq_some_iff_findIdx_eq.1 hi
      exact this.1
    exact ⟨h1, Nat.le_succ_of_le h2, h3, hlt, Nat.le_refl _⟩
  · refine ⟨by simp [h1], by simpa using h2, ?_, by simp, by simp⟩
    intro c hc
    rcases List.mem_append.1 hc with h | h
    · exact h3 c h
    · rw [List.mem_singleton] at h; omega
theorem mRun_ok {next : List (List Int)} {cells : List (BitVec 256)} {sp : Nat → BitVec 256} (hc : ∀ b, b < 256 → cellOf cells b < cells.length) : ∀ b, b ≤ 256 → MOk cells.length b (mRun next cells sp b)
  | 0, _ => ⟨rfl, Nat.le_refl _, rfl, (fun c h => by cases h), (fun p h => by cases h)⟩
  | b + 1, hb => by
    have ih := mRun_ok (next := next) (sp := sp) hc b (by omega)
    have h := mNew_ok (next := next) ih.len ih.le ih.cols (hc b (by omega))
    unfold mRun mStep
    refine ⟨?_, h.2.1, ?_, h.2.2.1, ?_⟩
    · simp only [List.length_set]; exact h.1
    · simp [ih.cell]
    · intro p hp
      simp only [List.mem_append, List.mem_singleton] at hp
      rcases hp with hp | rfl
      · exact Nat.lt_of_lt_of_le (ih.places p hp) h.2.2.2.2
      · exact h.2.2.2.1

end Go.Proofs.YtfbghcpdinlmcaaGreatDoor
/- nfa.ways, nfa.settle: the walks. -/
set_option linter.unusedVariables false
set_option linter.unusedSimpArgs false
set_option maxRecDepth 100000
namespace Go.VC
end Go.VC
namespace Go.Proofs.YtfbghcpdinlmcaaGreatDoor
open Go.VC
/-- The edges that leave q. -/
def outP (a : NfM) (q : Int) (e : EdM) : Bool := a.has e.fr && a.has e.to && decide (e.fr = q)
def outE (a : NfM) (q : Int) : List EdM := a.edges.filter (outP a q)
/-! ### settle -/
/-- The map of the edges, to be read. -/
structure FromV (B : Nat → Prop) (H0 : Heap) (mb : Nat) (a : NfM) : Prop where
  ex : ∃ m, MapW anyK kI H0 mb m ∧ ∀ q, ∃ ad cap, slAt m q = .slice ad (outE a q).length cap ∧ SlD tEd B H0 ad cap (outE a q)
  at_ : B mb
structure StlR (a : NfM) (X : PS) (q : Int) (Y : PS) : Prop where
  sub : ∀ p, X p → Y p
  own : Y q
  new : ∀ p, Y p → X p ∨ Sils a q p
  shut : ∀ p, Y p → ¬ X p → ∀ e ∈ a.edges, e.sil = true → e.fr = p → a.has e.to = true → Y e.to
open Classical in
noncomputable def mss (X : PS) : Nat := (lstS fun p => ¬ X p).length
theorem flt_le {p q : Int → Bool} : ∀ (l : List Int), (∀ x, p x = true → q x = true) → (l.filter p).length ≤ (l.filter q).length
  | [], _ => Nat.le_refl _
  | x :: l, h => by
    have ih := flt_le l h
    cases hp : p x with
    | true => rw [List.filter_cons_of_pos hp, List.filter_cons_of_pos (h x hp), List.length_cons, List.length_cons]; omega
    | false =>
      rw [List.filter_cons_of_neg (by rw [hp]; decide)]
      cases hq : q x with
      | true => rw [List.filter_cons_of_pos hq, List.length_cons]; omega
      | false => rw [List.filter_cons_of_neg (by rw [hq]; decide)]; exact ih
theorem flt_lt {p q : Int → Bool} {y : Int} : ∀ (l : List Int), (∀ x, p x = true → q x = true) → y ∈ l → p y = false → q y = true → (l.filter p).length < (l.filter q).length
  | [], _, hy, _, _ => by cases hy
  | x :: l, h, hy, h1, h2 => by
    have le := flt_le l h
    by_cases hxy : x = y
    · subst hxy
      rw [List.filter_cons_of_neg (by rw [h1]; decide), List.filter_cons_of_pos h2, List.length_cons]; omega
    · have hyl : y ∈ l := by
        rcases List.mem_cons.1 hy with e | e
        · exact absurd e.symm hxy
        · exact e
      have ih := flt_lt l h hyl h1 h2
      cases hp : p x with
      | true => rw [List.filter_cons_of_pos hp, List.filter_cons_of_pos (h x hp), List.length_cons, List.length_cons]; omega
      | false =>
        rw [List.filter_cons_of_neg (by rw [hp]; decide)]
        cases hq : q x with
        | true => rw [List.filter_cons_of_pos hq, List.length_cons]; omega
        | false => rw [List.filter_cons_of_neg (by rw [hq]; decide)]; exact ih
theorem mss_lt {X Y : PS} {q : Int} (h : ∀ p, X p → Y p) (h0 : 0 ≤ q) (h1 : q < 65536) (hx : ¬ X q) (hy : Y q) : mss Y < mss X := by
  unfold mss lstS
  refine flt_lt (y := q) _ (fun p hp => ?_) (List.mem_map.2 ⟨q.toNat, List.mem_range.2 (by omega), by omega⟩) ?_ ?_
  · simp only [decide_eq_true_eq] at hp ⊢
    exact fun hx => hp (h p hx)
  · simp [hy]
  · simp [hx]
theorem dom_put {mm : Int → Option Value} {q : Int} {v : Value} (p : Int) : Dom (put mm q (some v)) p ↔ Dom mm p ∨ p = q := by
  unfold Dom
  by_cases h : p = q
  · subst h; rw [put_self]; simp
  · rw [put_ne h]; simp [h]
end Go.Proofs.YtfbghcpdinlmcaaGreatDoor
/- nfa.Reach, nfa.Accepts: the walks. -/
set_option linter.unusedVariables false
set_option linter.unusedSimpArgs false
set_option maxRecDepth 100000
namespace Go.Proofs.YtfbghcpdinlmcaaGreatDoor
open Go.VC
def byN (s : ByteArray) : List Nat := s.data.toList.map UInt8.toNat
theorem byN_len (s : ByteArray) : (byN s).length = s.size := by unfold byN; rw [List.length_map]; exact Array.length_toList
theorem byN_get {s : ByteArray} {i : Nat} {b : UInt8} (h : s.data[i]? = some b) : (byN s)[i]? = some b.toNat := by
  unfold byN
  rw [List.getElem?_map, Array.getElem?_toList, h]; rfl
theorem getB {s : ByteArray} {k : Nat} (h : k < s.size) : ∃ b, s.data[k]? = some b := ⟨s.data[k]'h, Array.getElem?_eq_getElem h⟩
end Go.Proofs.YtfbghcpdinlmcaaGreatDoor
/- strconv.AppendInt at base 10, by the kit's shelf (laid by its tool), as an operation on an own slice of bytes. -/
set_option linter.unusedVariables false
set_option linter.unusedSimpArgs false
set_option maxRecDepth 100000
namespace Go.VC
open Go.Lib Go.RowKit
abbrev powN : String := "internal/strconv.uint64pow10"
/-- The library's table of powers lies in memory. -/
def PowH (P : Program) (H : Heap) : Prop := ∀ w : World, w.heap = H → TabIs P w powN .u64 pow10Tab
theorem var_agr {P : Program} {w w' : World} {name : String} {cs : Array Value} (h : w.var? P name = some cs) (ha : Agr (Old w.heap) w.heap w'.heap) : w'.var? P name = some cs := by
  unfold World.var? at *
  cases hg : P.globalNamed name with
  | none => simp [hg] at h
  | some g =>
    simp only [hg, Option.bind_some] at h ⊢
    have hlt : g < w.heap.size := by
      rcases Nat.lt_or_ge g w.heap.size with h' | h'
      · exact h'
      · rw [Array.getElem?_eq_none h'] at h; simp at h
    rw [ha g hlt]
    exact h
theorem PowH.agr {P : Program} {H H' : Heap} (h : PowH P H) (ha : Agr (Old H) H H') : PowH P H' := by
  intro w hw
  subst hw
  have := h { w with heap := H } rfl
  exact var_agr (w := { w with heap := H }) (w' := w) this ha
/-- A function that puts an int's decimal text behind bytes. -/
structure AppInt (P : Program) (f : FuncId) (e : TypeId) : Prop where
  call : ∀ (args : Array Value) (w : World), (callFunc f args).run P w = .ok (.enter f args) w
  run_ : ∀ (B n : Nat) (i : Int) (sv : Value) (xs : List Value) (w : World), -9223372036854775808 ≤ i → i ≤ 9223372036854775807 → w.ownsRow B e 1 sv n xs → B ≤ w.heap.size → n + 21 ≤ 140737488355328 → TabBelow P B w powN .u64 pow10Tab →
    Calls P f #[sv, .int .i64 i, .int .i64 10] w fun e' w' => ∃ v', e' = .returned v' ∧ w'.ownsRow B e 1 v' (n + (itoa i).length) (xs ++ Go.Lib.byteCells (itoa i)) ∧ Below B w w' ∧ OthersKept e none w w'
abbrev tU8 : Ty Int := tInt .u8
/-- The digits as numbers. -/
def digL (i : Int) : List Int := (itoa i).map fun b => (b.toNat : Int)
theorem digL_len (i : Int) : (digL i).length = (itoa i).length := List.length_map _
theorem reps_u8 {S : Nat → Prop} {H : Heap} : ∀ {xs : List Int} {cs : List Value}, tU8.reps S H cs xs → cs = xs.map (Value.int .u8) ∧ ∀ x ∈ xs, inK .u8 x
  | [], _, h => by cases h; exact ⟨rfl, fun x hx => by cases hx⟩
  | x :: xs, _, h => by
    obtain ⟨c, r, rfl, ⟨rfl, h1⟩, h2⟩ := h
    obtain ⟨rfl, h3⟩ := reps_u8 h2
    refine ⟨rfl, fun y hy => ?_⟩
    rcases List.mem_cons.1 hy with rfl | hy
    · exact h1
    · exact h3 y hy
theorem u8_reps {S : Nat → Prop} {H : Heap} : ∀ {xs : List Int}, (∀ x ∈ xs, inK .u8 x) → tU8.reps S H (xs.map (Value.int .u8)) xs
  | [], _ => rfl
  | x :: xs, h => ⟨[.int .u8 x], xs.map (Value.int .u8), rfl, ⟨rfl, h x (by simp)⟩, u8_reps fun y hy => h y (by simp [hy])⟩
theorem digL_cells (i : Int) : Go.Lib.byteCells (itoa i) = (digL i).map (Value.int .u8) := by
  unfold Go.Lib.byteCells digL
  rw [List.map_map]
  rfl
theorem inU8b (b : UInt8) : inK .u8 (b.toNat : Int) := inU8 (UInt8.toNat_lt b)
theorem appI {P : Program} {f : FuncId} {H0 H : Heap} {e : TypeId} {a : Option Addr} {n cap : Nat} {xs : List Int} {i : Int} {K : Value → Heap → Prop} (hf : AppInt P f e) (st : St H0 H [pS tU8 e a n cap xs]) (hpow : PowH P H0) (h0 : -9223372036854775808 ≤ i) (h1 : i ≤ 9223372036854775807) (hn : xs.length + 21 ≤ 140737488355328)
    (k : ∀ a' cap' H', St H0 H' [pS tU8 e a' (xs ++ digL i).length cap' (xs ++ digL i)] → K (.slice a' (xs ++ digL i).length cap') H') : VCall P f #[.slice a n cap, .int .i64 i, .int .i64 10] H K := by
  obtain ⟨hown, -⟩ := st.at_ 0 rfl
  obtain ⟨cs, ⟨hcl, hcase⟩, hreps⟩ := hown
  obtain ⟨rfl, hrng⟩ := reps_u8 hreps
  refine ⟨fun w hw => ⟨hf.call _ w, ?_⟩⟩
  subst hw
  have hnl : n = xs.length := by
    rcases hcase with ⟨he, hn0⟩ | ⟨b, c, l, he, -⟩
    · injection he with e1 e2 e3; omega
    · injection he
  have hrow : w.ownsRow H0.size e 1 (.slice a n cap) xs.length (xs.map (Value.int .u8)) := by
    refine ⟨by rw [List.length_map, Nat.mul_one], ?_⟩
    rcases hcase with ⟨he, hn0⟩ | ⟨b, c, l, he, -, hb, hnc, hcm, hll, htk⟩
    · exact .inl ⟨he, hn0⟩
    · have hge : H0.size ≤ b := by
        have := (st.in_ 0 rfl (k := b) (.inl ⟨0, n, cap, by rw [he]; injection he with e1 e2 e3; subst e1; subst e2; subst e3; rfl⟩)).1
        unfold Old at this
        omega
      exact .inr ⟨b, c, l.toArray, he, hge, hb, hnc, hcm, by rw [List.size_toArray]; exact hll, htk⟩
  have htab : TabBelow P H0.size w powN .u64 pow10Tab := fun w' hb => (hpow.agr (st.old.trans (show Agr (Old H0) w.heap w'.heap from fun j hj => hb.block j hj))) w' rfl
  refine (hf.run_ H0.size xs.length i _ _ w h0 h1 hrow (old_size st.old) hn htab).mono ?_
  rintro _ w' ⟨v', rfl, hown', hbel, -⟩
  obtain ⟨hl', hc'⟩ := hown'
  have hlen : xs.length + (itoa i).length = (xs ++ digL i).length := by rw [List.length_append, digL_len]
  rw [hlen] at hc' hl'
  have hag : Agr (Old H0) H0 w'.heap := st.old.trans (show Agr (Old H0) w.heap w'.heap from fun j hj => hbel.block j hj)
  have hreps' : tU8.reps none_ w'.heap (xs.map (Value.int .u8) ++ Go.Lib.byteCells (itoa i)) (xs ++ digL i) := by
    rw [digL_cells, ← List.map_append]
    refine u8_reps fun x hx => ?_
    rcases List.mem_append.1 hx with hx | hx
    · exact hrng x hx
    · obtain ⟨b, -, rfl⟩ := List.mem_map.1 hx
      exact inU8b b
  have mk : ∀ a' cap', v' = .slice a' (xs ++ digL i).length cap' → SlO tU8 none_ w'.heap H0.size e v' (xs ++ digL i) → ∃ H', H' = w'.heap ∧ St H0 H' [pS tU8 e a' (xs ++ digL i).length cap' (xs ++ digL i)] := fun a' cap' hv hs => by
    subst hv
    refine ⟨_, rfl, ?_⟩
    obtain ⟨a2, c2, e2, st2⟩ := (St.nil H0).got hag hs
    injection e2 with e21 e22 e23
    subst e21; subst e23
    exact st2
  have hs : SlO tU8 none_ w'.heap H0.size e v' (xs ++ digL i) := by
    refine ⟨_, ⟨hl', ?_⟩, hreps'⟩
    rcases hc' with ⟨he, hn0⟩ | ⟨b, c, l, he, hge, hb, hnc, hcm, hll, htk⟩
    · exact .inl ⟨he, hn0⟩
    · exact .inr ⟨b, c, l.toList, he, hge, hb, hnc, hcm, by rw [Array.length_toList]; exact hll, htk⟩
  obtain ⟨a', cap', rfl⟩ := hs.hull
  obtain ⟨_, rfl, st'⟩ := mk a' cap' rfl hs
  exact ⟨_, rfl, ⟨hbel.os.symm ▸ rfl, hbel.tape.symm ▸ rfl, hbel.output.symm ▸ rfl⟩, k a' cap' _ st'⟩
end Go.VC
namespace Go.Proofs.YtfbghcpdinlmcaaGreatDoor
open Go.VC
def laysM176_ren : Go.Shelf.Ren := ⟨fun | 176 => 141 | 249 => 182 | 288 => 208 | 283 => 225 | 284 => 226 | 285 => 227 | 286 => 228 | 129 => 207 | 317 => 236 | 318 => 237 | 319 => 238 | 320 => 239 | 337 => 243 | 338 => 244 | n => n, fun | 37 => 201 | 2 => 2 | 3 => 3 | 53 => 99 | 4 => 4 | 9 => 9 | 171 => 350 | 0 => 0 | 173 => 352 | 212 => 362 | 51 => 332 | 5 => 5 | 20 => 20 | 213 => 363 | 46 => 218 | 232 => 367 | 233 => 368 | n => n, fun | 17 => 1 | 18 => 3 | 19 => 4 | n => n⟩
theorem laysM176 : Go.Proofs.LaysM.n176 Tryz.prog laysM176_ren := {
  mixed := by kernel_rfl
  f129 := Tryz.func207.trans (congrArg some (by kernel_rfl))
  f176 := Tryz.func141.trans (congrArg some (by kernel_rfl))
  f249 := Tryz.func182.trans (congrArg some (by kernel_rfl))
  f283 := Tryz.func225.trans (congrArg some (by kernel_rfl))
  f284 := Tryz.func226.trans (congrArg some (by kernel_rfl))
  f285 := Tryz.func227.trans (congrArg some (by kernel_rfl))
  f286 := Tryz.func228.trans (congrArg some (by kernel_rfl))
  f288 := Tryz.func208.trans (congrArg some (by kernel_rfl))
  f317 := Tryz.func236.trans (congrArg some (by kernel_rfl))
  f318 := Tryz.func237.trans (congrArg some (by kernel_rfl))
  f319 := Tryz.func238.trans (congrArg some (by kernel_rfl))
  f320 := Tryz.func239.trans (congrArg some (by kernel_rfl))
  f337 := Tryz.func243.trans (congrArg some (by kernel_rfl))
  f338 := Tryz.func244.trans (congrArg some (by kernel_rfl))
  t0 := Tryz.underlying0
  a0 := Tryz.isAgg0
  z0 := Tryz.sizeOf0
  v0 := Tryz.zeroValue0
  t2 := Tryz.underlying2
  a2 := Tryz.isAgg2
  z2 := Tryz.sizeOf2
  v2 := Tryz.zeroValue2
  t3 := Tryz.underlying3
  a3 := Tryz.isAgg3
  z3 := Tryz.sizeOf3
  v3 := Tryz.zeroValue3
  t4 := Tryz.underlying4
  a4 := Tryz.isAgg4
  z4 := Tryz.sizeOf4
  v4 := Tryz.zeroValue4
  t5 := Tryz.underlying5
  a5 := Tryz.isAgg5
  z5 := Tryz.sizeOf5
  v5 := Tryz.zeroValue5
  t9 := Tryz.underlying9
  a9 := Tryz.isAgg9
  z9 := Tryz.sizeOf9
  v9 := Tryz.zeroValue9
  t20 := Tryz.underlying20
  a20 := Tryz.isAgg20
  z20 := Tryz.sizeOf20
  v20 := Tryz.zeroValue20
  t37 := Tryz.underlying201
  a37 := Tryz.isAgg201
  z37 := Tryz.sizeOf201
  v37 := Tryz.zeroValue201
  t46 := Tryz.underlying218
  a46 := Tryz.isAgg218
  z46 := Tryz.sizeOf218
  v46 := Tryz.zeroValue218
  t51 := Tryz.underlying332
  a51 := Tryz.isAgg332
  z51 := Tryz.sizeOf332
  v51 := Tryz.zeroValue332
  t53 := Tryz.underlying99
  a53 := Tryz.isAgg99
  z53 := Tryz.sizeOf99
  v53 := Tryz.zeroValue99
  t171 := Tryz.underlying350
  a171 := Tryz.isAgg350
  z171 := Tryz.sizeOf350
  v171 := Tryz.zeroValue350
  t173 := Tryz.underlying352
  a173 := Tryz.isAgg352
  z173 := Tryz.sizeOf352
  v173 := Tryz.zeroValue352
  t212 := Tryz.underlying362
  a212 := Tryz.isAgg362
  z212 := Tryz.sizeOf362
  v212 := Tryz.zeroValue362
  t213 := Tryz.underlying363
  a213 := Tryz.isAgg363
  z213 := Tryz.sizeOf363
  t232 := Tryz.underlying367
  a232 := Tryz.isAgg367
  z232 := Tryz.sizeOf367
  v232 := Tryz.zeroValue367
  t233 := Tryz.underlying368
  a233 := Tryz.isAgg368
  z233 := Tryz.sizeOf368
  v233 := Tryz.zeroValue368
  g17 := by kernel_rfl
  g18 := by kernel_rfl
  g19 := by kernel_rfl
  i0 := by kernel_rfl
  i2 := by kernel_rfl
  i3 := by kernel_rfl
  i4 := by kernel_rfl
  i5 := by kernel_rfl
  i9 := by kernel_rfl
  i20 := by kernel_rfl
  i37 := by kernel_rfl
  i46 := by kernel_rfl
  i51 := by kernel_rfl
  i53 := by kernel_rfl
  i171 := by kernel_rfl
  i173 := by kernel_rfl
  i212 := by kernel_rfl
  i232 := by kernel_rfl
  i233 := by kernel_rfl
  m17 := by kernel_rfl
  m18 := by kernel_rfl
  m19 := by kernel_rfl }
theorem appInt_ : AppInt Tryz.prog 141 5 where
  call := Tryz.call141
  run_ B n i sv xs w h0 h1 hown hB hlim htab := Go.Proofs.Any.strconv_AppendInt_10 laysM176 B n i h0 h1 sv xs w hown hB hlim htab
end Go.Proofs.YtfbghcpdinlmcaaGreatDoor
/- Making automata deterministic: the plain law (names of sets, the walk by lengths and bytes). -/
set_option linter.unusedVariables false
set_option linter.unusedSimpArgs false
set_option maxRecDepth 100000
namespace Go.Proofs.YtfbghcpdinlmcaaGreatDoor
open Go.VC
/-! ### names -/
def digN (q : Int) : List Nat := (Go.Lib.itoa q).map UInt8.toNat
theorem digL_N (q : Int) : digL q = (digN q).map fun (x : Nat) => (x : Int) := by
  unfold digL digN
  rw [List.map_map]
  rfl
def valN (n : Nat) (l : List Nat) : Nat := l.foldl (fun n b => 10 * n + (b - 48)) n
theorem dec_spec (u : Nat) : (∀ b ∈ (Go.Lib.decDigits u).map UInt8.toNat, 48 ≤ b ∧ b ≤ 57) ∧ valN 0 ((Go.Lib.decDigits u).map UInt8.toNat) = u := by
  induction u using Nat.strongRecOn with
  | _ u ih =>
    rw [Go.Lib.decDigits]
    by_cases h : u < 10
    · rw [dif_pos h]
      have e : (UInt8.ofNat (48 + u)).toNat = 48 + u := by rw [UInt8.toNat_ofNat']; omega
      refine ⟨fun b hb => ?_, ?_⟩
      · simp only [List.map_cons, List.map_nil, List.mem_singleton, e] at hb; omega
      · simp only [List.map_cons, List.map_nil, e, valN, List.foldl_cons, List.foldl_nil]; omega
    · rw [dif_neg h]
      obtain ⟨h1, h2⟩ := ih (u / 10) (by omega)
      have e : (UInt8.ofNat (48 + u % 10)).toNat = 48 + u % 10 := by rw [UInt8.toNat_ofNat']; omega
      refine ⟨fun b hb => ?_, ?_⟩
      · rw [List.map_append, List.mem_append] at hb
        rcases hb with hb | hb
        · exact h1 b hb
        · simp only [List.map_cons, List.map_nil, List.mem_singleton, e] at hb; omega
      · unfold valN at h2 ⊢
        rw [List.map_append, List.foldl_append, h2]
        simp only [List.map_cons, List.map_nil, e, List.foldl_cons, List.foldl_nil]; omega
theorem dig_nat {q : Int} (h : 0 ≤ q) : digN q = (Go.Lib.decDigits q.toNat).map UInt8.toNat := by
  unfold digN Go.Lib.itoa
  rw [if_neg (by omega)]
theorem dig_rng {q : Int} (h : 0 ≤ q) : ∀ b ∈ digN q, 48 ≤ b ∧ b ≤ 57 := by rw [dig_nat h]; exact (dec_spec _).1
theorem dig_val {q : Int} (h : 0 ≤ q) : (valN 0 (digN q) : Int) = q := by rw [dig_nat h, (dec_spec _).2]; omega
theorem dec_len : ∀ (k u : Nat), u < 10 ^ (k + 1) → (Go.Lib.decDigits u).length ≤ k + 1
  | 0, u, h => by
    rw [Go.Lib.decDigits, dif_pos (by simpa using h)]; simp
  | k + 1, u, h => by
    rw [Go.Lib.decDigits]
    by_cases h1 : u < 10
    · rw [dif_pos h1]; simp
    · rw [dif_neg h1, List.length_append]
      have := dec_len k (u / 10) (by rw [Nat.div_lt_iff_lt_mul (by decide)]; rw [Nat.pow_succ] at h; omega)
      simp only [List.length_cons, List.length_nil]; omega
theorem dig_len {q : Int} (h : 0 ≤ q ∧ q < 65536) : (digN q).length ≤ 5 := by
  rw [dig_nat h.1, List.length_map]
  exact dec_len 4 _ (by omega)
theorem val_ge : ∀ (l : List Nat) (n : Nat), (∀ b ∈ l, 48 ≤ b) → n ≤ valN n l
  | [], n, _ => Nat.le_refl _
  | b :: l, n, h => by
    have h1 := val_ge l (10 * n + (b - 48)) fun x hx => h x (List.mem_cons_of_mem _ hx)
    unfold valN at h1 ⊢
    rw [List.foldl_cons]
    omega
theorem val_pre {p r : List Nat} {q : Int} (h0 : 0 ≤ q) (h : digN q = p ++ r) : (valN 0 p : Int) ≤ q := by
  have h1 := dig_rng h0
  have h2 := dig_val h0
  rw [h] at h1 h2
  have h3 := val_ge r (valN 0 p) fun b hb => (h1 b (List.mem_append_right _ hb)).1
  unfold valN at h2 h3 ⊢
  rw [List.foldl_append] at h2
  omega
/-- A set's name. -/
def nameN (l : List Int) : List Nat := l.flatMap fun q => digN q ++ [44]
theorem nameN_snoc (l : List Int) (q : Int) : nameN (l ++ [q]) = nameN l ++ digN q ++ [44] := by
  unfold nameN
  rw [List.flatMap_append]
  simp
theorem nameN_lt {l : List Int} (h : ∀ q ∈ l, 0 ≤ q ∧ q < 65536) : ∀ b ∈ nameN l, b < 256 := by
  intro b hb
  obtain ⟨q, hq, hb⟩ := List.mem_flatMap.1 hb
  rcases List.mem_append.1 hb with hb | hb
  · have := dig_rng (h q hq).1 b hb; omega
  · rw [List.mem_singleton] at hb; omega
theorem nameN_len : ∀ {l : List Int}, (∀ q ∈ l, 0 ≤ q ∧ q < 65536) → (nameN l).length ≤ l.length * 6
  | [], _ => Nat.zero_le _
  | q :: l, h => by
    have h1 := nameN_len (l := l) fun x hx => h x (List.mem_cons_of_mem _ hx)
    have h2 := dig_len (h q (List.mem_cons_self ..))
    have h3 : nameN (q :: l) = (digN q ++ [44]) ++ nameN l := by unfold nameN; rw [List.flatMap_cons]
    rw [h3]
    simp only [List.length_append, List.length_cons, List.length_nil]
    omega
/-- Reading a name. -/
def mst (s : List Int × Nat) (b : Nat) : List Int × Nat := if b = 44 then (s.1 ++ [(s.2 : Int)], 0) else (s.1, 10 * s.2 + (b - 48))
theorem mst_digs : ∀ (p : List Nat) (acc : List Int) (n : Nat), (∀ b ∈ p, 48 ≤ b ∧ b ≤ 57) → p.foldl mst (acc, n) = (acc, valN n p)
  | [], _, _, _ => rfl
  | b :: p, acc, n, h => by
    have hb := h b (List.mem_cons_self ..)
    rw [List.foldl_cons, show mst (acc, n) b = (acc, 10 * n + (b - 48)) by unfold mst; rw [if_neg (by omega)], mst_digs p acc _ fun x hx => h x (List.mem_cons_of_mem _ hx)]
    rfl
theorem mst_one {q : Int} (h : 0 ≤ q) (acc : List Int) : (digN q ++ [44]).foldl mst (acc, 0) = (acc ++ [q], 0) := by
  rw [List.foldl_append, mst_digs _ _ _ (dig_rng h)]
  show mst (acc, valN 0 (digN q)) 44 = _
  unfold mst
  rw [if_pos rfl]
  simp only [dig_val h]
theorem mst_all : ∀ (l : List Int) (acc : List Int), (∀ q ∈ l, 0 ≤ q) → (nameN l).foldl mst (acc, 0) = (acc ++ l, 0)
  | [], acc, _ => by simp [nameN]
  | q :: l, acc, h => by
    have h3 : nameN (q :: l) = (digN q ++ [44]) ++ nameN l := by unfold nameN; rw [List.flatMap_cons]
    rw [h3, List.foldl_append, mst_one (h q (List.mem_cons_self ..)), mst_all l _ fun x hx => h x (List.mem_cons_of_mem _ hx)]
    simp
theorem name_inj {l m : List Int} (hl : ∀ q ∈ l, 0 ≤ q) (hm : ∀ q ∈ m, 0 ≤ q) (h : nameN l = nameN m) : l = m := by
  have h1 := mst_all l [] hl
  rw [h, mst_all m [] hm] at h1
  simpa using h1.symm
/-- While a name is read the number stays small. -/
theorem mst_pre : ∀ (l : List Int) (acc : List Int) (i : Nat), (∀ q ∈ l, 0 ≤ q ∧ q < 65536) → (((nameN l).take i).foldl mst (acc, 0)).2 < 65536 ∧ ∃ k, k ≤ l.length ∧ (((nameN l).take i).foldl mst (acc, 0)).1 = acc ++ l.take k
  | [], acc, i, _ => by simp [nameN]
  | q :: l, acc, i, h => by
    have hq := h q (List.mem_cons_self ..)
    have h3 : nameN (q :: l) = (digN q ++ [44]) ++ nameN l := by unfold nameN; rw [List.flatMap_cons]
    rw [h3]
    by_cases hi : i ≤ (digN q).length
    · have e : ((digN q ++ [44]) ++ nameN l).take i = (digN q).take i := by
        rw [List.append_assoc, List.take_append_of_le_length hi]
      rw [e, mst_digs _ _ _ fun b hb => dig_rng hq.1 b (List.mem_of_mem_take hb)]
      have := val_pre hq.1 (List.take_append_drop i (digN q)).symm
      exact ⟨by simp only; omega, 0, Nat.zero_le _, by simp⟩
    · have e : ((digN q ++ [44]) ++ nameN l).take i = (digN q ++ [44]) ++ (nameN l).take (i - (digN q).length - 1) := by
        rw [List.take_append, List.take_of_length_le (by simp only [List.length_append, List.length_cons, List.length_nil]; omega)]
        simp only [List.length_append, List.length_cons, List.length_nil]
        rw [show i - ((digN q).length + (0 + 1)) = i - (digN q).length - 1 by omega]
      rw [e, List.foldl_append, mst_one hq.1]
      obtain ⟨h1, k, hk, h2⟩ := mst_pre l (acc ++ [q]) (i - (digN q).length - 1) fun x hx => h x (List.mem_cons_of_mem _ hx)
      exact ⟨h1, k + 1, by simp only [List.length_cons]; omega, by rw [h2]; simp⟩
def nmB (l : List Int) : ByteArray := ⟨((nameN l).map UInt8.ofNat).toArray⟩
theorem byN_of5 {l : List Nat} (h : ∀ x ∈ l, x < 256) : byN ⟨(l.map UInt8.ofNat).toArray⟩ = l := by
  unfold byN
  rw [List.map_map]
  refine (List.map_congr_left fun x hx => ?_).trans (List.map_id _)
  show (UInt8.ofNat x).toNat = x
  rw [UInt8.toNat_ofNat']
  exact Nat.mod_eq_of_lt (h x hx)
theorem byN_nm {l : List Int} (h : ∀ q ∈ l, 0 ≤ q ∧ q < 65536) : byN (nmB l) = nameN l := byN_of5 (nameN_lt h)
theorem nmB_inj {l m : List Int} (hl : ∀ q ∈ l, 0 ≤ q ∧ q < 65536) (hm : ∀ q ∈ m, 0 ≤ q ∧ q < 65536) (h : nmB l = nmB m) : l = m := by
  have := congrArg byN h
  rw [byN_nm hl, byN_nm hm] at this
  exact name_inj (fun q hq => (hl q hq).1) (fun q hq => (hm q hq).1) this
theorem nmB_size {l : List Int} (h : ∀ q ∈ l, 0 ≤ q ∧ q < 65536) : (nmB l).size = (nameN l).length := by
  rw [← byN_len, byN_nm h]
/-! ### the walk over all sets that words lead to -/
section
variable {K : Type} [DecidableEq K]
/-- The number of a thing among those found; a new one is put behind them while there is room. -/
def atF (most : Nat) (f : List K) (k : K) : Option (List K × Nat) := match f.findIdx? (· = k) with
  | some i => some (f, i)
  | none => if f.length < most then some (f ++ [k], f.length) else none
def rowF (most : Nat) (step : K → Nat → K) (x : K) (s : Option (List K × List Nat)) (b : Nat) : Option (List K × List Nat) :=
  s.bind fun p => (atF most p.1 (step x b)).map fun r => (r.1, p.2 ++ [r.2])
def rowsF (most : Nat) (step : K → Nat → K) (bs : List Nat) (start : K) : Nat → Option (List K × List (List Nat))
  | 0 => some ([start], [])
  | n + 1 => (rowsF most step bs start n).bind fun p => match p.1[n]? with
    | none => some p
    | some x => (bs.foldl (rowF most step x) (some (p.1, []))).map fun r => (r.1, p.2 ++ [r.2])
variable {most : Nat} {step : K → Nat → K} {bs : List Nat} {start : K}
theorem rowF_none (x : K) : ∀ l : List Nat, l.foldl (rowF most step x) none = none
  | [] => rfl
  | b :: l => by rw [List.foldl_cons]; exact rowF_none x l
theorem atF_some {f f' : List K} {k : K} {i : Nat} (h : atF most f k = some (f', i)) (hl : f.length ≤ most) (hn : f.Nodup) : f'[i]? = some k ∧ f'.length ≤ most ∧ f'.Nodup ∧ f <+: f' := by
  unfold atF at h
  cases hf : f.findIdx? (· = k) with
  | some j =>
    rw [hf] at h
    injection h with h
    injection h with h1 h2
    subst h1; subst h2
    obtain ⟨hj, h3, -⟩ := List.findIdx?_eq_some_iff_getElem.1 hf
    have h3 : f[j] = k := by simpa using h3
    exact ⟨by rw [List.getElem?_eq_getElem hj, h3], hl, hn, List.prefix_refl _⟩
  | none =>
    rw [hf] at h
    simp only at h
    split at h
    · rename_i hlt
      injection h with h
      injection h with h1 h2
      subst h1; subst h2
      have hno : k ∉ f := fun hk => by
        have := List.findIdx?_eq_none_iff.1 hf k hk
        simp at this
      refine ⟨by simp, by simp only [List.length_append, List.length_cons, List.length_nil]; omega, ?_, List.prefix_append _ _⟩
      rw [List.nodup_append]
      exact ⟨hn, by simp, fun a ha b hb => by rw [List.mem_singleton] at hb; subst hb; intro e; subst e; exact hno ha⟩
    · cases h
omit [DecidableEq K] in
theorem pre_get {f f' : List K} {i : Nat} {k : K} (h : f <+: f') (hi : f[i]? = some k) : f'[i]? = some k := by
  obtain ⟨t, rfl⟩ := h
  rw [List.getElem?_append_left (List.getElem?_eq_some_iff.1 hi).1]
  exact hi
/-- What holds while the rows are made. -/
structure RowsOk (most : Nat) (step : K → Nat → K) (bs : List Nat) (start : K) (n : Nat) (f : List K) (rows : List (List Nat)) : Prop where
  len : f.length ≤ most
  nd : f.Nodup
  zero : f[0]? = some start
  rl : rows.length = n
  cols : ∀ row ∈ rows, row.length = bs.length
  ok : ∀ (i k : Nat) (row : List Nat) (b t : Nat) (x : K), rows[i]? = some row → bs[k]? = some b → row[k]? = some t → f[i]? = some x → f[t]? = some (step x b)
theorem foldRow_ok {f : List K} {x : K} (hl : f.length ≤ most) (hn : f.Nodup) : ∀ (k : Nat), k ≤ bs.length → ∀ (f' : List K) (row : List Nat), (bs.take k).foldl (rowF most step x) (some (f, [])) = some (f', row) →
    f'.length ≤ most ∧ f'.Nodup ∧ f <+: f' ∧ row.length = k ∧ ∀ (j b t : Nat), bs[j]? = some b → row[j]? = some t → f'[t]? = some (step x b) := by
  intro k
  induction k with
  | zero =>
    intro _ f' row h
    simp only [List.take_zero, List.foldl_nil, Option.some.injEq, Prod.mk.injEq] at h
    obtain ⟨rfl, rfl⟩ := h
    exact ⟨hl, hn, List.prefix_refl _, rfl, fun j b t _ h => by simp at h⟩
  | succ k ih =>
    intro hk f' row h
    obtain ⟨b, hb⟩ := get_some (l := bs) (k := k) (by omega)
    rw [take_succ_snoc hb, List.foldl_append] at h
    cases hp : (bs.take k).foldl (rowF most step x) (some (f, [])) with
    | none => rw [hp] at h; cases h
    | some p =>
      obtain ⟨f1, r1⟩ := p
      obtain ⟨i1, i2, i3, i4, i5⟩ := ih (by omega) f1 r1 hp
      rw [hp] at h
      simp only [List.foldl_cons, List.foldl_nil, rowF, Option.bind_some] at h
      cases ha : atF most f1 (step x b) with
      | none => rw [ha] at h; cases h
      | some r =>
        obtain ⟨f2, t2⟩ := r
        rw [ha] at h
        simp only [Option.map_some, Option.some.injEq, Prod.mk.injEq] at h
        obtain ⟨rfl, rfl⟩ := h
        obtain ⟨a1, a2, a3, a4⟩ := atF_some ha i1 i2
        refine ⟨a2, a3, i3.trans a4, by simp [i4], fun j c t hc ht => ?_⟩
        by_cases hj : j < k
        · rw [List.getElem?_append_left (by omega)] at ht
          exact pre_get a4 (i5 j c t hc ht)
        · have hjl := (List.getElem?_eq_some_iff.1 ht).1
          simp only [List.length_append, List.length_cons, List.length_nil] at hjl
          obtain rfl : j = k := by omega
          rw [hb] at hc
          injection hc with hc
          subst hc
          rw [List.getElem?_append_right (by omega), i4, Nat.sub_self] at ht
          simp only [List.getElem?_cons_zero, Option.some.injEq] at ht
          subst ht
          exact a1
theorem foldRow_pre {f : List K} {x : K} (hl : f.length ≤ most) (hn : f.Nodup) {f' : List K} {row : List Nat} (h : bs.foldl (rowF most step x) (some (f, [])) = some (f', row)) :
    f'.length ≤ most ∧ f'.Nodup ∧ f <+: f' ∧ row.length = bs.length ∧ ∀ (j b t : Nat), bs[j]? = some b → row[j]? = some t → f'[t]? = some (step x b) :=
  foldRow_ok hl hn bs.length (Nat.le_refl _) f' row (by rw [List.take_length]; exact h)
theorem rowsF_ok (hm : 1 ≤ most) : ∀ (n : Nat) (f : List K) (rows : List (List Nat)), rowsF most step bs start n = some (f, rows) → (∀ j, j < n → j < f.length) → RowsOk most step bs start n f rows
  | 0, f, rows, h, _ => by
    simp only [rowsF, Option.some.injEq, Prod.mk.injEq] at h
    obtain ⟨rfl, rfl⟩ := h
    exact ⟨hm, by simp, rfl, rfl, (fun row h => by cases h), fun i k row b t x h => by simp at h⟩
  | n + 1, f, rows, h, hlt => by
    simp only [rowsF] at h
    cases hp : rowsF most step bs start n with
    | none => rw [hp] at h; cases h
    | some p =>
      obtain ⟨f1, rows1⟩ := p
      rw [hp] at h
      simp only [Option.bind_some] at h
      cases hx : f1[n]? with
      | none =>
        rw [hx] at h
        simp only [Option.some.injEq, Prod.mk.injEq] at h
        obtain ⟨rfl, rfl⟩ := h
        have := hlt n (by omega)
        rw [List.getElem?_eq_none_iff] at hx
        omega
      | some x =>
        rw [hx] at h
        simp only at h
        cases hr : bs.foldl (rowF most step x) (some (f1, [])) with
        | none => rw [hr] at h; cases h
        | some r =>
          obtain ⟨f2, row⟩ := r
          rw [hr] at h
          simp only [Option.map_some, Option.some.injEq, Prod.mk.injEq] at h
          obtain ⟨rfl, rfl⟩ := h
          have hxl := (List.getElem?_eq_some_iff.1 hx).1
          have ih := rowsF_ok hm n f1 rows1 hp fun j hj => by omega
          obtain ⟨g1, g2, g3, g4, g5⟩ := foldRow_pre ih.len ih.nd hr
          refine ⟨g1, g2, pre_get g3 ih.zero, by simp [ih.rl], fun r hr' => ?_, fun i k r b t y hi hk ht hy => ?_⟩
          · rcases List.mem_append.1 hr' with hr' | hr'
            · exact ih.cols r hr'
            · rw [List.mem_singleton] at hr'; subst hr'; exact g4
          · by_cases hin : i < n
            · rw [List.getElem?_append_left (by rw [ih.rl]; exact hin)] at hi
              obtain ⟨y1, hy1⟩ := get_some (l := f1) (k := i) (by omega)
              have := pre_get g3 hy1
              rw [hy] at this
              injection this with this
              subst this
              exact pre_get g3 (ih.ok i k r b t y hi hk ht hy1)
            · have hil := (List.getElem?_eq_some_iff.1 hi).1
              simp only [List.length_append, List.length_cons, List.length_nil, ih.rl] at hil
              obtain rfl : i = n := by omega
              rw [List.getElem?_append_right (by rw [ih.rl]; exact Nat.le_refl _), ih.rl, Nat.sub_self] at hi
              simp only [List.getElem?_cons_zero, Option.some.injEq] at hi
              subst hi
              have := pre_get g3 hx
              rw [hy] at this
              injection this with this
              subst this
              exact g5 k b t hk ht
/-- Once all that was found has its row, nothing more is done. -/
theorem rowsF_stop {n : Nat} {f : List K} {rows : List (List Nat)} (h : rowsF most step bs start n = some (f, rows)) (hn : f.length ≤ n) : ∀ m, n ≤ m → rowsF most step bs start m = some (f, rows) := by
  intro m hm
  induction m with
  | zero => obtain rfl : n = 0 := by omega
            exact h
  | succ m ih =>
    by_cases he : n = m + 1
    · subst he; exact h
    · have := ih (by omega)
      simp only [rowsF, this, Option.bind_some]
      rw [List.getElem?_eq_none (by omega)]
theorem rowsF_fail {n : Nat} (h : rowsF most step bs start n = none) : ∀ m, n ≤ m → rowsF most step bs start m = none := by
  intro m hm
  induction m with
  | zero => obtain rfl : n = 0 := by omega
            exact h
  | succ m ih =>
    by_cases he : n = m + 1
    · subst he; exact h
    · have := ih (by omega)
      simp only [rowsF, this, Option.bind_none]
/-- What comes out: all that was found, with its rows, or nothing where there is no room. -/
def detF (most : Nat) (step : K → Nat → K) (bs : List Nat) (start : K) : Option (List K × List (List Nat)) := rowsF most step bs start most
theorem detF_done {n : Nat} {f : List K} {rows : List (List Nat)} (h : rowsF most step bs start n = some (f, rows)) (hn : f.length = n) (hl : f.length ≤ most) : detF most step bs start = some (f, rows) :=
  rowsF_stop h (by omega) most (by omega)
theorem detF_none {n : Nat} (h : rowsF most step bs start (n + 1) = none) (hn : n < most) : detF most step bs start = none := rowsF_fail h most hn
end
end Go.Proofs.YtfbghcpdinlmcaaGreatDoor
/- dfa.ready: an automaton's ways by the state that they leave: the walk. -/
set_option linter.unusedVariables false
set_option linter.unusedSimpArgs false
set_option maxRecDepth 100000
namespace Go.VC
section
variable {α : Type} {T : Ty α} {e te : TypeId} {nb : Nat} {vs : List Value} {xs : List (List α)} {B : Nat → Prop} {H0 H H1 : Heap} {ps : List Pc}
/-- append of a row of a table and one element of any size. -/
theorem appTW {P : Program} {tt ty q by_ t cap2 : Nat} {z : Value} {a : Option Addr} {n cap : Nat} {ds : List Value} {x : List α} {y : α} {K : Value → Heap → Prop} (st : StB B H0 H ps) (i : Nat) (ht : SlT P tt e T.size by_ z) (hp : ps[i]? = some (pT T e te nb vs xs)) (hv : vs[t]? = some (.slice a n cap)) (hx : xs[t]? = some x)
    (hd : Cells H q 0 ds) (hy : T.rep none_ H ds y) (hw : ds.all (·.oneCell') = true) (h63 : x.length + 1 ≤ 4194304) (hby : by_ ≤ 1024)
    (k : ∀ a' cap' H1, Mid T B H0 H H1 ps i e te nb vs xs t (.slice a' (x.length + 1) cap') (x ++ [y]) → Agr (fun k => k < H.size ∧ ¬ slB (.slice a n cap) k) H H1 → K (.slice a' (x.length + 1) cap') H1) : VEff P (Builtin.append_ #[tt, tt] ty [.slice a n cap, .slice (some ⟨q, 0, none⟩) 1 cap2].toArray) H K := by
  have tab := st.tab i hp
  have hown := tab.own t _ _ hv hx
  refine vappendO (T := T) (S := none_) (lo := nb + 1) (ys := [y]) ht hown tab.blk.lt (fun k hk => hk.elim) hd (Ty.reps_one hy) rfl (fun u hu => List.all_eq_true.1 hw u hu) (by unfold maxLen; simp only [List.length_singleton]; omega) (by have := Nat.mul_le_mul h63 hby; simp only [List.length_singleton]; omega) ?_
  intro v' H1 hown1 hagr hsz hfr
  obtain ⟨a', cap', rfl⟩ := hown1.hull
  rw [List.length_append, List.length_singleton] at hown1 hfr ⊢
  exact k a' cap' H1 ⟨st, hp, hown1, ⟨_, hv, hagr, hfr⟩, hsz⟩ hagr
/-- A row lies in none of the blocks of its table. -/
theorem StB.rowNe (st : StB B H0 H ps) (i : Nat) (hp : ps[i]? = some (pT T e te nb vs xs)) {t : Nat} {v : Value} {x : List α} (hv : vs[t]? = some v) (hx : xs[t]? = some x) : ¬ slB v nb := fun h => by
  have hown := (st.tab i hp).own t _ _ hv hx
  have := (hown.lt h).1
  omega
end
end Go.VC
namespace Go.Proofs.YtfbghcpdinlmcaaGreatDoor
open Go.VC
/-! ### grouping -/
section
variable {β : Type}
def grp (n : Nat) (key : EdM → Option (Nat × β)) (l : List EdM) : List (List β) := (List.range n).map fun q => l.filterMap fun e => (key e).bind fun p => if p.1 = q then some p.2 else none
theorem grp_len (n : Nat) (key : EdM → Option (Nat × β)) (l : List EdM) : (grp n key l).length = n := by simp [grp]
theorem grp_get {n q : Nat} (key : EdM → Option (Nat × β)) (l : List EdM) (h : q < n) : (grp n key l)[q]? = some (l.filterMap fun e => (key e).bind fun p => if p.1 = q then some p.2 else none) := by
  unfold grp
  rw [List.getElem?_map, List.getElem?_range h]
  rfl
theorem grp_nil (n : Nat) (key : EdM → Option (Nat × β)) : grp n key [] = List.replicate n [] := by
  unfold grp
  simp [List.map_const']
theorem grp_none {n : Nat} {key : EdM → Option (Nat × β)} {l : List EdM} {e : EdM} (h : key e = none) : grp n key (l ++ [e]) = grp n key l := by
  unfold grp
  refine List.map_congr_left fun q _ => ?_
  rw [List.filterMap_append]
  simp [h]
theorem grp_some {n q : Nat} {key : EdM → Option (Nat × β)} {l : List EdM} {e : EdM} {y : β} {row : List β} (h : key e = some (q, y)) (hr : (grp n key l)[q]? = some row) : grp n key (l ++ [e]) = (grp n key l).set q (row ++ [y]) := by
  have hq : q < n := by have := (List.getElem?_eq_some_iff.1 hr).1; rwa [grp_len] at this
  rw [grp_get key l hq] at hr
  injection hr with hr
  apply List.ext_getElem?
  intro j
  by_cases hj : j < n
  · rw [grp_get key _ hj, List.filterMap_append, List.getElem?_set, grp_len, grp_get key _ hj]
    by_cases hjq : q = j
    · subst hjq
      rw [if_pos rfl, if_pos hj, ← hr]
      simp [h]
    · rw [if_neg hjq]
      simp [h, hjq]
  · rw [List.getElem?_eq_none (by rw [grp_len]; omega), List.getElem?_eq_none (by rw [List.length_set, grp_len]; omega)]
end
def nstA (a : NfM) : Nat := if 0 ≤ a.st ∧ a.st ≤ 65536 then a.st.toNat else 0
theorem nstA_le (a : NfM) : nstA a ≤ 65536 := by unfold nstA; split <;> omega
theorem has_n (a : NfM) (q : Int) : a.has q = (decide (0 ≤ q) && decide (q < (nstA a : Int))) := by
  rw [Bool.eq_iff_iff, NfM.has_iff]
  unfold nstA
  simp only [Bool.and_eq_true, decide_eq_true_eq]
  split <;> omega
def okE (a : NfM) (e : EdM) : Bool := a.has e.fr && a.has e.to
def keyS (a : NfM) (e : EdM) : Option (Nat × Int) := if okE a e && e.sil then some (e.fr.toNat, e.to) else none
def keyT (a : NfM) (e : EdM) : Option (Nat × EdM) := if okE a e && !e.sil then some (e.fr.toNat, e) else none
def silT (a : NfM) : List (List Int) := grp (nstA a) (keyS a) a.edges
def takT (a : NfM) : List (List EdM) := grp (nstA a) (keyT a) a.edges
abbrev tNt : TypeId := 172
def ntL (sv tv : Value) (n : Nat) : List Value := [sv, tv, .int .i64 (n : Int)]
/-- A net made ready, to be read. -/
def NetV (S : Nat → Prop) (H : Heap) (v : Value) (a : NfM) : Prop := ∃ nb sa sc ta tc, v = .pointer (some ⟨nb, 0, none⟩) ∧ S nb ∧ Cells H nb 0 (ntL (.slice sa (nstA a) sc) (.slice ta (nstA a) tc) (nstA a)) ∧ SlD (tSl tIk) S H sa sc (silT a) ∧ SlD (tSl tEd) S H ta tc (takT a)
theorem NetV.frame {S : Nat → Prop} {H H' : Heap} {v : Value} {a : NfM} (h : NetV S H v a) (k : Agr S H H') : NetV S H' v a := by
  obtain ⟨nb, sa, sc, ta, tc, h1, h2, h3, h4, h5⟩ := h
  exact ⟨nb, sa, sc, ta, tc, h1, h2, h3.eq (k nb h2), h4.frame k, h5.frame k⟩
theorem NetV.mono {S S' : Nat → Prop} {H : Heap} {v : Value} {a : NfM} (h : NetV S H v a) (k : ∀ i, S i → S' i) : NetV S' H v a := by
  obtain ⟨nb, sa, sc, ta, tc, h1, h2, h3, h4, h5⟩ := h
  exact ⟨nb, sa, sc, ta, tc, h1, k _ h2, h3, h4.mono k, h5.mono k⟩
theorem nhas_p {H : Heap} {nb : Nat} {sv tv : Value} {a : NfM} {q : Int} (h : Cells H nb 0 (ntL sv tv (nstA a))) : Pure Tryz.prog 88 #[.pointer (some ⟨nb, 0, none⟩), .int .i64 q] H (.bool (a.has q)) := by
  refine FnOk.of_vc Tryz.func88 rfl (Tryz.call88 _) ?_
  by_cases h0 : 0 ≤ q
  · have d0 : decide ((0 : Int) ≤ q) = true := decide_eq_true h0
    (conv => whnf); rw [d0]
    (conv => whnf); refine fa fl172_2 ?_
    (conv => whnf); refine ld1 (v := .int .i64 (nstA a : Int)) ct3 (h 2 _ rfl) trivial ?_
    (conv => whnf)
    exact ⟨by rw [has_n, d0, Bool.true_and], Agr.refl _ _⟩
  · have d0 : decide ((0 : Int) ≤ q) = false := decide_eq_false h0
    (conv => whnf); rw [d0]
    (conv => whnf)
    exact ⟨by rw [has_n, d0, Bool.false_and], Agr.refl _ _⟩
-- READY
theorem nt_z : (Tryz.prog.info? 172).bind (·.zero) = some (.agg #[.slice none 0 0, .slice none 0 0, .int .i64 0]) := rfl
set_option maxHeartbeats 16000000 in
theorem ready_c {S : Nat → Prop} {H : Heap} {v : Value} {a : NfM} (hS : ∀ k, S k → k < H.size) (h : NfV S H v a) :
    FnOk Tryz.prog 87 #[v] H fun r H' => Agr (Old H) H H' ∧ NetV (Old H') H' r a := by
  have hr := h.1
  have hl := h.2.1
  refine FnOk.of_vc Tryz.func87 rfl (Tryz.call87 _) ?_
  (conv => whnf); refine nf_box h fun ea ec he0 h1 => ?_
  subst he0
  intro p H1 hp hs1 hb1 ha1
  have st1 := (St.nil H).box hp hs1 hb1 ha1
  (conv => whnf); refine vbuildS Tryz.underlying172 rfl _ nt_z (ntL (.slice none 0 0) (.slice none 0 0) 0) rfl ?_
  (conv => whnf); refine vbox (ntL (.slice none 0 0) (.slice none 0 0) 0) rfl ?_
  intro nb H2 hnb hs2 hb2 ha2
  have st2 := st1.box hnb hs2 hb2 ha2
  have hnle := nstA_le a
  obtain ⟨n, hn⟩ : ∃ n, n = nstA a := ⟨_, rfl⟩
  rw [← hn] at hnle
  have hp2 := st2.blk 0 rfl
  have cond : ∀ c : Bool, c = (decide ((0 : Int) ≤ a.st) && decide (a.st ≤ 65536)) → (c = true → (n : Int) = a.st) ∧ (c = false → n = 0) := by
    intro c hc
    rw [hc, hn]
    unfold nstA
    constructor
    · intro h
      simp only [Bool.and_eq_true, decide_eq_true_eq] at h
      rw [if_pos h]; omega
    · intro h
      rw [if_neg fun h2 => by simp [h2.1, h2.2] at h]
  (conv => whnf)
  refine VSeq.cut (α := Unit) [] (fun _ => []) (fun _ H3 => St H H3 [pB 76 p (nfL a (.slice ea a.edges.length ec)), pB tNt nb (ntL (.slice none 0 0) (.slice none 0 0) n)]) ?_ ?_
  · (conv => whnf); refine fa fl76_0 ?_
    (conv => whnf); refine ld1 (v := .int .i64 a.st) ct3 (by rw [hp2.cell]; rfl) trivial ?_
    by_cases h0 : 0 ≤ a.st
    · have d0 : decide ((0 : Int) ≤ a.st) = true := decide_eq_true h0
      (conv => whnf); rw [d0]
      (conv => whnf); refine fa fl76_0 ?_
      (conv => whnf); refine ld1 (v := .int .i64 a.st) ct3 (by rw [hp2.cell]; rfl) trivial ?_
      by_cases h6 : a.st ≤ 65536
      · have d6 : decide (a.st ≤ (65536 : Int)) = true := decide_eq_true h6
        have hns : (n : Int) = a.st := (cond true (by rw [d0, d6]; rfl)).1 rfl
        (conv => whnf); rw [d6]
        (conv => whnf); refine fa fl76_0 ?_
        (conv => whnf); refine ld1 (v := .int .i64 a.st) ct3 (by rw [hp2.cell]; rfl) trivial ?_
        (conv => whnf); refine fa fl172_2 ?_
        (conv => whnf); refine st1B st2 1 ct3 rfl (show 2 < 3 by decide) rfl fun H3 st3 => ?_
        refine ⟨rfl, (), rfl, ?_⟩
        unfold ntL
        rw [hns]
        exact st3
      · have d6 : decide (a.st ≤ (65536 : Int)) = false := decide_eq_false h6
        obtain rfl : n = 0 := (cond false (by rw [d0, d6]; rfl)).2 rfl
        (conv => whnf); rw [d6]
        (conv => whnf)
        exact ⟨rfl, (), rfl, st2⟩
    · have d0 : decide ((0 : Int) ≤ a.st) = false := decide_eq_false h0
      obtain rfl : n = 0 := (cond false (by rw [d0]; rfl)).2 rfl
      (conv => whnf); rw [d0]
      (conv => whnf)
      exact ⟨rfl, (), rfl, st2⟩
  · rintro ⟨⟩ H3 junk3 st3
    (conv => whnf); refine fa fl172_2 ?_
    (conv => whnf); refine ld1 (v := .int .i64 (n : Int)) ct3 (by rw [(st3.blk 1 rfl).cell]; rfl) trivial ?_
    (conv => whnf); refine vmake1 sl35 rfl (by omega) (by omega) (by omega) (by omega) ?_
    intro sb H4 hsb hs4 hb4 ha4
    rw [Int.toNat_natCast] at hb4 ⊢
    have st4 := st3.tabNew tIk 3 hsb hs4 hb4 ha4
    (conv => whnf); refine fa fl172_0 ?_
    (conv => whnf); refine st1B st4 1 ct35 rfl (show 0 < 3 by decide) rfl fun H5 st5 => ?_
    (conv => whnf); refine fa fl172_2 ?_
    (conv => whnf); refine ld1 (v := .int .i64 (n : Int)) ct3 (by rw [(st5.blk 1 rfl).cell]; rfl) trivial ?_
    (conv => whnf); refine vmake1 sl170 rfl (by omega) (by omega) (by omega) (by omega) ?_
    intro tb H6 htb hs6 hb6 ha6
    rw [Int.toNat_natCast] at hb6 ⊢
    have st6 := st5.tabNew tEd 174 htb hs6 hb6 ha6
    (conv => whnf); refine fa fl172_1 ?_
    (conv => whnf); refine st1B st6 1 ct170 rfl (show 1 < 3 by decide) rfl fun H7 st7 => ?_
    have hp7 := st7.blk 0 rfl
    (conv => whnf); refine fa fl76_3 ?_
    (conv => whnf); refine ld1 (v := .slice ea a.edges.length ec) ct74 (by rw [hp7.cell]; rfl) trivial ?_
    (conv => whnf)
    refine VLoop.mk [40] (fun i : Nat => [.int .i64 (i : Int)]) (fun i H8 => i ≤ a.edges.length ∧ ∃ vs vt, St H H8 [pB 76 p (nfL a (.slice ea a.edges.length ec)), pB tNt nb (ntL (.slice (some ⟨sb, 0, none⟩) n n) (.slice (some ⟨tb, 0, none⟩) n n) n), pT tIk 3 41 sb vs (grp n (keyS a) (a.edges.take i)), pT tEd 174 74 tb vt (grp n (keyT a) (a.edges.take i))]) (fun i _ => a.edges.length - i) ?_ ?_
    · (conv => whnf)
      refine ⟨0, rfl, Nat.zero_le _, List.replicate n (.slice none 0 0), List.replicate n (.slice none 0 0), ?_⟩
      rw [List.take_zero, grp_nil, grp_nil]
      exact st7
    · rintro i H8 junk8 ⟨hi, vs, vt, st8⟩
      (conv => whnf); refine VIte.mk (fun hz => ?_) (fun hz => ?_) <;> simp only [decide_eq_true_eq, decide_eq_false_iff_not] at hz
      · obtain ⟨e, he⟩ := get_some (l := a.edges) (k := i) (by omega)
        (conv => whnf); refine VSeq.run ?_
        (conv => whnf); refine ixr (i := i) sl74 (h1.frame (st8.old.mono hS)) he rfl ?_
        rintro b6 o6 c6 hS6 hc6 ⟨rfl, hok⟩
        (conv => whnf); refine ldN (cs := edL e) ag174 hc6 trivial ?_
        (conv => whnf); refine valloc _ [.int .i64 0, .int .i64 0, .bool false, .int .u64 0, .int .u64 0, .int .u64 0, .int .u64 0] edge_z rfl ?_
        intro x H9 hx hs9 hb9 ha9
        have st9' := st8.box hx hs9 hb9 ha9
        (conv => whnf); refine stNB (cs := edL e) st9' 4 rfl rfl (Nat.le_refl _) rfl fun H10 st10 => ?_
        rw [splice_all (show (edL e).length = 7 from rfl)] at st10
        clear st9' hs9 hb9 ha9
        obtain ⟨H9, rfl⟩ : ∃ H9, H9 = H10 := ⟨_, rfl⟩
        have st9 := st10
        have hX := st9.blk 4 rfl
        have hcells : Cells H9 nb 0 (ntL (.slice (some ⟨sb, 0, none⟩) n n) (.slice (some ⟨tb, 0, none⟩) n n) (nstA a)) := by
          rw [← hn]; exact (st9.blk 1 rfl).cells fun j v hv => by rw [Nat.zero_add]; exact hv
        (conv => whnf); refine fa fl174_0 ?_
        (conv => whnf); refine ld1 (v := .int .i64 e.fr) ct3 (by rw [hX.cell]; rfl) trivial ?_
        (conv => whnf); refine pures (nhas_p hcells) fun H14 ha14 => ?_
        have st14 := st9.call ha14
        cases hf : a.has e.fr with
        | false =>
          have k1 : keyS a e = none := by unfold keyS okE; rw [hf, Bool.false_and, Bool.false_and]; rfl
          have k2 : keyT a e = none := by unfold keyT okE; rw [hf, Bool.false_and, Bool.false_and]; rfl
          have g1 := grp_none (n := n) (l := a.edges.take i) k1
          have g2 := grp_none (n := n) (l := a.edges.take i) k2
          rw [← take_succ_snoc he] at g1 g2
          (conv => whnf); rw [w64 (x := (i : Int) + 1) (by omega) (by omega)]
          refine ⟨rfl, i + 1, by simp, ⟨by omega, vs, vt, ?_⟩, by omega⟩
          rw [g1, g2]
          exact st14.pick [0, 1, 2, 3] (by decide)
        | true =>
          (conv => whnf); refine fa fl174_1 ?_
          (conv => whnf); refine ld1 (v := .int .i64 e.to) ct3 (by rw [(st14.blk 4 rfl).cell]; rfl) trivial ?_
          (conv => whnf); refine pures (nhas_p (hcells.eq (ha14 nb (st9.in_ 1 rfl rfl).2))) fun Hq ha15 => ?_
          have stq := st14.call ha15
          cases ht : a.has e.to with
          | false =>
            have k1 : keyS a e = none := by unfold keyS okE; rw [hf, ht, Bool.and_false, Bool.false_and]; rfl
            have k2 : keyT a e = none := by unfold keyT okE; rw [hf, ht, Bool.and_false, Bool.false_and]; rfl
            have g1 := grp_none (n := n) (l := a.edges.take i) k1
            have g2 := grp_none (n := n) (l := a.edges.take i) k2
            rw [← take_succ_snoc he] at g1 g2
            (conv => whnf); rw [w64 (x := (i : Int) + 1) (by omega) (by omega)]
            refine ⟨rfl, i + 1, by simp, ⟨by omega, vs, vt, ?_⟩, by omega⟩
            rw [g1, g2]
            exact stq.pick [0, 1, 2, 3] (by decide)
          | true =>
            have hfr := NfM.has_iff.1 hf
            have hfn : 0 ≤ e.fr ∧ e.fr < (n : Int) := by
              have := has_n a e.fr
              rw [hf, ← hn] at this
              simpa using this.symm
            have htn : e.fr.toNat < n := by omega
            (conv => whnf); refine fa fl174_2 ?_
            (conv => whnf); refine ld1 (v := .bool e.sil) ct4 (by rw [(stq.blk 4 rfl).cell]; rfl) trivial ?_
            cases hsl : e.sil with
            | true =>
              (conv => whnf)
              obtain ⟨row, hrow⟩ := get_some (l := grp n (keyS a) (a.edges.take i)) (k := e.fr.toNat) (by rw [grp_len]; omega)
              have hrl : row.length ≤ i := by
                rw [grp_get _ _ (show e.fr.toNat < n by omega)] at hrow
                injection hrow with hrow
                rw [← hrow]
                exact Nat.le_trans (List.length_filterMap_le _ _) (List.length_take_le _ _)
              obtain ⟨ra, rc, hvr, -⟩ := stq.row 2 rfl hrow
              have hne := stq.rowNe 2 rfl hvr hrow
              have foot : ∀ k, slB (.slice ra row.length rc) k → (pT tIk 3 41 sb vs (grp n (keyS a) (a.edges.take i))).foot k := fun k hk => .inr ⟨e.fr.toNat, _, hvr, hk⟩
              have d1 := stq.apart2 (i := 1) (j := 2) rfl rfl (by decide)
              have d4 := stq.apart2 (i := 4) (j := 2) rfl rfl (by decide)
              have qn : nb < Hq.size ∧ ¬ slB (.slice ra row.length rc) nb := ⟨(stq.in_ 1 rfl rfl).2, fun h => d1 nb rfl (foot nb h)⟩
              have qx : x < Hq.size ∧ ¬ slB (.slice ra row.length rc) x := ⟨(stq.in_ 4 rfl rfl).2, fun h => d4 x rfl (foot x h)⟩
              have qt : sb < Hq.size ∧ ¬ slB (.slice ra row.length rc) sb := ⟨(stq.in_ 2 rfl (.inl rfl)).2, hne⟩
              have hbq := stq.blk 1 rfl
              have hxq := stq.blk 4 rfl
              (conv => whnf); refine VDraw.heldZ (fun k => k < Hq.size ∧ ¬ slB (.slice ra row.length rc) k) [19] (sq [0,1,2,3,4,5,6,7,8,9,10,11,12,13,14,15] (.f 16 (.f 17 (sq [18] (.f 19 .e))))) rfl (by kernel_rfl) ?_
              (conv => whnf); refine fa fl172_0 ?_
              (conv => whnf); refine ld1 (v := .slice (some ⟨sb, 0, none⟩) n n) ct35 (by rw [hbq.cell]; rfl) qn ?_
              (conv => whnf); refine fa fl174_0 ?_
              (conv => whnf); refine ld1 (v := .int .i64 e.fr) ct3 (by rw [hxq.cell]; rfl) qx ?_
              (conv => whnf); refine fa fl172_0 ?_
              (conv => whnf); refine ld1 (v := .slice (some ⟨sb, 0, none⟩) n n) ct35 (by rw [hbq.cell]; rfl) qn ?_
              (conv => whnf); refine fa fl174_0 ?_
              (conv => whnf); refine ld1 (v := .int .i64 e.fr) ct3 (by rw [hxq.cell]; rfl) qx ?_
              (conv => whnf); refine ix sl35 (by omega) (by omega) ?_
              (conv => whnf); refine ld1 ct41 (stq.tcell 2 rfl hvr (by rw [Nat.zero_add, Nat.mul_one])) qt ?_
              (conv => whnf); refine fa fl174_1 ?_
              (conv => whnf); refine ld1 (v := .int .i64 e.to) ct3 (by rw [hxq.cell]; rfl) qx ?_
              (conv => whnf); refine vbuild1 sl41 [.int .i64 e.to] rfl rfl (by decide) (by decide) ?_
              intro q11 H11 hq11 hs11 hb11 ha11
              have st11 := stq.skip hq11 ha11
              refine ⟨ha11.mono fun k hk => by have := hk.1; omega, ?_⟩
              (conv => whnf); refine appTW (ds := [.int .i64 e.to]) (y := e.to) st11 2 sl41 rfl hvr hrow (hb11.cells fun j v hv => by rw [Nat.zero_add]; exact hv) ⟨rfl, hok.2⟩ rfl (by omega) (by decide) fun wa wc H12 mid ha12 => ?_
              refine ⟨(ha11.mono fun k hk => by have := hk.1; omega).trans (ha12.mono fun k hk => ⟨by have := hk.1; omega, hk.2⟩), ?_⟩
              (conv => whnf); refine ix sl35 (by omega) (by omega) ?_
              (conv => whnf); refine stT mid ct41 (by rw [Nat.zero_add, Nat.mul_one]) fun H13 st13 => ?_
              have hk1 : keyS a e = some (e.fr.toNat, e.to) := by unfold keyS okE; rw [hf, ht, hsl]; rfl
              have hk2 : keyT a e = none := by unfold keyT okE; rw [hf, ht, hsl]; rfl
              have g1 := grp_some hk1 hrow
              have g2 := grp_none (n := n) (l := a.edges.take i) hk2
              rw [← take_succ_snoc he] at g1 g2
              (conv => whnf); rw [w64 (x := (i : Int) + 1) (by omega) (by omega)]
              refine ⟨rfl, i + 1, by simp, ⟨by omega, vs.set e.fr.toNat (.slice wa (row.length + 1) wc), vt, ?_⟩, by omega⟩
              rw [g1, g2]
              exact st13.pick [0, 1, 2, 3] (by decide)
            | false =>
              (conv => whnf)
              obtain ⟨row, hrow⟩ := get_some (l := grp n (keyT a) (a.edges.take i)) (k := e.fr.toNat) (by rw [grp_len]; omega)
              have hrl : row.length ≤ i := by
                rw [grp_get _ _ (show e.fr.toNat < n by omega)] at hrow
                injection hrow with hrow
                rw [← hrow]
                exact Nat.le_trans (List.length_filterMap_le _ _) (List.length_take_le _ _)
              obtain ⟨ra, rc, hvr, -⟩ := stq.row 3 rfl hrow
              have hne := stq.rowNe 3 rfl hvr hrow
              have foot : ∀ k, slB (.slice ra row.length rc) k → (pT tEd 174 74 tb vt (grp n (keyT a) (a.edges.take i))).foot k := fun k hk => .inr ⟨e.fr.toNat, _, hvr, hk⟩
              have d1 := stq.apart2 (i := 1) (j := 3) rfl rfl (by decide)
              have d4 := stq.apart2 (i := 4) (j := 3) rfl rfl (by decide)
              have qn : nb < Hq.size ∧ ¬ slB (.slice ra row.length rc) nb := ⟨(stq.in_ 1 rfl rfl).2, fun h => d1 nb rfl (foot nb h)⟩
              have qx : x < Hq.size ∧ ¬ slB (.slice ra row.length rc) x := ⟨(stq.in_ 4 rfl rfl).2, fun h => d4 x rfl (foot x h)⟩
              have qt : tb < Hq.size ∧ ¬ slB (.slice ra row.length rc) tb := ⟨(stq.in_ 3 rfl (.inl rfl)).2, hne⟩
              have hbq := stq.blk 1 rfl
              have hxq := stq.blk 4 rfl
              (conv => whnf); refine VDraw.heldZ (fun k => k < Hq.size ∧ ¬ slB (.slice ra row.length rc) k) [18] (sq [0,1,2,3,4,5,6,7,8,9,10,11,12,13,14] (.f 15 (.f 16 (sq [17] (.f 18 .e))))) rfl (by kernel_rfl) ?_
              (conv => whnf); refine fa fl172_1 ?_
              (conv => whnf); refine ld1 (v := .slice (some ⟨tb, 0, none⟩) n n) ct170 (by rw [hbq.cell]; rfl) qn ?_
              (conv => whnf); refine fa fl174_0 ?_
              (conv => whnf); refine ld1 (v := .int .i64 e.fr) ct3 (by rw [hxq.cell]; rfl) qx ?_
              (conv => whnf); refine fa fl172_1 ?_
              (conv => whnf); refine ld1 (v := .slice (some ⟨tb, 0, none⟩) n n) ct170 (by rw [hbq.cell]; rfl) qn ?_
              (conv => whnf); refine fa fl174_0 ?_
              (conv => whnf); refine ld1 (v := .int .i64 e.fr) ct3 (by rw [hxq.cell]; rfl) qx ?_
              (conv => whnf); refine ix sl170 (by omega) (by omega) ?_
              (conv => whnf); refine ld1 ct74 (stq.tcell 3 rfl hvr (by rw [Nat.zero_add, Nat.mul_one])) qt ?_
              (conv => whnf); refine ldN (cs := edL e) ag174 (hxq.cells fun j v hv => by rw [Nat.zero_add]; exact hv) qx ?_
              (conv => whnf); refine vbuild1 sl74 (edL e) rfl rfl (by decide) (by decide) ?_
              intro q11 H11 hq11 hs11 hb11 ha11
              have st11 := stq.skip hq11 ha11
              refine ⟨ha11.mono fun k hk => by have := hk.1; omega, ?_⟩
              (conv => whnf); refine appTW (ds := edL e) (y := e) st11 3 sl74 rfl hvr hrow (hb11.cells fun j v hv => by rw [Nat.zero_add]; exact hv) ⟨rfl, hok⟩ (ed_ones e) (by omega) (by decide) fun wa wc H12 mid ha12 => ?_
              refine ⟨(ha11.mono fun k hk => by have := hk.1; omega).trans (ha12.mono fun k hk => ⟨by have := hk.1; omega, hk.2⟩), ?_⟩
              (conv => whnf); refine ix sl170 (by omega) (by omega) ?_
              (conv => whnf); refine stT mid ct74 (by rw [Nat.zero_add, Nat.mul_one]) fun H13 st13 => ?_
              have hk1 : keyT a e = some (e.fr.toNat, e) := by unfold keyT okE; rw [hf, ht, hsl]; rfl
              have hk2 : keyS a e = none := by unfold keyS okE; rw [hf, ht, hsl]; rfl
              have g1 := grp_some hk1 hrow
              have g2 := grp_none (n := n) (l := a.edges.take i) hk2
              rw [← take_succ_snoc he] at g1 g2
              (conv => whnf); rw [w64 (x := (i : Int) + 1) (by omega) (by omega)]
              refine ⟨rfl, i + 1, by simp, ⟨by omega, vs, vt.set e.fr.toNat (.slice wa (row.length + 1) wc), ?_⟩, by omega⟩
              rw [g1, g2]
              exact st13.pick [0, 1, 2, 3] (by decide)
      · obtain rfl : i = a.edges.length := by omega
        rw [List.take_length] at st8
        (conv => whnf)
        refine ⟨st8.old, nb, some ⟨sb, 0, none⟩, n, some ⟨tb, 0, none⟩, n, rfl, (st8.in_ 1 rfl rfl).2, ?_, ?_, ?_⟩
        · rw [← hn]; exact (st8.blk 1 rfl).cells fun j v hv => by rw [Nat.zero_add]; exact hv
        · have := st8.tview 2 rfl (by rw [grp_len]; unfold maxLen; omega)
          unfold silT
          rw [← hn]
          rw [grp_len] at this
          exact this
        · have := st8.tview 3 rfl (by rw [grp_len]; unfold maxLen; omega)
          unfold takT
          rw [← hn]
          rw [grp_len] at this
          exact this
-- END READY
end Go.Proofs.YtfbghcpdinlmcaaGreatDoor
/- louperef05.tabled: the walk. -/
set_option linter.unusedVariables false
set_option linter.unusedSimpArgs false
set_option maxRecDepth 100000
namespace Go.Proofs.YtfbghcpdinlmcaaGreatDoor
open Go.VC
theorem bool_reps {S : Nat → Prop} {H : Heap} : ∀ xs : List Bool, tBool.reps S H (xs.map Value.bool) xs
  | [] => rfl
  | x :: xs => ⟨[.bool x], xs.map Value.bool, rfl, rfl, bool_reps xs⟩
end Go.Proofs.YtfbghcpdinlmcaaGreatDoor
/- The document's book of sets: hash: the walk. -/
set_option linter.unusedVariables false
set_option linter.unusedSimpArgs false
set_option maxRecDepth 100000
namespace Go.Proofs.YtfbghcpdinlmcaaGreatDoor
open Go.VC
end Go.Proofs.YtfbghcpdinlmcaaGreatDoor
