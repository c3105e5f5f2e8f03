/- Parts of the proof: VBase, VHeap, VTy, VOps, VFacts, PClass, PNfa1, VMem, PBits, MDfa -/
import Derived.OrdersHeld
import Derived.Deep.Quiet
import Derived.StillTail
import Derived.Tactics
import Derived.NoCompiler
import Derived.WalkKit
import Derived.Deep.MidRow
import Derived.Deep.AppendSrc
import Derived.DeepKeys
import Derived.Test.YtlnmhfhdjnenoaaGreatDoorProg
import Derived.Laws.Pointers
/- The plain law calculus of these claims: a function that turns the code of a Go function into what is to be shown of it, over frames and heaps. -/
set_option linter.unusedSimpArgs false
namespace Go.VC

abbrev Heap := Array Obj
abbrev Fr := List Value

structure Env (w w' : World) : Prop where
  os : w'.os = w.os
  tape : w'.tape = w.tape
  output : w'.output = w.output

theorem Env.refl (w : World) : Env w w := ⟨rfl, rfl, rfl⟩
theorem Env.trans {a b c : World} (h : Env a b) (k : Env b c) : Env a c :=
  ⟨k.os.trans h.os, k.tape.trans h.tape, k.output.trans h.output⟩

/-- Called in any world over this heap, function f returns, and R holds of what it returns and of the heap. -/
def FnOk (P : Program) (f : FuncId) (args : Array Value) (H : Heap) (R : Value → Heap → Prop) : Prop :=
  ∀ w : World, w.heap = H → (callFunc f args).run P w = .ok (.enter f args) w ∧
    Calls P f args w fun e w' => ∃ v, e = .returned v ∧ Env w w' ∧ R v w'.heap

theorem FnOk.mono {P : Program} {f : FuncId} {args : Array Value} {H : Heap} {R R' : Value → Heap → Prop}
    (h : FnOk P f args H R) (hr : ∀ v H', R v H' → R' v H') : FnOk P f args H R' := fun w hw =>
  ⟨(h w hw).1, (h w hw).2.mono fun _ _ ⟨v, he, hv, r⟩ => ⟨v, he, hv, hr _ _ r⟩⟩

/-- The two heaps are alike at the blocks of S. -/
def Agr (S : Nat → Prop) (H H' : Heap) : Prop := ∀ k, S k → H'[k]? = H[k]?

theorem Agr.refl (S : Nat → Prop) (H : Heap) : Agr S H H := fun _ _ => rfl
theorem Agr.trans {S : Nat → Prop} {a b c : Heap} (h : Agr S a b) (k : Agr S b c) : Agr S a c :=
  fun i hi => (k i hi).trans (h i hi)
theorem Agr.mono {S S' : Nat → Prop} {a b : Heap} (h : Agr S a b) (hs : ∀ k, S' k → S k) : Agr S' a b :=
  fun i hi => h i (hs i hi)

/-- An operation that reads alone: one value, in all heaps that are alike at S. -/
structure VDet (P : Program) (m : Sem Value) (S : Nat → Prop) (H : Heap) (K : Value → Prop) : Prop where
  in_ ::
  out_ : ∃ v, (∀ w : World, Agr S H w.heap → m.run P w = .ok v w) ∧ K v
/-- An operation that may write or draw. -/
structure VEff (P : Program) (m : Sem Value) (H : Heap) (K : Value → Heap → Prop) : Prop where
  in_ ::
  out_ : ∀ w : World, w.heap = H → ∃ v w', m.run P w = .ok v w' ∧ Env w w' ∧ K v w'.heap
structure VEffU (P : Program) (m : Sem Unit) (H : Heap) (K : Heap → Prop) : Prop where
  in_ ::
  out_ : ∀ w : World, w.heap = H → ∃ w', m.run P w = .ok () w' ∧ Env w w' ∧ K w'.heap
structure VCall (P : Program) (f : FuncId) (args : Array Value) (H : Heap) (K : Value → Heap → Prop) : Prop where
  in_ ::
  out_ : FnOk P f args H K
structure VCallQ (P : Program) (f : FuncId) (args : Array Value) (S : Nat → Prop) (H : Heap) (K : Value → Prop) : Prop where
  in_ ::
  out_ : ∃ v, (∀ H', Agr S H H' → FnOk P f args H' fun v' H'' => v' = v ∧ Agr S H' H'') ∧ K v

theorem VDet.mk {P : Program} {m : Sem Value} {S : Nat → Prop} {H : Heap} {K : Value → Prop} (v : Value)
    (h : ∀ w : World, Agr S H w.heap → m.run P w = .ok v w) (k : K v) : VDet P m S H K := by
  exact ⟨⟨v, h, k⟩⟩
theorem VEff.mk {P : Program} {m : Sem Value} {H : Heap} {K : Value → Heap → Prop}
    (h : ∀ w : World, w.heap = H → ∃ v w', m.run P w = .ok v w' ∧ Env w w' ∧ K v w'.heap) : VEff P m H K := by
  exact ⟨h⟩
theorem VEffU.mk {P : Program} {m : Sem Unit} {H : Heap} {K : Heap → Prop}
    (h : ∀ w : World, w.heap = H → ∃ w', m.run P w = .ok () w' ∧ Env w w' ∧ K w'.heap) : VEffU P m H K := by
  exact ⟨h⟩
theorem VCall.mk {P : Program} {f : FuncId} {args : Array Value} {H : Heap} {K R : Value → Heap → Prop}
    (h : FnOk P f args H R) (k : ∀ v H', R v H' → K v H') : VCall P f args H K := by
  exact ⟨h.mono k⟩
theorem VCallQ.mk {P : Program} {f : FuncId} {args : Array Value} {S : Nat → Prop} {H : Heap} {K : Value → Prop} (v : Value)
    (h : ∀ H', Agr S H H' → FnOk P f args H' fun v' H'' => v' = v ∧ Agr S H' H'') (k : K v) : VCallQ P f args S H K := by
  exact ⟨⟨v, h, k⟩⟩

/-- A test. -/
def VIte (b : Bool) (p q : Prop) : Prop := match b with | true => p | false => q
theorem VIte.mk {b : Bool} {p q : Prop} (h : b = true → p) (k : b = false → q) : VIte b p q := by
  cases b; exact k rfl; exact h rfl
/-! ### frames -/
noncomputable def rdK {R : Type} (l : Fr) : Nat → (Value → R) → R :=
  List.rec (motive := fun _ => Nat → (Value → R) → R) (fun _ K => K undef) (fun v _ ih n K => Nat.casesOn n (K v) fun m => ih m K) l
noncomputable def wrK {R : Type} (l : Fr) : Nat → Value → (Fr → R) → R :=
  List.rec (motive := fun _ => Nat → Value → (Fr → R) → R) (fun _ _ K => K []) (fun x l ih n v K => Nat.casesOn n (K (v :: l)) fun m => ih m v fun l' => K (x :: l')) l
noncomputable def evK {R : Type} (fr : Fr) (x : Operand) (K : Value → R) : R :=
  match x with
  | .tmp t => rdK fr t K
  | .const v => K v
  | .global g => K (.pointer (some ⟨g, 0, none⟩))
  | .func f => K (.func (.func f) #[] #[])
noncomputable def evsK {R : Type} (fr : Fr) (l : List Operand) : (List Value → R) → R :=
  List.rec (motive := fun _ => (List Value → R) → R) (fun K => K []) (fun x _ ih K => evK fr x fun v => ih fun vs => K (v :: vs)) l
noncomputable def putK {R : Type} (dst : Option Tmp) (fr : Fr) (v : Value) (K : Fr → R) : R :=
  match dst with
  | none => K fr
  | some d => wrK fr d v K

def rd (fr : Fr) (i : Nat) : Value := fr.getD i undef
def evF (fr : Fr) : Operand → Value
  | .tmp t => rd fr t
  | .const v => v
  | .global g => .pointer (some ⟨g, 0, none⟩)
  | .func f => .func (.func f) #[] #[]

theorem rdK_eq {R : Type} (K : Value → R) : ∀ (fr : Fr) (i : Nat), rdK fr i K = K (rd fr i)
  | [], _ => rfl
  | _ :: _, 0 => rfl
  | _ :: l, n + 1 => by show rdK l n K = _; rw [rdK_eq K l n]; simp [rd]
theorem wrK_eq {R : Type} : ∀ (fr : Fr) (i : Nat) (v : Value) (K : Fr → R), wrK fr i v K = K (fr.set i v)
  | [], _, _, _ => rfl
  | _ :: _, 0, _, _ => rfl
  | x :: l, n + 1, v, K => by show wrK l n v (fun l' => K (x :: l')) = _; rw [wrK_eq l n v]; rfl
theorem evK_eq {R : Type} (fr : Fr) (x : Operand) (K : Value → R) : evK fr x K = K (evF fr x) := by
  cases x <;> first | rfl | exact rdK_eq K fr _
theorem evsK_eq {R : Type} (fr : Fr) : ∀ (l : List Operand) (K : List Value → R), evsK fr l K = K (l.map (evF fr))
  | [], _ => rfl
  | x :: l, K => by show evK fr x (fun v => evsK fr l fun vs => K (v :: vs)) = _; simp only [evK_eq, evsK_eq fr l, List.map_cons]
theorem putK_eq {R : Type} (dst : Option Tmp) (fr : Fr) (v : Value) (K : Fr → R) :
    putK dst fr v K = K (match dst with | none => fr | some d => fr.set d v) := by
  cases dst with
  | none => rfl
  | some d => exact wrK_eq fr d v K

/-- The frame of an activation. -/
structure At (fr : Fr) (a : Act) : Prop where
  tmps : a.tmps.toList = fr
  defers : a.defers = []

theorem At.eval {fr : Fr} {a : Act} (h : At fr a) (x : Operand) : a.eval x = evF fr x := by
  cases x with
  | tmp t => obtain ⟨rfl, _⟩ := h; simp [Act.eval, evF, rd]
  | const v => rfl
  | global g => rfl
  | func f => rfl
theorem At.evalF {fr : Fr} {a : Act} (h : At fr a) : a.eval = evF fr := funext h.eval
theorem At.put {fr : Fr} {a : Act} (h : At fr a) (dst : Option Tmp) (v : Value) :
    At (match dst with | none => fr | some d => fr.set d v) (a.put dst v) := by
  obtain ⟨rfl, h2⟩ := h
  cases dst with
  | none => exact ⟨rfl, h2⟩
  | some d => exact ⟨by simp [Act.put], h2⟩

/-! ### single operations -/
def kEq : IntKind → IntKind → Bool
  | .i8, .i8 | .i16, .i16 | .i32, .i32 | .i64, .i64 | .u8, .u8 | .u16, .u16 | .u32, .u32 | .u64, .u64 => true
  | _, _ => false
theorem kEq_eq {a b : IntKind} (h : kEq a b = true) : a = b := by cases a <;> cases b <;> first | rfl | simp [kEq] at h

def binPure : BinOp → Value → Value → Option Value
  | .add, .int k a, .int k' b => match kEq k k' with | true => some (.int k (k.wrap (a + b))) | false => none
  | .sub, .int k a, .int k' b => match kEq k k' with | true => some (.int k (k.wrap (a - b))) | false => none
  | .mul, .int k a, .int k' b => match kEq k k' with | true => some (.int k (k.wrap (a * b))) | false => none
  | .eql, .int k a, .int k' b => match kEq k k' with | true => some (.bool (a == b)) | false => none
  | .neq, .int k a, .int k' b => match kEq k k' with | true => some (.bool (a != b)) | false => none
  | .lss, .int k a, .int k' b => match kEq k k' with | true => some (.bool (decide (a < b))) | false => none
  | .leq, .int k a, .int k' b => match kEq k k' with | true => some (.bool (decide (a ≤ b))) | false => none
  | .gtr, .int k a, .int k' b => match kEq k k' with | true => some (.bool (decide (b < a))) | false => none
  | .geq, .int k a, .int k' b => match kEq k k' with | true => some (.bool (decide (b ≤ a))) | false => none
  | .eql, .string a, .string b => some (.bool (a.toList == b.toList))
  | .neq, .string a, .string b => some (.bool (!(a.toList == b.toList)))
  | _, _, _ => none

theorem run_eqGuard_int {P : Program} (op : BinOp) (t : TypeId) (x y : Operand) (k k' : IntKind) (a b : Int) (w : World) :
    (eqGuard op t x y (.int k a) (.int k' b)).run P w = .ok () w := by
  cases op <;> simp [eqGuard]
theorem run_eqGuard_string {P : Program} (op : BinOp) (t : TypeId) (x y : Operand) (a b : ByteArray) (w : World) :
    (eqGuard op t x y (.string a) (.string b)).run P w = .ok () w := by
  cases op <;> simp [eqGuard]

theorem binPure_run {P : Program} {op : BinOp} {t : TypeId} {x y : Operand} {a b v : Value} (h : binPure op a b = some v) (w : World) :
    (do eqGuard op t x y a b; binOp op t a b : Sem Value).run P w = .ok v w := by
  unfold binPure at h
  split at h
  all_goals try (split at h)
  all_goals first
    | (cases h; done)
    | (rename_i hk; obtain rfl := kEq_eq hk; cases h; simp [run_eqGuard_int, binOp, Op.intArith, Op.intCmp]; done)
    | (cases h; simp [run_eqGuard_string, binOp, Op.stringOp]; done)

def unPure : UnOp → Value → Option Value
  | .not, .bool b => some (.bool (!b))
  | .neg, .int k n => some (.int k (k.wrap (0 - n)))
  | _, _ => none
theorem unPure_run {P : Program} {op : UnOp} {a v : Value} (h : unPure op a = some v) (w : World) : (Op.unary op a).run P w = .ok v w := by
  unfold unPure at h
  split at h <;> cases h <;> simp [Op.unary, Op.intArith]

noncomputable def evoK {R : Type} (fr : Fr) (x : Option Operand) (K : Option Value → R) : R :=
  match x with
  | none => K none
  | some x => evK fr x fun v => K (some v)
theorem evoK_eq {R : Type} (fr : Fr) (x : Option Operand) (K : Option Value → R) : evoK fr x K = K (x.map (evF fr)) := by
  cases x <;> simp [evoK, evK_eq]
noncomputable def evpK {R : Type} (fr : Fr) (l : List (Nat × Operand)) : (List (Nat × Value) → R) → R :=
  List.rec (motive := fun _ => (List (Nat × Value) → R) → R) (fun K => K []) (fun p _ ih K => evK fr p.2 fun v => ih fun vs => K ((p.1, v) :: vs)) l
theorem evpK_eq {R : Type} (fr : Fr) : ∀ (l : List (Nat × Operand)) (K : List (Nat × Value) → R), evpK fr l K = K (l.map fun (i, x) => (i, evF fr x))
  | [], _ => rfl
  | (i, x) :: l, K => by show evK fr x (fun v => evpK fr l fun vs => K ((i, v) :: vs)) = _; simp only [evK_eq, evpK_eq fr l, List.map_cons]

def lenPure : Option TypeDesc → List Value → Option Value
  | some (.slice _), [.slice _ n _] => some (.int .i64 n)
  | some .string, [.string s] => some (.int .i64 s.size)
  | _, _ => none
theorem lenPure_run {P : Program} {t ty : TypeId} {vs : List Value} {v : Value} (h : lenPure (P.underlying t) vs = some v) (w : World) :
    (Builtin.len_ #[t] ty vs.toArray).run P w = .ok v w := by
  unfold lenPure at h
  split at h <;> cases h <;> rename_i hu <;> simp [Builtin.len_, run_underlying hu, goInt]

def convPure : Option TypeDesc → Option TypeDesc → Value → Option Value
  | some _, some (.int k), .int _ n => some (.int k (k.wrap n))
  | some _, some .string, .string s => some (.string s)
  | _, _, _ => none
theorem convPure_run {P : Program} {s d : TypeId} {x v : Value} (h : convPure (P.underlying s) (P.underlying d) x = some v) (w : World) :
    (convert s d x).run P w = .ok v w := by
  unfold convPure at h
  split at h <;> cases h <;> rename_i h1 h2
  · simp [convert, run_underlying h1, run_underlying h2, Conv.intToInt]
  · simp [convert, run_underlying h1, run_underlying h2]

/-- Operations that read alone. -/
def detK (P : Program) (S : Nat → Prop) (o : Oper) (fr : Fr) (H : Heap) (K : Value → Prop) : Prop :=
  match o.op with
  | .move x => evK fr x K
  | .assign x => evK fr x K
  | .pick c a b => evK fr c fun vc => match vc with
    | .bool b' => VIte b' (evK fr a K) (evK fr b K)
    | _ => False
  | .binOp op t x y _ => evK fr x fun a => evK fr y fun b => match binPure op a b with
    | some v => K v
    | none => VDet P (do eqGuard op t x y a b; binOp op t a b) S H K
  | .unOp op _ x => evK fr x fun a => match unPure op a with
    | some v => K v
    | none => VDet P (Op.unary op a) S H K
  | .convert s d x => evK fr x fun a => match convPure (P.underlying s) (P.underlying d) a with
    | some v => K v
    | none => VDet P (convert s d a) S H K
  | .extract x i => evK fr x fun a => match a with
    | .tuple vs => match vs.toList[i]? with
      | some v => K v
      | none => False
    | _ => False
  | .nilCheck x => evK fr x fun a => match a with
    | .pointer (some p) => K (.pointer (some p))
    | _ => False
  | .makeInterface t x => evK fr x fun a => match P.underlying t with
    | some (.interface _) => False
    | some _ => K (.iface t a)
    | none => False
  | .makeFunc fn first cap => evsK fr first.toList fun vs => evsK fr cap.toList fun us => K (.func fn vs.toArray us.toArray)
  | .load t a => evK fr a fun p => VDet P (Instr.loadAt t p) S H K
  | .index t x i => evK fr x fun a => evK fr i fun j => VDet P (Instr.index t a j) S H K
  | .indexAddr t x i => evK fr x fun a => evK fr i fun j => VDet P (Instr.indexAt t a j) S H K
  | .fieldAddr s x f => evK fr x fun a => VDet P (Instr.fieldAt s a f) S H K
  | .field t x f => evK fr x fun a => VDet P (Instr.field t a f) S H K
  | .slice t x lo hi mx => evK fr x fun a => evoK fr lo fun l => evoK fr hi fun h => evoK fr mx fun m => VDet P (Instr.sliceAt t a l h m) S H K
  | .lookup t x i ok => evK fr x fun a => evK fr i fun j => VDet P (Instr.lookup t a j ok) S H K
  | .build t ps => evpK fr ps.toList fun vs => VDet P (Instr.build t vs.toArray) S H K
  | .typeAssert x t a ok => evK fr x fun v => VDet P (Instr.typeAssert v t a ok) S H K
  | .call { callee := .builtin .len, args, argTypes } => evsK fr args.toList fun vs =>
    match argTypes.toList with
    | [t] => match lenPure (P.underlying t) vs with
      | some v => K v
      | none => VDet P (Builtin.len_ argTypes o.type vs.toArray) S H K
    | _ => VDet P (Builtin.len_ argTypes o.type vs.toArray) S H K
  | .call { callee := .builtin .cap, args, argTypes } => evsK fr args.toList fun vs => VDet P (Builtin.cap_ argTypes o.type vs.toArray) S H K
  | .call { callee := .builtin .min, args, argTypes } => evsK fr args.toList fun vs => VDet P (Builtin.min_ argTypes o.type vs.toArray) S H K
  | .call { callee := .builtin .max, args, argTypes } => evsK fr args.toList fun vs => VDet P (Builtin.max_ argTypes o.type vs.toArray) S H K
  | _ => False

def isDet (o : Oper) : Bool :=
  match o.op with
  | .move _ | .assign _ | .pick .. | .binOp .. | .unOp .. | .convert .. | .extract .. | .nilCheck _ | .makeInterface .. | .makeFunc .. | .load .. | .index ..
  | .indexAddr .. | .fieldAddr .. | .field .. | .slice .. | .lookup .. | .build .. | .typeAssert .. => true
  | .call { callee := .builtin .len, .. } | .call { callee := .builtin .cap, .. } | .call { callee := .builtin .min, .. } | .call { callee := .builtin .max, .. } => true
  | _ => false

theorem VDet.out {P : Program} {m : Sem Value} {S : Nat → Prop} {H : Heap} {K : Value → Prop} (h : VDet P m S H K) :
    ∃ v, (∀ w : World, Agr S H w.heap → m.run P w = .ok v w) ∧ K v := by exact h.out_

theorem run_value {P : Program} {m : Sem Value} {v : Value} {w w' : World} (h : m.run P w = .ok v w') :
    (do pure (Next.value (← m)) : Sem Next).run P w = .ok (.value v) w' := by simp [h]
theorem run_unit {P : Program} {m : Sem Unit} {w w' : World} (h : m.run P w = .ok () w') :
    (do m; pure Next.skip : Sem Next).run P w = .ok .skip w' := by simp [h]

theorem detK_sound {P : Program} {S : Nat → Prop} {o : Oper} {fr : Fr} {H : Heap} {K : Value → Prop} (h : detK P S o fr H K) :
    ∃ v, (∀ w : World, Agr S H w.heap → (execOp (evF fr) o).run P w = .ok (.value v) w) ∧ K v := by
  unfold detK at h
  split at h <;> rename_i ho <;> simp only [evK_eq, evsK_eq, evoK_eq, evpK_eq] at h
  all_goals simp only [execOp, ho]
  case h_1 => exact ⟨_, fun w _ => by simp, h⟩
  case h_2 => exact ⟨_, fun w _ => by simp, h⟩
  case h_3 =>
    split at h
    · rename_i b hb
      cases b
      · exact ⟨_, fun w _ => by simp [hb, asBool], h⟩
      · exact ⟨_, fun w _ => by simp [hb, asBool], h⟩
    · exact h.elim
  case h_4 =>
    split at h
    · rename_i v hv
      exact ⟨v, fun w _ => run_value (binPure_run hv w), h⟩
    · obtain ⟨v, hv, k⟩ := h.out
      exact ⟨v, fun w hw => run_value (hv w hw), k⟩
  case h_5 =>
    split at h
    · rename_i v hv
      exact ⟨v, fun w _ => run_value (unPure_run hv w), h⟩
    · obtain ⟨v, hv, k⟩ := h.out
      exact ⟨v, fun w hw => run_value (hv w hw), k⟩
  case h_6 =>
    split at h
    · rename_i v hv
      exact ⟨v, fun w _ => run_value (convPure_run hv w), h⟩
    · obtain ⟨v, hv, k⟩ := h.out
      exact ⟨v, fun w hw => run_value (hv w hw), k⟩
  case h_7 =>
    split at h
    · split at h
      · rename_i vs hvs _ v hv
        refine ⟨v, fun w _ => run_value ?_, h⟩
        simp at hv
        simp [Instr.extract, hvs, hv]
      · exact h.elim
    · exact h.elim
  case h_8 =>
    split at h
    · rename_i p hp
      exact ⟨_, fun w _ => by simp [hp], h⟩
    · exact h.elim
  case h_9 =>
    split at h
    · exact h.elim
    · rename_i d hn hd
      refine ⟨_, fun w _ => run_value ?_, h⟩
      cases d <;> first | (exact (hn _ rfl).elim) | simp [Instr.makeInterface, run_underlying hd]
    · exact h.elim
  case h_10 =>
    refine ⟨_, fun w _ => run_value ?_, h⟩
    simp only [← Array.toList_map, Array.toArray_toList]
    simp [Instr.makeFunc]
  all_goals try
    obtain ⟨v, hv, k⟩ := h.out
    exact ⟨v, fun w hw => run_value (hv w hw), k⟩
  case h_18 =>
    obtain ⟨v, hv, k⟩ := h.out
    simp only [← Array.toList_map, Array.toArray_toList] at hv
    exact ⟨v, fun w hw => run_value (hv w hw), k⟩
  all_goals simp only [← Array.toList_map, Array.toArray_toList] at h
  case h_20 =>
    split at h
    · rename_i t ht
      split at h
      · rename_i v hv
        refine ⟨v, fun w _ => run_value (m := Builtin.len_ _ _ _) ?_, h⟩
        have e : ∀ {A : Array TypeId}, A.toList = [t] → A = #[t] := fun h => Array.ext' (by simpa using h)
        obtain rfl := e ht
        have h3 := lenPure_run (ty := o.type) hv w
        rwa [Array.toArray_toList] at h3
      · obtain ⟨v, hv, k⟩ := h.out
        exact ⟨v, fun w hw => run_value (m := Builtin.len_ _ _ _) (hv w hw), k⟩
    · obtain ⟨v, hv, k⟩ := h.out
      exact ⟨v, fun w hw => run_value (m := Builtin.len_ _ _ _) (hv w hw), k⟩
  case h_21 =>
    obtain ⟨v, hv, k⟩ := h.out
    exact ⟨v, fun w hw => run_value (m := Builtin.cap_ _ _ _) (hv w hw), k⟩
  case h_22 =>
    obtain ⟨v, hv, k⟩ := h.out
    exact ⟨v, fun w hw => run_value (m := Builtin.min_ _ _ _) (hv w hw), k⟩
  case h_23 =>
    obtain ⟨v, hv, k⟩ := h.out
    exact ⟨v, fun w hw => run_value (m := Builtin.max_ _ _ _) (hv w hw), k⟩
  all_goals exact h.elim

/-! ### operations that write, and calls -/
structure VInv (P : Program) (t : TypeId) (x : Value) (name : String) (args : Array Value) (H : Heap) (K : Value → Heap → Prop) : Prop where
  in_ ::
  out_ : ∃ f as1, (∀ w : World, w.heap = H → (callMethod (.iface t x) name args).run P w = .ok (.enter f as1) w) ∧ FnOk P f as1 H K

def callK (P : Program) (q : Bool) (S : Nat → Prop) (f : Value) (args : List Value) (H : Heap) (K : Value → Heap → Prop) : Prop :=
  match f with
  | .func (.func g) first cap => match q with
    | true => VCallQ P g (first.toList ++ args ++ cap.toList).toArray S H fun v => K v H
    | false => VCall P g (first.toList ++ args ++ cap.toList).toArray H K
  | _ => False

/-- Operations that write or draw. -/
def effK (P : Program) (o : Oper) (fr : Fr) (H : Heap) (K : Value → Heap → Prop) : Prop :=
  match o.op with
  | .alloc t => VEff P (Instr.alloc t true (.tuple #[])) H K
  | .box t x => evK fr x fun v => VEff P (Instr.box t v) H K
  | .buildSlice t n ps => evpK fr ps.toList fun vs => VEff P (Instr.buildSlice t n vs.toArray) H K
  | .store t a x => evK fr a fun p => evK fr x fun v => VEffU P (Instr.storeAt t p v) H fun H' => K undef H'
  | .makeMap t r => evoK fr r fun v => VEff P (Instr.makeMap t v) H K
  | .makeSlice t l c => evK fr l fun n => evK fr c fun m => VEff P (Instr.makeSlice t n m) H K
  | .mapUpdate t m k x => evK fr m fun r => evK fr k fun j => evK fr x fun v => VEffU P (Instr.mapUpdate t r j v) H fun H' => K undef H'
  | .insert t m k x => evK fr m fun r => evK fr k fun j => evK fr x fun v => VEffU P (Instr.mapUpdate t r j v) H fun H' => K undef H'
  | .mapEntry t m k => evK fr m fun r => evK fr k fun j => VEff P (Instr.mapEntry t r j) H K
  | .entryStore t m s x => evK fr m fun r => evK fr s fun j => evK fr x fun v => VEffU P (Instr.entryStore t r j v) H fun H' => K undef H'
  | .range t x => evK fr x fun v => VEff P (Instr.range t v) H K
  | .next it s => evK fr it fun v => VEff P (Instr.next v s o.type) H K
  | .entry it => evK fr it fun v => VEff P (Instr.entry v) H K
  | .convert s d x => evK fr x fun v => VEff P (convert s d v) H K
  | .call { callee := .builtin .append, args, argTypes } => evsK fr args.toList fun vs => VEff P (Builtin.append_ argTypes o.type vs.toArray) H K
  | .call { callee := .builtin .copy, args, argTypes } => evsK fr args.toList fun vs => VEff P (Builtin.copy_ argTypes o.type vs.toArray) H K
  | .call { callee := .builtin .delete, args, argTypes } => evsK fr args.toList fun vs => VEff P (Builtin.delete_ argTypes o.type vs.toArray) H K
  | .call { callee := .builtin .clear, args, argTypes } => evsK fr args.toList fun vs => VEff P (Builtin.clear_ argTypes o.type vs.toArray) H K
  | .call { callee := .invoke r name, args, .. } => evK fr r fun v => evsK fr args.toList fun vs => match v with
    | .iface t x => VInv P t x name vs.toArray H K
    | _ => False
  | .call { callee := .value f, args, .. } => evK fr f fun g => evsK fr args.toList fun vs => callK P false (fun _ => True) g vs H K
  | _ => False

/-- A conversion between strings and bytes draws, or reads memory: it is none of the operations that read alone here. -/
def convDet (P : Program) (o : Oper) : Bool :=
  match o.op with
  | .convert s d _ => match P.underlying s, P.underlying d with
    | some (.slice _), _ => false
    | some .string, some (.slice _) => false
    | _, _ => true
  | _ => true

/-- One operation; q: within a region whose order is open, S: the blocks that stay as1 they are there. -/
def opK (P : Program) (q : Bool) (S : Nat → Prop) (o : Oper) (fr : Fr) (H : Heap) (K : Value → Heap → Prop) : Prop :=
  match isDet o && convDet P o with
  | true => detK P S o fr H fun v => K v H
  | false => match q with
    | true => match o.op with
      | .call { callee := .value f, args, .. } => evK fr f fun g => evsK fr args.toList fun vs => callK P true S g vs H K
      | _ => False
    | false => effK P o fr H K

theorem VEff.out {P : Program} {m : Sem Value} {H : Heap} {K : Value → Heap → Prop} (h : VEff P m H K) :
    ∀ w : World, w.heap = H → ∃ v w', m.run P w = .ok v w' ∧ Env w w' ∧ K v w'.heap := by exact h.out_
theorem VEffU.out {P : Program} {m : Sem Unit} {H : Heap} {K : Heap → Prop} (h : VEffU P m H K) :
    ∀ w : World, w.heap = H → ∃ w', m.run P w = .ok () w' ∧ Env w w' ∧ K w'.heap := by exact h.out_
theorem VCall.out {P : Program} {f : FuncId} {args : Array Value} {H : Heap} {K : Value → Heap → Prop} (h : VCall P f args H K) : FnOk P f args H K := by
  exact h.out_
theorem VCallQ.out {P : Program} {f : FuncId} {args : Array Value} {S : Nat → Prop} {H : Heap} {K : Value → Prop} (h : VCallQ P f args S H K) :
    ∃ v, (∀ H', Agr S H H' → FnOk P f args H' fun v' H'' => v' = v ∧ Agr S H' H'') ∧ K v := by exact h.out_
theorem VInv.out {P : Program} {t : TypeId} {x : Value} {name : String} {args : Array Value} {H : Heap} {K : Value → Heap → Prop} (h : VInv P t x name args H K) :
    ∃ f as1, (∀ w : World, w.heap = H → (callMethod (.iface t x) name args).run P w = .ok (.enter f as1) w) ∧ FnOk P f as1 H K := by exact h.out_
theorem VInv.mk {P : Program} {t : TypeId} {x : Value} {name : String} {args : Array Value} {H : Heap} {K R : Value → Heap → Prop} (f : FuncId) (as1 : Array Value)
    (hm : ∀ w : World, (callMethod (.iface t x) name args).run P w = .ok (.enter f as1) w) (h : FnOk P f as1 H R) (k : ∀ v H', R v H' → K v H') : VInv P t x name args H K := by
  exact ⟨⟨f, as1, fun w _ => hm w, h.mono k⟩⟩

/-- What is asked of an operation in a world. -/
def OpOk (P : Program) (o : Oper) (a : Act) (w : World) (K : Value → Heap → Prop) : Prop :=
  ∀ Q : Exit → Act → World → Prop, o.wp P a w (fun a' w' => ∃ v, a' = a.put o.dst v ∧ Env w w' ∧ K v w'.heap) Q

theorem opOk_value {P : Program} {o : Oper} {a : Act} {w w' : World} {K : Value → Heap → Prop} {v : Value}
    (h : (execOp a.eval o).run P w = .ok (.value v) w') (he : Env w w') (k : K v w'.heap) : OpOk P o a w K := by
  intro Q
  unfold Oper.wp
  rw [h]
  exact ⟨v, rfl, he, k⟩
theorem opOk_skip {P : Program} {o : Oper} {a : Act} {w w' : World} {K : Value → Heap → Prop}
    (h : (execOp a.eval o).run P w = .ok .skip w') (he : Env w w') (k : K undef w'.heap) : OpOk P o a w K := by
  intro Q
  unfold Oper.wp
  rw [h]
  exact ⟨undef, rfl, he, k⟩
theorem opOk_enter {P : Program} {o : Oper} {a : Act} {w : World} {K : Value → Heap → Prop} {f : FuncId} {args : Array Value}
    (h : (execOp a.eval o).run P w = (callFunc f args).run P w) (k : FnOk P f args w.heap K) : OpOk P o a w K := by
  intro Q
  unfold Oper.wp
  rw [h, (k w rfl).1]
  refine (k w rfl).2.mono ?_
  rintro e w' ⟨v, rfl, he, hk⟩
  exact ⟨v, rfl, he, hk⟩

theorem effK_sound {P : Program} {o : Oper} {fr : Fr} {a : Act} {w : World} {K : Value → Heap → Prop} (hat : At fr a)
    (h : effK P o fr w.heap K) : OpOk P o a w K := by
  have he := hat.evalF
  unfold effK at h
  split at h <;> rename_i ho <;> try simp only [evK_eq, evsK_eq, evoK_eq, evpK_eq, ← Array.toList_map, Array.toArray_toList] at h
  all_goals try (
    obtain ⟨v, w', hr, henv, hk⟩ := h.out w rfl
    exact opOk_value (by rw [he]; simp only [execOp, ho]; exact run_value hr) henv hk)
  all_goals try (
    obtain ⟨w', hr, henv, hk⟩ := h.out w rfl
    exact opOk_skip (by rw [he]; simp only [execOp, ho]; exact run_unit hr) henv hk)
  case h_19 =>
    split at h
    · rename_i t x hx
      obtain ⟨f, as1, h1, h2⟩ := h.out
      refine opOk_enter ?_ h2
      rw [he]
      simp only [execOp, ho, resolve, hx]
      rw [(h2 w rfl).1, ← h1 w rfl]
      have e1 : ∀ A : Array Value, (#[Value.iface t x] ++ A)[0]? = some (Value.iface t x) := fun A => by simp [Array.getElem?_append]
      rename_i args argTypes _
      have e2 : (Array.map (evF fr) args).extract 0 args.size = Array.map (evF fr) args := by
        rw [show args.size = (Array.map (evF fr) args).size by simp]; exact Array.extract_size
      simp [invoke, e1, e2]
    · exact h.elim
  case h_20 =>
    unfold callK at h
    rename_i f' args argTypes
    split at h
    · rename_i g first cap hg
      refine opOk_enter ?_ h.out
      rw [he]
      have e : (first.toList ++ (Array.map (evF fr) args).toList ++ cap.toList).toArray = first ++ Array.map (evF fr) args ++ cap := Array.ext' (by simp)
      rw [e]
      simp only [execOp, ho, resolve, hg, Deferred.ofValue]
      simp [invoke]
    · exact h.elim
  all_goals exact h.elim

theorem opK_sound {P : Program} {o : Oper} {fr : Fr} {a : Act} {w : World} {K : Value → Heap → Prop} (hat : At fr a)
    (h : opK P false (fun _ => True) o fr w.heap K) : OpOk P o a w K := by
  unfold opK at h
  split at h
  · obtain ⟨v, hr, hk⟩ := detK_sound h
    exact opOk_value (by rw [hat.evalF]; exact hr w (Agr.refl _ _)) (Env.refl w) hk
  · exact effK_sound hat h

/-- The class of worlds of a region that only reads. -/
def Cls (w0 : World) (S : Nat → Prop) (w : World) : Prop := Env w0 w ∧ Agr S w0.heap w.heap

theorem opK_quiet {P : Program} {S : Nat → Prop} {o : Oper} {fr : Fr} {a : Act} {w0 : World} {K : Value → Heap → Prop} (hat : At fr a)
    (h : opK P true S o fr w0.heap K) : ∃ v, (∀ w, Cls w0 S w → o.quietAt P a (Cls w0 S) w v) ∧ K v w0.heap := by
  unfold opK at h
  split at h
  · obtain ⟨v, hr, hk⟩ := detK_sound h
    refine ⟨v, fun w hw => ?_, hk⟩
    unfold Oper.quietAt
    rw [hat.evalF, hr w hw.2]
    exact ⟨rfl, rfl⟩
  · dsimp only at h
    split at h
    · rename_i f args argTypes ho
      simp only [evK_eq, evsK_eq, ← Array.toList_map] at h
      unfold callK at h
      split at h
      · rename_i g first cap hg
        obtain ⟨v, hv, hk⟩ := h.out
        refine ⟨v, fun w hw => ?_, hk⟩
        obtain ⟨h1, h2⟩ := hv w.heap hw.2 w rfl
        have h3 : (execOp a.eval o).run P w = (callFunc g (first.toList ++ (Array.map (evF fr) args).toList ++ cap.toList).toArray).run P w := by
          rw [hat.evalF]
          have e : (first.toList ++ (Array.map (evF fr) args).toList ++ cap.toList).toArray = first ++ Array.map (evF fr) args ++ cap := Array.ext' (by simp)
          rw [e]
          simp only [execOp, ho, resolve, hg, Deferred.ofValue]
          simp [invoke]
        unfold Oper.quietAt
        rw [h3, h1]
        refine ⟨rfl, h2.mono ?_⟩
        rintro e w' ⟨v', rfl, henv, rfl, hh⟩
        exact ⟨rfl, hw.1.trans henv, hw.2.trans hh⟩
      · exact h.elim
    · exact h.elim

/-! ### regions -/
/-- The rest, kept as1 one word. -/
def apK (K : Fr → Heap → Prop) (fr : Fr) (H : Heap) : Prop := K fr H
/-- An operation under a condition. -/
def guardK (P : Program) (q : Bool) (S : Nat → Prop) (o : Oper) (want : Bool) (t : Nat) (fr : Fr) (H : Heap) (K : Fr → Heap → Prop) : Prop :=
  rdK fr t fun v => match v with
    | .bool b => VIte b
      (wrK fr t (.bool true) fun fr1 => match want with
        | true => opK P q S o fr1 H fun v H' => putK o.dst fr1 v fun fr' => apK K fr' H'
        | false => putK o.dst fr1 undef fun fr' => apK K fr' H)
      (wrK fr t (.bool false) fun fr1 => match want with
        | false => opK P q S o fr1 H fun v H' => putK o.dst fr1 v fun fr' => apK K fr' H'
        | true => putK o.dst fr1 undef fun fr' => apK K fr' H)
    | .tuple _ => putK o.dst fr undef fun fr' => apK K fr' H
    | _ => False
/-- The operations in the text's order. -/
def opsK (P : Program) (q : Bool) (S : Nat → Prop) (all : List Oper) (l : List Oper) : Fr → Heap → (Fr → Heap → Prop) → Prop :=
  List.rec (motive := fun _ => Fr → Heap → (Fr → Heap → Prop) → Prop) (fun fr H K => K fr H) (fun o _ ih fr H K =>
    match o.guard with
    | none => opK P q S o fr H fun v H' => putK o.dst fr v fun fr' => ih fr' H' K
    | some (j, want) => match (all[j]?).bind (·.dst) with
      | none => False
      | some t => guardK P q S o want t fr H fun fr' H' => ih fr' H' K) l
theorem opsK_cons (P : Program) (q : Bool) (S : Nat → Prop) (all rest : List Oper) (o : Oper) (fr : Fr) (H : Heap) (K : Fr → Heap → Prop) : opsK P q S all (o :: rest) fr H K =
    (match o.guard with
    | none => opK P q S o fr H fun v H' => putK o.dst fr v fun fr' => opsK P q S all rest fr' H' K
    | some (j, want) => match (all[j]?).bind (·.dst) with
      | none => False
      | some t => guardK P q S o want t fr H fun fr' H' => opsK P q S all rest fr' H' K) := rfl

theorem rd_set_self {fr : Fr} {t : Nat} {v : Value} (h : rd fr t = v) (hv : v ≠ undef) : fr.set t v = fr := by
  unfold rd at h
  rcases Nat.lt_or_ge t fr.length with hl | hl
  · rw [List.getD_eq_getElem?_getD, List.getElem?_eq_getElem hl] at h
    subst h
    exact List.set_getElem_self hl
  · rw [List.getD_eq_getElem?_getD, List.getElem?_eq_none hl] at h
    exact absurd h.symm hv
theorem yielded_at {ops : List Oper} {fr : Fr} {a : Act} (hat : At fr a) {j t : Nat} (hj : (ops[j]?).bind (·.dst) = some t) {b : Bool} (hv : rd fr t = .bool b) :
    yielded ops.toArray a.tmps j = some b := by
  obtain ⟨rfl, _⟩ := hat
  unfold yielded
  have : ((ops.toArray[j]?).bind (·.dst)) = some t := by simpa using hj
  rw [this]
  unfold rd at hv
  rw [List.getD_eq_getElem?_getD] at hv
  simp only [Option.bind_some]
  cases h : a.tmps[t]? with
  | none => simp [h, undef] at hv
  | some v => simp [h] at hv; simp [hv]

theorem yielded_no {ops : List Oper} {fr : Fr} {a : Act} (hat : At fr a) {j t : Nat} (hj : (ops[j]?).bind (·.dst) = some t) {vs : Array Value} (hv : rd fr t = .tuple vs) :
    yielded ops.toArray a.tmps j = none := by
  obtain ⟨rfl, _⟩ := hat
  unfold yielded
  have : ((ops.toArray[j]?).bind (·.dst)) = some t := by simpa using hj
  rw [this]
  unfold rd at hv
  rw [List.getD_eq_getElem?_getD] at hv
  simp only [Option.bind_some]
  cases h : a.tmps[t]? with
  | none => rfl
  | some v => simp [h] at hv; simp [hv]

theorem opsK_sound {P : Program} {all : List Oper} {Q : Exit → Act → World → Prop} : ∀ (l : List Oper) (fr : Fr) (a : Act) (w : World) (K : Fr → Heap → Prop), At fr a →
    (∀ fr' a' w', At fr' a' → Env w w' → K fr' w'.heap → Q .normal a' w') →
    opsK P false (fun _ => True) all l fr w.heap K → wpList P all.toArray Q l a w
  | [], fr, a, w, K, hat, hq, h => hq fr a w hat (Env.refl w) h
  | o :: l, fr, a, w, K, hat, hq, h => by
    have go : ∀ (want : Bool), (want = true → OpOk P o a w fun v H' => putK o.dst fr v fun fr' => opsK P false (fun _ => True) all l fr' H' K) →
        (want = false → putK o.dst fr undef fun fr' => opsK P false (fun _ => True) all l fr' w.heap K) →
        Region.wanted o (yielded all.toArray a.tmps) = want → wpList P all.toArray Q (o :: l) a w := by
      intro want h1 h2 hw
      unfold wpList
      rw [hw]
      cases want with
      | true =>
        refine .inl (Oper.wp_mono ?_ (h1 rfl _))
        rintro a' w' ⟨v, rfl, henv, hk⟩
        rw [putK_eq] at hk
        exact opsK_sound l _ _ _ K (hat.put o.dst v) (fun fr' a' w'' h1 h2 h3 => hq fr' a' w'' h1 (henv.trans h2) h3) hk
      | false =>
        have h3 := h2 rfl
        rw [putK_eq] at h3
        exact opsK_sound l _ _ _ K (hat.put o.dst undef) hq h3
    rw [opsK_cons] at h
    split at h
    · rename_i hg
      exact go true (fun _ => opK_sound hat h) (fun h => by cases h) (by simp [Region.wanted, hg])
    · rename_i j want hg
      split at h
      · exact h.elim
      · rename_i t ht
        unfold guardK at h
        simp only [apK] at h
        rw [rdK_eq] at h
        split at h
        · rename_i b hb
          have hy := yielded_at hat ht hb
          have hs : fr.set t (.bool b) = fr := rd_set_self hb (by simp [undef])
          cases b <;> cases want <;> simp only [VIte, wrK_eq, hs] at h
          · exact go true (fun _ => opK_sound hat h) (fun h => by cases h) (by simp [Region.wanted, hg, hy])
          · exact go false (fun h => by cases h) (fun _ => h) (by simp [Region.wanted, hg, hy])
          · exact go false (fun h => by cases h) (fun _ => h) (by simp [Region.wanted, hg, hy])
          · exact go true (fun _ => opK_sound hat h) (fun h => by cases h) (by simp [Region.wanted, hg, hy])
        · rename_i vs hb
          exact go false (fun h => by cases h) (fun _ => h) (by simp [Region.wanted, hg, yielded_no hat ht hb])
        · exact h.elim

theorem wp_opsK {P : Program} {id : Nat} {l : List Oper} {Q : Exit → Act → World → Prop} {fr : Fr} {a : Act} {w : World} {K : Fr → Heap → Prop} (hat : At fr a)
    (hq : ∀ fr' a' w', At fr' a' → Env w w' → K fr' w'.heap → Q .normal a' w')
    (h : opsK P false (fun _ => True) l l fr w.heap K) : (Code.region id l.toArray false).wp P Q a w :=
  wp_region_lit (opsK_sound l fr a w K hat hq h)

/-- The same for a region whose order is open and whose operations only read: one walk in the text's order. -/
theorem opsK_quiet {P : Program} {S : Nat → Prop} {all : List Oper} {w0 : World} : ∀ (l : List Oper) (fr : Fr) (a : Act) (K : Fr → Heap → Prop) (Q : Act → Prop), At fr a →
    (∀ fr' a', At fr' a' → K fr' w0.heap → Q a') →
    opsK P true S all l fr w0.heap K → wpQuiet P all.toArray (Cls w0 S) Q l a
  | [], fr, a, K, Q, hat, hq, h => hq fr a hat h
  | o :: l, fr, a, K, Q, hat, hq, h => by
    have go : ∀ (want : Bool), (want = true → opK P true S o fr w0.heap fun v H' => putK o.dst fr v fun fr' => opsK P true S all l fr' H' K) →
        (want = false → putK o.dst fr undef fun fr' => opsK P true S all l fr' w0.heap K) →
        Region.wanted o (yielded all.toArray a.tmps) = want → wpQuiet P all.toArray (Cls w0 S) Q (o :: l) a := by
      intro want h1 h2 hw
      unfold wpQuiet
      rw [hw]
      cases want with
      | true =>
        obtain ⟨v, hv, hk⟩ := opK_quiet hat (h1 rfl)
        rw [putK_eq] at hk
        exact ⟨v, hv, opsK_quiet l _ _ K Q (hat.put o.dst v) hq hk⟩
      | false =>
        have h3 := h2 rfl
        rw [putK_eq] at h3
        exact opsK_quiet l _ _ K Q (hat.put o.dst undef) hq h3
    rw [opsK_cons] at h
    split at h
    · rename_i hg
      exact go true (fun _ => h) (fun h => by cases h) (by simp [Region.wanted, hg])
    · rename_i j want hg
      split at h
      · exact h.elim
      · rename_i t ht
        unfold guardK at h
        simp only [apK] at h
        rw [rdK_eq] at h
        split at h
        · rename_i b hb
          have hy := yielded_at hat ht hb
          have hs : fr.set t (.bool b) = fr := rd_set_self hb (by simp [undef])
          cases b <;> cases want <;> simp only [VIte, wrK_eq, hs] at h
          · exact go true (fun _ => h) (fun h => by cases h) (by simp [Region.wanted, hg, hy])
          · exact go false (fun h => by cases h) (fun _ => h) (by simp [Region.wanted, hg, hy])
          · exact go false (fun h => by cases h) (fun _ => h) (by simp [Region.wanted, hg, hy])
          · exact go true (fun _ => h) (fun h => by cases h) (by simp [Region.wanted, hg, hy])
        · rename_i vs hb
          exact go false (fun h => by cases h) (fun _ => h) (by simp [Region.wanted, hg, yielded_no hat ht hb])
        · exact h.elim

/-- A region whose order is open. -/
structure VDraw (P : Program) (l : List Oper) (fr : Fr) (H : Heap) (K : Fr → Heap → Prop) : Prop where
  in_ ::
  out_ : ∀ (id : Nat) (Q : Exit → Act → World → Prop) (a : Act) (w : World), At fr a → w.heap = H → (∀ c a w, ¬ Q (.panic c) a w) →
    (∀ fr' a' w', At fr' a' → Env w w' → K fr' w'.heap → Q .normal a' w') → (Code.region id l.toArray true).wp P Q a w

theorem VDraw.quiet {P : Program} {l : List Oper} {fr : Fr} {H : Heap} {K : Fr → Heap → Prop} (S : Nat → Prop) (hm : P.follows .mixedOrders = true)
    (hB : Region.lexB .any l.toArray = true) (h : opsK P true S l l fr H fun fr' _ => ∀ H', Agr S H H' → K fr' H') : VDraw P l fr H K := by
  refine ⟨?_⟩
  intro id Q a w hat hw _ hq
  subst hw
  refine wp_region_quiet (C := Cls w S) hm hB ⟨⟨rfl, rfl, rfl⟩, Agr.refl _ _⟩ ?_
  exact opsK_quiet l fr a _ _ hat (fun fr' a' hat' hk w' hw' => hq fr' a' w' hat' hw'.1 (hk _ hw'.2)) h
theorem agr_all {H H' : Heap} (h : Agr (fun _ => True) H H') : H' = H := Array.ext_getElem? fun i => h i trivial
/-- All its operations only read. -/
theorem VDraw.lex {P : Program} {l : List Oper} {fr : Fr} {H : Heap} {K : Fr → Heap → Prop} (hm : P.follows .mixedOrders = true)
    (hB : Region.lexB .any l.toArray = true) (h : opsK P true (fun _ => True) l l fr H K) : VDraw P l fr H K := by
  refine ⟨?_⟩
  intro id Q a w hat hw _ hq
  subst hw
  refine wp_region_quiet (C := Cls w fun _ => True) hm hB ⟨⟨rfl, rfl, rfl⟩, Agr.refl _ _⟩ ?_
  exact opsK_quiet l fr a K _ hat (fun fr' a' hat' hk w' hw' => hq fr' a' w' hat' hw'.1 (by rw [agr_all hw'.2]; exact hk)) h

/-- Whatever order is picked from here on, and S holds behind every operation but z. -/
def wpAnyT (P : Program) (ops : Array Oper) (Q : Exit → Act → World → Prop) (S : World → Prop) (z : Nat) : Nat → Array Bool → Act → World → Prop
  | 0, listed, a, w => Region.ready .any ops listed = [] ∧ Q .normal a w
  | fuel + 1, listed, a, w =>
    (Region.ready .any ops listed = [] → Q .normal a w) ∧
    ∀ i ∈ Region.ready .any ops listed, wpOp P ops Q i (fun a' w' => (i ≠ z → S w') ∧ wpAnyT P ops Q S z fuel (listed.setIfInBounds i true) a' w') a w

theorem wpAny_of_T {P : Program} {ops : Array Oper} {Q : Exit → Act → World → Prop} {S : World → Prop} {z : Nat} : ∀ (fuel : Nat) (listed : Array Bool) (a : Act) (w : World),
    wpAnyT P ops Q S z fuel listed a w → wpAny P .any ops Q fuel listed a w
  | 0, _, _, _, h => h
  | fuel + 1, _, _, _, h => ⟨h.1, fun i hi => wpOp_mono (fun a' w' h' => wpAny_of_T fuel _ a' w' h'.2) (h.2 i hi)⟩

theorem wpAnyT_first {P : Program} {ops : Array Oper} {Q : Exit → Act → World → Prop} {S : World → Prop} {z : Nat} {i : Nat} {oi : Oper} {v : Value} (hi : ops[i]? = some oi)
    (hsel : ∀ (j : Nat) (o : Oper) cs b, ops[j]? = some o → o.op ≠ .select cs b)
    (hQ : ∀ c a w, Q (.panic c) (a.put oi.dst v) w → Q (.panic c) a w) (hiz : i ≠ z) (hz : ∀ oz, ops[z]? = some oz → ∃ e ∈ oz.after, Region.binds .any e = true ∧ e.on = i) :
    ∀ (fuel : Nat) (listed : Array Bool) (a : Act) (w : World),
      (∀ j oj, ops[j]? = some oj → j ≠ i → listed.getD j true = false → (∀ e ∈ oj.after, Region.binds .any e = true → e.on ≠ i) → oi.apart ops oj = true) →
      i ∈ Region.ready .any ops listed → YieldsIf P ops S oi v a → S w →
      wpAnyT P ops Q S z fuel (listed.setIfInBounds i true) (a.put oi.dst v) w → wpAnyT P ops Q S z (fuel + 1) listed a w := by
  intro fuel
  induction fuel with
  | zero =>
    intro listed a w _ hr hy hS H
    refine ⟨fun h => (by rw [h] at hr; cases hr), fun j hj => ?_⟩
    by_cases hji : j = i
    · subst hji; exact hy.wpOp hi hS ⟨fun _ => hS, H⟩
    · have := ready_mono hj hji
      rw [H.1] at this
      cases this
  | succ fuel ih =>
    intro listed a w hfree hr hy hS H
    refine ⟨fun h => (by rw [h] at hr; cases hr), fun j hj => ?_⟩
    by_cases hji : j = i
    · subst hji; exact hy.wpOp hi hS ⟨fun _ => hS, H⟩
    · have h1 := H.2 j (ready_mono hj hji)
      obtain ⟨hjun, oj, hoj, hall⟩ := mem_ready.1 hj
      have hnot : ∀ e ∈ oj.after, Region.binds .any e = true → e.on ≠ i := fun e he hb heq => by
        have h1 := hall e he hb
        have h0 := (mem_ready.1 hr).1
        rw [heq] at h1
        rcases Nat.lt_or_ge i listed.size with h' | h'
        · simp [h'] at h0 h1; rw [h0] at h1; cases h1
        · simp [Array.getElem?_eq_none h'] at h1
      have hjz : j ≠ z := by
        intro hjz
        subst hjz
        obtain ⟨e, he, hb, hon⟩ := hz oj hoj
        exact hnot e he hb hon
      have h2 := wpOp_putIf hoj (hfree j oj hoj hji hjun hnot) (fun cs b => hsel i oi cs b hi) (fun cs b => hsel j oj cs b hoj) hQ hy h1
      have hfree' : ∀ k ok, ops[k]? = some ok → k ≠ i → (listed.setIfInBounds j true).getD k true = false →
          (∀ e ∈ ok.after, Region.binds .any e = true → e.on ≠ i) → oi.apart ops ok = true := fun k ok hk hki hun hno => by
        refine hfree k ok hk hki ?_ hno
        by_cases hjk : j = k
        · subst hjk; exact hjun
        · rw [getD_set_ne true hjk] at hun; exact hun
      refine wpOp_mono (fun a' w' h3 => ⟨fun _ => h3.2.1 hjz, ih (listed.setIfInBounds j true) a' w' hfree' (ready_mono hr (Ne.symm hji)) h3.1 (h3.2.1 hjz) ?_⟩) h2
      rw [Array.setIfInBounds_comm _ _ hji]
      exact h3.2.2

/-- An order that is handed in. q: an operation that only reads, and may be taken first; f: it alone can come up; b: one of two comes up; e: the end. -/
inductive Sch where
  | e
  | q (i : Nat) (s : Sch)
  | f (i : Nat) (s : Sch)
  | b (i : Nat) (s : Sch) (j : Nat) (s' : Sch)
def sq : List Nat → Sch → Sch
  | [], s => s
  | i :: l, s => .q i (sq l s)

/-- One operation of the order, carried out here; z: the last one, behind all others (or none). -/
def stepK (P : Program) (S : Nat → Prop) (z : Nat) (H0 : Heap) (all : List Oper) (i : Nat) (fr : Fr) (H : Heap) (next : Fr → Heap → Prop) : Prop :=
  match all[i]? with
  | none => False
  | some o => match o.guard with
    | some _ => False
    | none => match Nat.beq i z with
      | true => opK P false (fun _ => True) o fr H fun v H' => putK o.dst fr v fun fr' => next fr' H'
      | false => opK P false (fun _ => True) o fr H fun v H' => Agr S H0 H' ∧ putK o.dst fr v fun fr' => next fr' H'
def heldK (P : Program) (S : Nat → Prop) (z : Nat) (H0 : Heap) (all : List Oper) (s : Sch) : Fr → Heap → (Fr → Heap → Prop) → Prop :=
  Sch.rec (motive := fun _ => Fr → Heap → (Fr → Heap → Prop) → Prop) (fun fr H K => K fr H)
    (fun i _ ih fr H K => match all[i]? with
      | none => False
      | some o => match o.guard with
        | some _ => False
        | none => match isDet o && convDet P o with
          | true => detK P S o fr H fun v => putK o.dst fr v fun fr' => ih fr' H K
          | false => False)
    (fun i _ ih fr H K => stepK P S z H0 all i fr H fun fr' H' => ih fr' H' K)
    (fun i _ j _ ih ih' fr H K => (stepK P S z H0 all i fr H fun fr' H' => ih fr' H' K) ∧ stepK P S z H0 all j fr H fun fr' H' => ih' fr' H' K) s
theorem heldK_q (P : Program) (S : Nat → Prop) (z : Nat) (H0 : Heap) (all : List Oper) (i : Nat) (s : Sch) (fr : Fr) (H : Heap) (K : Fr → Heap → Prop) : heldK P S z H0 all (.q i s) fr H K =
    (match all[i]? with
      | none => False
      | some o => match o.guard with
        | some _ => False
        | none => match isDet o && convDet P o with
          | true => detK P S o fr H fun v => putK o.dst fr v fun fr' => heldK P S z H0 all s fr' H K
          | false => False) := rfl

def heldB (ops : Array Oper) (z : Nat) : Sch → Array Bool → Bool
  | .e, listed => (Region.ready .any ops listed).isEmpty
  | .q i s, listed => (Region.ready .any ops listed).contains i && Region.free .any ops listed i && !(Nat.beq i z) && (decide (ops.size ≤ z) || Region.waitsFor .any ops z i) && heldB ops z s (listed.setIfInBounds i true)
  | .f i s, listed => Region.ready .any ops listed == [i] && (!(Nat.beq i z) || (match s with | .e => true | _ => false)) && heldB ops z s (listed.setIfInBounds i true)
  | .b i s j s', listed => Region.ready .any ops listed == [i, j] && !(Nat.beq i z) && !(Nat.beq j z) && heldB ops z s (listed.setIfInBounds i true) && heldB ops z s' (listed.setIfInBounds j true)
def Sch.len : Sch → Nat
  | .e => 0
  | .q _ s => s.len + 1
  | .f _ s => s.len + 1
  | .b _ s _ _ => s.len + 1
def Sch.even : Sch → Bool
  | .e => true
  | .q _ s => s.even
  | .f _ s => s.even
  | .b _ s _ s' => s.even && s'.even && s.len == s'.len

theorem stepK_sound {P : Program} {S : Nat → Prop} {z : Nat} {w0 : World} {all : List Oper} {Q : Exit → Act → World → Prop} {i : Nat} {fr : Fr} {a : Act} {w : World} {next : Fr → Heap → Prop} {N : Act → World → Prop}
    (hat : At fr a) (hc : Env w0 w) (h : stepK P S z w0.heap all i fr w.heap next)
    (hn : ∀ fr' a' w', At fr' a' → Env w0 w' → (i ≠ z → Cls w0 S w') → next fr' w'.heap → N a' w') : wpOp P all.toArray Q i N a w := by
  unfold stepK at h
  split at h
  · exact h.elim
  · rename_i o ho
    have ho' : all.toArray[i]? = some o := by simpa using ho
    split at h
    · exact h.elim
    · rename_i hg
      have hwant : Region.wanted o (yielded all.toArray a.tmps) = true := by simp [Region.wanted, hg]
      unfold wpOp
      rw [ho']
      dsimp only
      rw [if_pos hwant]
      split at h
      · rename_i hz
        refine .inl (Oper.wp_mono ?_ (opK_sound hat h _))
        rintro a' w' ⟨v, rfl, henv, hk⟩
        rw [putK_eq] at hk
        exact hn _ _ _ (hat.put o.dst v) (hc.trans henv) (fun hne => absurd (Nat.eq_of_beq_eq_true hz) hne) hk
      · refine .inl (Oper.wp_mono ?_ (opK_sound hat h _))
        rintro a' w' ⟨v, rfl, henv, hagr, hk⟩
        rw [putK_eq] at hk
        exact hn _ _ _ (hat.put o.dst v) (hc.trans henv) (fun _ => ⟨hc.trans henv, hagr⟩) hk

theorem heldK_sound {P : Program} {S : Nat → Prop} {z : Nat} {w0 : World} {all : List Oper} {Q : Exit → Act → World → Prop} (hs : Region.noSelect all.toArray = true)
    (hp : ∀ c a w, ¬ Q (.panic c) a w) : ∀ (l : Sch) (listed : Array Bool) (fr : Fr) (a : Act) (w : World) (K : Fr → Heap → Prop), At fr a → (l = .e → Env w0 w) → (l ≠ .e → Cls w0 S w) →
    (∀ fr' a' w', At fr' a' → Env w0 w' → K fr' w'.heap → Q .normal a' w') → heldB all.toArray z l listed = true → l.even = true →
    heldK P S z w0.heap all l fr w.heap K → wpAnyT P all.toArray Q (Cls w0 S) z l.len listed a w
  | .e, listed, fr, a, w, K, hat, he, _, hq, hB, _, h => ⟨by simpa [heldB] using hB, hq fr a w hat (he rfl) h⟩
  | .q i s, listed, fr, a, w, K, hat, _, hc, hq, hB, hev, h => by
    have hc := hc (by simp)
    simp only [heldB, Bool.and_eq_true, Bool.or_eq_true, decide_eq_true_eq, Bool.not_eq_true'] at hB
    obtain ⟨⟨⟨⟨b1, b2⟩, b3⟩, b4⟩, hB2⟩ := hB
    rw [heldK_q] at h
    split at h
    · exact h.elim
    · rename_i o ho
      have ho' : all.toArray[i]? = some o := by simpa using ho
      split at h
      · exact h.elim
      · rename_i hg
        have hwant : Region.wanted o (yielded all.toArray a.tmps) = true := by simp [Region.wanted, hg]
        split at h
        · obtain ⟨v, hv, hk⟩ := detK_sound h
          rw [putK_eq] at hk
          refine wpAnyT_first (v := v) ho' (Region.noSelect_spec hs) (fun c a' w' hh => (hp _ _ _ hh).elim) (Nat.ne_of_beq_eq_false b3) ?_ s.len listed a w (Region.free_spec ho' b2) (by simpa using b1)
            (.inl ⟨hwant, fun w' hw' => ?_⟩) hc ?_
          · intro oz hoz
            rcases b4 with b4 | b4
            · rw [Array.getElem?_eq_none b4] at hoz; cases hoz
            · obtain ⟨oj, hoj, e, he, hb, hon⟩ := Region.waitsFor_spec b4
              have : oj = oz := Option.some.inj (hoj.symm.trans hoz)
              subst this
              exact ⟨e, he, hb, hon⟩
          · rw [hat.evalF]
            exact hv w' fun k hk => (hw'.2 k hk).trans (hc.2 k hk).symm
          · exact heldK_sound hs hp s _ _ _ w K (hat.put o.dst v) (fun _ => hc.1) (fun _ => hc) hq hB2 hev hk
        · exact h.elim
  | .f i s, listed, fr, a, w, K, hat, _, hc, hq, hB, hev, h => by
    have hcl := hc (by simp)
    simp only [heldB, Bool.and_eq_true, Bool.or_eq_true, Bool.not_eq_true', beq_iff_eq] at hB
    obtain ⟨⟨b1, b2⟩, hB2⟩ := hB
    refine ⟨(fun h0 => by rw [b1] at h0; cases h0), fun j hj => ?_⟩
    rw [b1] at hj
    obtain rfl : j = i := by simpa using hj
    refine stepK_sound hat hcl.1 h fun fr' a' w' h1 h2 h3 h4 => ⟨h3, heldK_sound hs hp s _ _ _ w' K h1 (fun _ => h2) (fun hne => h3 fun hjz => ?_) hq hB2 hev h4⟩
    rcases b2 with b2 | b2
    · exact Nat.ne_of_beq_eq_false b2 hjz
    · cases s <;> first | exact hne rfl | cases b2
  | .b i s j s', listed, fr, a, w, K, hat, _, hc, hq, hB, hev, h => by
    have hcl := hc (by simp)
    simp only [heldB, Bool.and_eq_true, Bool.not_eq_true', beq_iff_eq] at hB
    obtain ⟨⟨⟨⟨b1, b2⟩, b3⟩, hB2⟩, hB3⟩ := hB
    simp only [Sch.even, Bool.and_eq_true, beq_iff_eq] at hev
    obtain ⟨⟨e1, e2⟩, e3⟩ := hev
    refine ⟨(fun h0 => by rw [b1] at h0; cases h0), fun k hk => ?_⟩
    rw [b1] at hk
    rcases List.mem_cons.1 hk with rfl | hk
    · exact stepK_sound hat hcl.1 h.1 fun fr' a' w' h1 h2 h3 h4 => ⟨h3, heldK_sound hs hp s _ _ _ w' K h1 (fun _ => h2) (fun _ => h3 (Nat.ne_of_beq_eq_false b2)) hq hB2 e1 h4⟩
    · obtain rfl : k = j := by simpa using hk
      rw [e3]
      exact stepK_sound hat hcl.1 h.2 fun fr' a' w' h1 h2 h3 h4 => ⟨h3, heldK_sound hs hp s' _ _ _ w' K h1 (fun _ => h2) (fun _ => h3 (Nat.ne_of_beq_eq_false b3)) hq hB3 e2 h4⟩

theorem VDraw.held {P : Program} {l : List Oper} {fr : Fr} {H : Heap} {K : Fr → Heap → Prop} (S : Nat → Prop) (z : Nat) (sched : Sch) (hm : P.follows .mixedOrders = true)
    (hB : (Region.noSelect l.toArray && (sched.len == l.length) && sched.even && heldB l.toArray z sched (Array.replicate l.length false)) = true)
    (h : heldK P S z H l sched fr H K) : VDraw P l fr H K := by
  refine ⟨?_⟩
  intro id Q a w hat hw hp hq
  subst hw
  simp only [Bool.and_eq_true, beq_iff_eq] at hB
  refine wp_region_any hm (wpAny_of_T (S := Cls w S) (z := z) _ _ _ _ ?_)
  have := heldK_sound (P := P) (S := S) (z := z) (w0 := w) (Q := Q) hB.1.1.1 hp sched (Array.replicate l.length false) fr a { w with drawn := w.drawn + 1 } K hat (fun _ => ⟨rfl, rfl, rfl⟩) (fun _ => ⟨⟨rfl, rfl, rfl⟩, Agr.refl _ _⟩) hq hB.2 hB.1.2 h
  rw [hB.1.1.2] at this
  simpa using this
/-- All but the last only read. -/
theorem VDraw.tail {P : Program} {l : List Oper} {fr : Fr} {H : Heap} {K : Fr → Heap → Prop} (z : Nat) (sched : Sch) (hm : P.follows .mixedOrders = true)
    (hB : (Region.noSelect l.toArray && (sched.len == l.length) && sched.even && heldB l.toArray z sched (Array.replicate l.length false)) = true)
    (h : heldK P (fun _ => True) z H l sched fr H K) : VDraw P l fr H K := VDraw.held _ z sched hm hB h

theorem VDraw.out {P : Program} {l : List Oper} {fr : Fr} {H : Heap} {K : Fr → Heap → Prop} (h : VDraw P l fr H K) :
    ∀ (id : Nat) (Q : Exit → Act → World → Prop) (a : Act) (w : World), At fr a → w.heap = H → (∀ c a w, ¬ Q (.panic c) a w) →
    (∀ fr' a' w', At fr' a' → Env w w' → K fr' w'.heap → Q .normal a' w') → (Code.region id l.toArray true).wp P Q a w := by
  exact h.out_

/-! ### code -/
/-- What is asked at an exit, in terms of frames and heaps. -/
def Lift (w0 : World) (Q : Exit → Fr → Heap → Prop) : Exit → Act → World → Prop
  | .panic _, _, _ => False
  | .outgrown, _, _ => False
  | e, a, w => ∃ fr, At fr a ∧ Env w0 w ∧ Q e fr w.heap

/-- What is asked at the exits: kn behind the code, X behind its blocks, kr where the function returns. -/
def exitK (X : List (Nat × (Fr → Heap → Prop))) (id : Nat) (fr : Fr) (H : Heap) : Prop :=
  match X with
  | [] => False
  | (j, k) :: X => match Nat.beq j id with
    | true => k fr H
    | false => exitK X id fr H
def Qx (kn : Fr → Heap → Prop) (X : List (Nat × (Fr → Heap → Prop))) (kr : Fr → Heap → Prop) (e : Exit) (fr : Fr) (H : Heap) : Prop :=
  match e with
  | .normal => kn fr H
  | .exit id => exitK X id fr H
  | .ret => kr fr H
  | _ => False

/-- A loop. -/
structure VLoop (P : Program) (c : Code) (fr : Fr) (H : Heap) (X : List (Nat × (Fr → Heap → Prop))) (kr : Fr → Heap → Prop) : Prop where
  in_ ::
  out_ : ∀ (a : Act) (w : World), At fr a → w.heap = H → (Code.loop c).wp P (Lift w (Qx (fun _ _ => False) X kr)) a w

def fallsC : Code → Bool
  | .ret | .exit _ | .goto _ => false
  | .seq a b => fallsC a && fallsC b
  | .cond _ a b => fallsC a || fallsC b
  | _ => true
/-- How often a block is left by an exit. -/
def exitsC (id : Nat) : Code → Nat
  | .exit j => match Nat.beq j id with
    | true => 1
    | false => 0
  | .seq a b => exitsC id a + exitsC id b
  | .cond _ a b => exitsC id a + exitsC id b
  | .block _ c => exitsC id c
  | .loop c => exitsC id c
  | _ => 0
/-- Does the code part and meet again? -/
def joinsC : Code → Bool
  | .seq _ b => joinsC b
  | .cond _ a b => fallsC a && fallsC b
  | .block id (.loop c) => Nat.blt 1 (exitsC id c)
  | .block id c => (fallsC c && Nat.blt 0 (exitsC id c)) || Nat.blt 1 (exitsC id c) || joinsC c
  | _ => false

/-- Two pieces of code of which the first parts and meets again. -/
structure VSeq (P : Program) (x y : Code) (fr : Fr) (H : Heap) (kn : Fr → Heap → Prop) (X : List (Nat × (Fr → Heap → Prop))) (kr : Fr → Heap → Prop) : Prop where
  in_ ::
  out_ : ∀ (a : Act) (w : World), At fr a → w.heap = H → (Code.seq x y).wp P (Lift w (Qx kn X kr)) a w

def vc (P : Program) (c : Code) : Fr → Heap → (Fr → Heap → Prop) → List (Nat × (Fr → Heap → Prop)) → (Fr → Heap → Prop) → Prop :=
  Code.rec (motive := fun _ => Fr → Heap → (Fr → Heap → Prop) → List (Nat × (Fr → Heap → Prop)) → (Fr → Heap → Prop) → Prop)
    (fun fr H kn _ _ => kn fr H)
    (fun _ ops draw fr H kn _ _ => match draw with
      | false => opsK P false (fun _ => True) ops.toList ops.toList fr H kn
      | true => VDraw P ops.toList fr H kn)
    (fun a b iha ihb fr H kn X kr => match joinsC a with
      | true => VSeq P a b fr H kn X kr
      | false => iha fr H (fun fr' H' => ihb fr' H' kn X kr) X kr)
    (fun c _ _ ihx ihy fr H kn X kr => match c with
      | .tmp t => rdK fr t fun v => match v with
        | .bool b => VIte b (wrK fr t (.bool true) fun fr1 => ihx fr1 H kn X kr) (wrK fr t (.bool false) fun fr1 => ihy fr1 H kn X kr)
        | _ => False
      | .const (.bool b) => VIte b (ihx fr H kn X kr) (ihy fr H kn X kr)
      | _ => False)
    (fun id _ ih fr H kn X kr => ih fr H kn ((id, kn) :: X) kr)
    (fun c _ fr H _ X kr => VLoop P c fr H X kr)
    (fun _ _ _ _ _ _ _ _ _ _ _ => False)
    (fun id fr H _ X _ => exitK X id fr H)
    (fun _ _ _ _ _ _ _ => False)
    (fun _ _ _ _ _ _ => False)
    (fun _ _ _ _ _ _ => False)
    (fun fr H _ _ kr => kr fr H)
    (fun _ _ _ _ _ _ => False) c
section
variable (P : Program) (a b : Code) (fr : Fr) (H : Heap) (kn : Fr → Heap → Prop) (X : List (Nat × (Fr → Heap → Prop))) (kr : Fr → Heap → Prop)
theorem vc_region (id : Nat) (ops : Array Oper) (draw : Bool) : vc P (.region id ops draw) fr H kn X kr = (match draw with
      | false => opsK P false (fun _ => True) ops.toList ops.toList fr H kn
      | true => VDraw P ops.toList fr H kn) := rfl
theorem vc_seq : vc P (.seq a b) fr H kn X kr = (match joinsC a with
      | true => VSeq P a b fr H kn X kr
      | false => vc P a fr H (fun fr' H' => vc P b fr' H' kn X kr) X kr) := rfl
theorem vc_cond (c : Operand) : vc P (.cond c a b) fr H kn X kr = (match c with
      | .tmp t => rdK fr t fun v => match v with
        | .bool x => VIte x (wrK fr t (.bool true) fun fr1 => vc P a fr1 H kn X kr) (wrK fr t (.bool false) fun fr1 => vc P b fr1 H kn X kr)
        | _ => False
      | .const (.bool x) => VIte x (vc P a fr H kn X kr) (vc P b fr H kn X kr)
      | _ => False) := rfl
theorem vc_block (id : Nat) : vc P (.block id a) fr H kn X kr = vc P a fr H kn ((id, kn) :: X) kr := rfl
end

theorem VLoop.out {P : Program} {c : Code} {fr : Fr} {H : Heap} {X : List (Nat × (Fr → Heap → Prop))} {kr : Fr → Heap → Prop} (h : VLoop P c fr H X kr) :
    ∀ (a : Act) (w : World), At fr a → w.heap = H → (Code.loop c).wp P (Lift w (Qx (fun _ _ => False) X kr)) a w := by exact h.out_
theorem VSeq.out {P : Program} {x y : Code} {fr : Fr} {H : Heap} {kn : Fr → Heap → Prop} {X : List (Nat × (Fr → Heap → Prop))} {kr : Fr → Heap → Prop} (h : VSeq P x y fr H kn X kr) :
    ∀ (a : Act) (w : World), At fr a → w.heap = H → (Code.seq x y).wp P (Lift w (Qx kn X kr)) a w := by exact h.out_

theorem Lift.env {w0 w1 : World} {Q : Exit → Fr → Heap → Prop} (henv : Env w0 w1) : ∀ {e : Exit} {a : Act} {w : World}, Lift w1 Q e a w → Lift w0 Q e a w
  | .normal, _, _, ⟨fr, h1, h2, h3⟩ | .exit _, _, _, ⟨fr, h1, h2, h3⟩ | .goto _, _, _, ⟨fr, h1, h2, h3⟩ | .ret, _, _, ⟨fr, h1, h2, h3⟩ => ⟨fr, h1, henv.trans h2, h3⟩
theorem Lift.mono {w0 : World} {Q Q' : Exit → Fr → Heap → Prop} (hq : ∀ e fr H, Q e fr H → Q' e fr H) : ∀ {e : Exit} {a : Act} {w : World}, Lift w0 Q e a w → Lift w0 Q' e a w
  | .normal, _, _, ⟨fr, h1, h2, h3⟩ | .exit _, _, _, ⟨fr, h1, h2, h3⟩ | .goto _, _, _, ⟨fr, h1, h2, h3⟩ | .ret, _, _, ⟨fr, h1, h2, h3⟩ => ⟨fr, h1, h2, hq _ _ _ h3⟩

theorem seq_lift {P : Program} {x y : Code} {kn k1 : Fr → Heap → Prop} {X : List (Nat × (Fr → Heap → Prop))} {kr : Fr → Heap → Prop} {a : Act} {w : World}
    (hx : x.wp P (Lift w (Qx k1 X kr)) a w)
    (hy : ∀ fr a' w', At fr a' → Env w w' → k1 fr w'.heap → y.wp P (Lift w' (Qx kn X kr)) a' w') : (Code.seq x y).wp P (Lift w (Qx kn X kr)) a w := by
  refine wp_seq (Code.wp_mono ?_ hx)
  intro e a' w' h
  cases e with
  | normal =>
    obtain ⟨fr, h1, h2, h3⟩ := h
    exact Code.wp_mono (fun e a w h => Lift.env h2 h) (hy fr a' w' h1 h2 h3)
  | exit id => exact h
  | goto l => exact h
  | ret => exact h
  | panic c => exact h
  | outgrown => exact h

theorem vc_sound {P : Program} : ∀ (c : Code) (fr : Fr) (kn : Fr → Heap → Prop) (X : List (Nat × (Fr → Heap → Prop))) (kr : Fr → Heap → Prop) (a : Act) (w : World), At fr a →
    vc P c fr w.heap kn X kr → c.wp P (Lift w (Qx kn X kr)) a w
  | .skip, fr, kn, X, kr, a, w, hat, h => wp_skip ⟨fr, hat, Env.refl w, h⟩
  | .region id ops draw, fr, kn, X, kr, a, w, hat, h => by
    rw [vc_region] at h
    cases draw with
    | false =>
      have := wp_opsK (P := P) (id := id) (l := ops.toList) (Q := Lift w (Qx kn X kr)) hat (fun fr' a' w' h1 h2 h3 => ⟨fr', h1, h2, h3⟩) h
      simpa using this
    | true =>
      have := h.out id (Lift w (Qx kn X kr)) a w hat rfl (fun _ _ _ h => h) (fun fr' a' w' h1 h2 h3 => ⟨fr', h1, h2, h3⟩)
      simpa using this
  | .seq x y, fr, kn, X, kr, a, w, hat, h => by
    rw [vc_seq] at h
    split at h
    · exact h.out a w hat rfl
    · exact seq_lift (vc_sound x fr _ X kr a w hat h) fun fr' a' w' h1 _ h3 => vc_sound y fr' kn X kr a' w' h1 h3
  | .cond c x y, fr, kn, X, kr, a, w, hat, h => by
    rw [vc_cond] at h
    split at h
    · rename_i t
      rw [rdK_eq] at h
      split at h
      · rename_i b hb
        have hs : fr.set t (.bool b) = fr := rd_set_self hb (by simp [undef])
        have he : a.eval (.tmp t) = .bool b := by rw [hat.eval]; exact hb
        cases b <;> simp only [VIte, wrK_eq, hs] at h
        · exact wp_cond_false he (vc_sound y fr kn X kr a w hat h)
        · exact wp_cond_true he (vc_sound x fr kn X kr a w hat h)
      · exact h.elim
    · rename_i b
      cases b <;> simp only [VIte] at h
      · exact wp_cond_false rfl (vc_sound y fr kn X kr a w hat h)
      · exact wp_cond_true rfl (vc_sound x fr kn X kr a w hat h)
    · exact h.elim
  | .block id c, fr, kn, X, kr, a, w, hat, h => by
    rw [vc_block] at h
    refine wp_block (Code.wp_mono ?_ (vc_sound c fr kn _ kr a w hat h))
    intro e a' w' h
    cases e with
    | exit id' =>
      obtain ⟨fr', h1, h2, h3⟩ := h
      simp only [Qx, exitK] at h3
      simp only [Exit.inBlock]
      split at h3
      · rename_i hid
        have := Nat.eq_of_beq_eq_true hid
        rw [if_pos this.symm]
        exact ⟨fr', h1, h2, h3⟩
      · rename_i hid
        have : id ≠ id' := Nat.ne_of_beq_eq_false hid
        rw [if_neg (Ne.symm this)]
        exact ⟨fr', h1, h2, h3⟩
    | normal => exact h
    | goto l => exact h
    | ret => exact h
    | panic c => exact h
    | outgrown => exact h
  | .loop c, fr, kn, X, kr, a, w, hat, h => Code.wp_mono (fun e a w => Lift.mono fun e fr H hq => by
      cases e <;> first | exact hq | exact hq.elim) (h.out a w hat rfl)
  | .exit id, fr, kn, X, kr, a, w, hat, h => wp_exit ⟨fr, hat, Env.refl w, h⟩
  | .ret, fr, kn, X, kr, a, w, hat, h => wp_ret ⟨fr, hat, Env.refl w, h⟩
  | .rangeFunc .., _, _, _, _, _, _, _, h => h.elim
  | .scope _, _, _, _, _, _, _, _, h => h.elim
  | .label _, _, _, _, _, _, _, _, h => h.elim
  | .goto _, _, _, _, _, _, _, _, h => h.elim
  | .refuse _, _, _, _, _, _, _, _, h => h.elim

/-! ### loops -/
noncomputable def rdsK {R : Type} (fr : Fr) (ts : List Nat) : (List Value → R) → R :=
  List.rec (motive := fun _ => (List Value → R) → R) (fun K => K []) (fun t _ ih K => rdK fr t fun v => ih fun vs => K (v :: vs)) ts
noncomputable def wrsK {R : Type} (fr : Fr) (ts : List Nat) (vs : List Value) (K : Fr → R) : R :=
  List.rec (motive := fun _ => List Value → Fr → R) (fun _ fr => K fr) (fun t _ ih vs fr => List.casesOn vs (K fr) fun v vs => wrK fr t v fun fr' => ih vs fr') ts vs fr
/-- The slots of ws hold whatever. -/
noncomputable def havocK {R : Type} (f : Nat → Value) (fr : Fr) (ts : List Nat) (K : Fr → R) : R :=
  List.rec (motive := fun _ => Fr → R) (fun fr => K fr) (fun t _ ih fr => wrK fr t (f t) fun fr' => ih fr') ts fr

def wrs (fr : Fr) : List Nat → List Value → Fr
  | t :: ts, v :: vs => wrs (fr.set t v) ts vs
  | _, _ => fr
def havoc (f : Nat → Value) (fr : Fr) : List Nat → Fr
  | [] => fr
  | t :: ts => havoc f (fr.set t (f t)) ts
theorem rdsK_eq {R : Type} (fr : Fr) : ∀ (ts : List Nat) (K : List Value → R), rdsK fr ts K = K (ts.map (rd fr))
  | [], _ => rfl
  | t :: ts, K => by show rdK fr t (fun v => rdsK fr ts fun vs => K (v :: vs)) = _; simp only [rdK_eq, rdsK_eq fr ts, List.map_cons]
theorem wrsK_eq {R : Type} : ∀ (ts : List Nat) (vs : List Value) (fr : Fr) (K : Fr → R), wrsK fr ts vs K = K (wrs fr ts vs)
  | [], vs, fr, K => by cases vs <;> rfl
  | _ :: _, [], _, _ => rfl
  | t :: ts, v :: vs, fr, K => by show wrK fr t v (fun fr' => wrsK fr' ts vs K) = _; simp only [wrK_eq, wrs]; exact wrsK_eq ts vs _ K
theorem havocK_eq {R : Type} (f : Nat → Value) : ∀ (ts : List Nat) (fr : Fr) (K : Fr → R), havocK f fr ts K = K (havoc f fr ts)
  | [], _, _ => rfl
  | t :: ts, fr, K => by show wrK fr t (f t) (fun fr' => havocK f fr' ts K) = _; simp only [wrK_eq, havoc]; exact havocK_eq f ts _ K
theorem havoc_get (f : Nat → Value) : ∀ (ts : List Nat) (fr : Fr) (i : Nat), (havoc f fr ts)[i]? = if i ∈ ts ∧ i < fr.length then some (f i) else fr[i]?
  | [], fr, i => by simp [havoc]
  | t :: ts, fr, i => by
    simp only [havoc, havoc_get f ts, List.length_set, List.mem_cons, List.getElem?_set]
    by_cases h1 : i ∈ ts <;> by_cases h2 : i < fr.length <;> by_cases h3 : t = i
    all_goals simp [h1, h2, h3]
    all_goals first | (subst h3; simp [h2]; done) | (rw [if_neg (by omega)]; done) | (have : ¬ i = t := fun h => h3 h.symm; simp [this]; done) | skip
theorem havoc_length (f : Nat → Value) : ∀ (ts : List Nat) (fr : Fr), (havoc f fr ts).length = fr.length
  | [], _ => rfl
  | t :: ts, fr => by simp only [havoc, havoc_length f ts, List.length_set]
/-- A frame that is fr outside ws can be made from fr: the junk is what it holds there. -/
theorem havoc_of_blank {ws : List Nat} {fr fr' : Fr} (h : havoc (fun _ => undef) fr' ws = havoc (fun _ => undef) fr ws) : havoc (rd fr') fr ws = fr' := by
  have hl : fr'.length = fr.length := by have := congrArg List.length h; simpa [havoc_length] using this
  apply List.ext_getElem?
  intro i
  rw [havoc_get]
  have hi := congrArg (fun l : List Value => l[i]?) h
  simp only [havoc_get, hl] at hi
  by_cases h1 : i ∈ ws ∧ i < fr.length
  · rw [if_pos h1]
    simp [rd, List.getElem?_eq_getElem (hl ▸ h1.2)]
  · rw [if_neg h1] at hi ⊢
    rw [if_neg h1] at hi
    exact hi.symm
theorem wrs_self : ∀ (ts : List Nat) (fr : Fr), wrs fr ts (ts.map (rd fr)) = fr
  | [], _ => rfl
  | t :: ts, fr => by
    have hs : fr.set t (rd fr t) = fr := by
      unfold rd
      rcases Nat.lt_or_ge t fr.length with hl | hl
      · rw [List.getD_eq_getElem?_getD, List.getElem?_eq_getElem hl]; exact List.set_getElem_self hl
      · exact List.set_eq_of_length_le hl
    simp only [List.map_cons, wrs, hs]
    exact wrs_self ts fr

/-- The frame is as1 it was outside ws. -/
def keptK (ws : List Nat) (fr fr' : Fr) (p : Prop) : Prop :=
  havocK (fun _ => undef) fr' ws fun a => havocK (fun _ => undef) fr ws fun b => a = b ∧ p

theorem wp_loop_rel {P : Program} {c : Code} {Q : Exit → Act → World → Prop} (J : Nat → Act → World → Prop)
    (round : ∀ n a w, J n a w → c.wp P (Exit.then (fun a' w' => ∃ n', n' < n ∧ J n' a' w') Q) a w) : ∀ n a w, J n a w → (Code.loop c).wp P Q a w := by
  intro n0 a0 w0 h0 b k cs
  have key : ∀ n a w, J n a w → ∃ e a' w', Q e a' w' ∧ Arrives P (lone (b.at a (.code c :: .inLoop c :: k)) cs w) b k cs e a' w' := by
    intro n
    induction n using Nat.strongRecOn with
    | _ n ih =>
      intro a w hI
      obtain ⟨e, a₁, w₁, hq, harr⟩ := round n a w hI b (.inLoop c :: k) cs
      cases e with
      | normal =>
        obtain ⟨n', hlt, hI₁⟩ := hq
        obtain ⟨e₂, a₂, w₂, hq₂, harr₂⟩ := ih n' hlt a₁ w₁ hI₁
        exact ⟨e₂, a₂, w₂, hq₂, .of_steps (Steps.trans harr (.one step_inLoop)) harr₂⟩
      | exit id => exact ⟨_, a₁, w₁, hq, .pass (x := .inLoop c) rfl (fun _ _ => .inl (by simp)) harr⟩
      | goto l => exact ⟨_, a₁, w₁, hq, .pass (x := .inLoop c) rfl (fun _ _ => .inl (by simp)) harr⟩
      | ret => exact ⟨_, a₁, w₁, hq, .pass (x := .inLoop c) rfl (fun _ _ => .inl (by simp)) harr⟩
      | panic ch => exact ⟨_, a₁, w₁, hq, .pass (x := .inLoop c) rfl (fun _ _ => .inl (by simp)) harr⟩
      | outgrown => exact ⟨_, a₁, w₁, hq, .pass (x := .inLoop c) rfl (fun _ _ => .inl (by simp)) harr⟩
  obtain ⟨e, a', w', hq, harr⟩ := key n0 a0 w0 h0
  exact ⟨e, a', w', hq, .of_steps (.one step_loop) harr⟩

/-- The slots that a piece of code writes. -/
def wsOps : List Oper → List Nat → List Nat
  | [], acc => acc
  | o :: l, acc => match o.dst with
    | some d => d :: wsOps l acc
    | none => wsOps l acc
def wset : Code → List Nat → List Nat
  | .region _ ops _, acc => wsOps ops.toList acc
  | .seq a b, acc => wset a (wset b acc)
  | .cond _ a b, acc => wset a (wset b acc)
  | .block _ c, acc => wset c acc
  | .loop c, acc => wset c acc
  | .scope c, acc => wset c acc
  | _, acc => acc

/-- The rule of a loop: ts: those of the slots that it writes that are read from round to round, or behind it; enc: what they hold, by a state; I: what holds of the state and the heap at each round's head; m: what every round lowers. -/
theorem VLoop.mk {P : Program} {c : Code} {fr : Fr} {H : Heap} {X : List (Nat × (Fr → Heap → Prop))} {kr : Fr → Heap → Prop} {α : Type} (ts : List Nat) (enc : α → List Value) (I : α → Heap → Prop) (m : α → Heap → Nat)
    (h0 : rdsK fr ts fun vs => ∃ x, vs = enc x ∧ I x H)
    (hr : ∀ (x : α) (H1 : Heap) (junk : Nat → Value), I x H1 → havocK junk fr (wset c []) fun fr0 => wrsK fr0 ts (enc x) fun fr1 =>
      vc P c fr1 H1 (fun fr' H' => keptK (wset c []) fr fr' (rdsK fr' ts fun vs => ∃ y, vs = enc y ∧ I y H' ∧ m y H' < m x H1)) X kr) : VLoop P c fr H X kr := by
  generalize wset c [] = ws at hr
  refine ⟨?_⟩
  intro a w hat hw
  subst hw
  have h0' := h0
  rw [rdsK_eq] at h0'
  obtain ⟨x0, hx0, hi0⟩ := h0'
  let J (n : Nat) (a' : Act) (w' : World) : Prop := ∃ fr' x, At fr' a' ∧ Env w w' ∧ havoc (fun _ => undef) fr' ws = havoc (fun _ => undef) fr ws ∧ ts.map (rd fr') = enc x ∧ I x w'.heap ∧ m x w'.heap = n
  refine wp_loop_rel J ?_ _ a w ⟨fr, x0, hat, Env.refl w, rfl, hx0, hi0, rfl⟩
  rintro n a1 w1 ⟨fr1, x1, hat1, henv1, hk1, hx1, hi1, rfl⟩
  have h := hr x1 w1.heap (rd fr1) hi1
  rw [havocK_eq, wrsK_eq, havoc_of_blank hk1, ← hx1, wrs_self ts fr1] at h
  refine Code.wp_mono ?_ (vc_sound c fr1 _ X kr a1 w1 hat1 h)
  intro e a2 w2 h2
  cases e with
  | normal =>
    obtain ⟨fr2, hat2, henv2, h2⟩ := h2
    simp only [Qx, keptK, havocK_eq, rdsK_eq] at h2
    obtain ⟨hk2, y, hy, hiy, hm⟩ := h2
    exact ⟨m y w2.heap, hm, fr2, y, hat2, henv1.trans henv2, hk2, hy, hiy, rfl⟩
  | exit id => exact Lift.env henv1 h2
  | goto l => exact Lift.env henv1 h2
  | ret => exact Lift.env henv1 h2
  | panic c => exact h2
  | outgrown => exact h2

theorem VSeq.run {P : Program} {x y : Code} {fr : Fr} {H : Heap} {kn : Fr → Heap → Prop} {X : List (Nat × (Fr → Heap → Prop))} {kr : Fr → Heap → Prop}
    (h : vc P x fr H (fun fr' H' => vc P y fr' H' kn X kr) X kr) : VSeq P x y fr H kn X kr := by
  refine ⟨?_⟩
  intro a w hat hw
  subst hw
  exact seq_lift (vc_sound x fr _ X kr a w hat h) fun fr' a' w' h1 _ h3 => vc_sound y fr' kn X kr a' w' h1 h3
/-- A cut where ways meet: as1 at a loop's head. -/
theorem VSeq.cut {P : Program} {x y : Code} {fr : Fr} {H : Heap} {kn : Fr → Heap → Prop} {X : List (Nat × (Fr → Heap → Prop))} {kr : Fr → Heap → Prop} {α : Type} (ts : List Nat) (enc : α → List Value) (I : α → Heap → Prop)
    (h : vc P x fr H (fun fr' H' => keptK (wset x []) fr fr' (rdsK fr' ts fun vs => ∃ y, vs = enc y ∧ I y H')) X kr)
    (k : ∀ (z : α) (H1 : Heap) (junk : Nat → Value), I z H1 → havocK junk fr (wset x []) fun fr0 => wrsK fr0 ts (enc z) fun fr1 => vc P y fr1 H1 kn X kr) : VSeq P x y fr H kn X kr := by
  generalize wset x [] = ws at h k
  refine ⟨?_⟩
  intro a w hat hw
  subst hw
  refine seq_lift (vc_sound x fr _ X kr a w hat h) fun fr1 a1 w1 h1 _ h3 => ?_
  simp only [keptK, havocK_eq, rdsK_eq] at h3
  obtain ⟨hk, z, hz, hi⟩ := h3
  have h := k z w1.heap (rd fr1) hi
  rw [havocK_eq, wrsK_eq, havoc_of_blank hk, ← hz, wrs_self ts fr1] at h
  exact vc_sound y fr1 kn X kr a1 w1 h1 h

/-! ### functions -/
def ldK (P : Program) (t : TypeId) (p : Value) (H : Heap) (K : Value → Prop) : Prop :=
  match p with
  | .pointer (some a) => VDet P (Instr.loadAt t (.pointer (some a))) (fun _ => True) H K
  | _ => False
def resK (P : Program) (rs : List ResultVar) (fr : Fr) (H : Heap) (R : Value → Heap → Prop) : Prop :=
  match rs with
  | [.tmp t] => rdK fr t fun v => R v H
  | [] => R (.tuple #[]) H
  | [.tmp t, .tmp u] => rdK fr t fun v => rdK fr u fun x => R (.tuple #[v, x]) H
  | [.tmp t, .tmp u, .tmp y] => rdK fr t fun v => rdK fr u fun x => rdK fr y fun z => R (.tuple #[v, x, z]) H
  | [.cell a t] => rdK fr a fun p => ldK P t p H fun v => R v H
  | [.cell a t, .tmp u] => rdK fr a fun p => ldK P t p H fun v => rdK fr u fun x => R (.tuple #[v, x]) H
  | [.tmp u, .cell a t] => rdK fr a fun p => ldK P t p H fun v => rdK fr u fun x => R (.tuple #[x, v]) H
  | [.cell a t, .cell b u] => rdK fr a fun p => ldK P t p H fun v => rdK fr b fun q => ldK P u q H fun x => R (.tuple #[v, x]) H
  | _ => False

theorem ldK_sound {P : Program} {t : TypeId} {p : Value} {w : World} {K : Value → Prop} (h : ldK P t p w.heap K) :
    ∃ a v, p = .pointer (some a) ∧ (loadVar t a).run P w = .ok v w ∧ K v := by
  unfold ldK at h
  split at h
  · rename_i a
    obtain ⟨v, hv, k⟩ := h.out
    have h1 := hv w (Agr.refl _ _)
    simp [Instr.loadAt, Instr.sureAddr] at h1
    exact ⟨a, v, rfl, h1, k⟩
  · exact h.elim

theorem resK_sound {P : Program} {fn : Func} {fr : Fr} {a : Act} {w : World} {R : Value → Heap → Prop} (hat : At fr a) (h : resK P fn.results.toList fr w.heap R) :
    ∃ v, (results fn a.tmps).run P w = .ok v w ∧ R v w.heap := by
  have hrd : ∀ t, a.tmps.getD t undef = rd fr t := fun t => hat.eval (.tmp t)
  have mk : ∀ l : List ResultVar, fn.results.toList = l → fn.results = l.toArray := fun l hl => Array.ext' (by simpa using hl)
  unfold resK at h
  split at h <;> rename_i hr <;> (try simp only [rdK_eq] at h) <;> have hr' := mk _ hr
  · exact ⟨_, by simp [results, hr', hrd], h⟩
  · exact ⟨_, by simp [results, hr'], h⟩
  · exact ⟨_, by simp [results, hr', hrd], h⟩
  · exact ⟨_, by simp [results, hr', hrd], h⟩
  · obtain ⟨p, v, hp, hv, hR⟩ := ldK_sound h
    exact ⟨v, by simp [results, hr', hrd, hp, asAddr, hv], hR⟩
  · obtain ⟨p, v, hp, hv, hR⟩ := ldK_sound h
    exact ⟨_, by simp [results, hr', hrd, hp, asAddr, hv], hR⟩
  · obtain ⟨p, v, hp, hv, hR⟩ := ldK_sound h
    exact ⟨_, by simp [results, hr', hrd, hp, asAddr, hv], hR⟩
  · obtain ⟨p, v, hp, hv, hR⟩ := ldK_sound h
    obtain ⟨p', v', hp', hv', hR⟩ := ldK_sound hR
    exact ⟨_, by simp [results, hr', hrd, hp, hp', asAddr, hv, hv'], hR⟩

noncomputable def normK {R : Type} (l : Fr) : (Fr → R) → R :=
  List.rec (motive := fun _ => (Fr → R) → R) (fun K => K []) (fun v _ ih K => ih fun l' => K (v :: l')) l
theorem normK_eq {R : Type} : ∀ (l : Fr) (K : Fr → R), normK l K = K l
  | [], _ => rfl
  | v :: l, K => by show normK l (fun l' => K (v :: l')) = _; exact normK_eq l _

/-- A function keeps its contract if its code does. -/
theorem FnOk.of_vc {P : Program} {f : FuncId} {fn : Func} {c : Code} {args : Array Value} {H : Heap} {R : Value → Heap → Prop} (hf : P.funcs[f]? = some fn) (hb : fn.body = some c)
    (hcall : ∀ w : World, (callFunc f args).run P w = .ok (.enter f args) w)
    (h : normK (args.toList ++ List.replicate (fn.ntmps - args.size) undef) fun fr => vc P c fr H (fun fr' H' => resK P fn.results.toList fr' H' R) [] (fun fr' H' => resK P fn.results.toList fr' H' R)) :
    FnOk P f args H R := by
  intro w hw
  subst hw
  refine ⟨hcall w, ?_⟩
  refine calls_of_wp hf hb ?_
  rw [normK_eq] at h
  have hat : At (args.toList ++ List.replicate (fn.ntmps - args.size) undef) { tmps := args ++ Array.replicate (fn.ntmps - args.size) undef, defers := [] } := ⟨by simp, rfl⟩
  refine Code.wp_mono ?_ (vc_sound c _ _ _ _ _ w hat h)
  intro e a' w' h2
  have fin : ∀ fr, At fr a' → Env w w' → resK P fn.results.toList fr w'.heap R → a'.defers = [] ∧ ∃ v, (results fn a'.tmps).run P w' = .ok v w' ∧ ∃ v', Ending.returned v = .returned v' ∧ Env w w' ∧ R v' w'.heap := by
    intro fr h1 h2 h3
    obtain ⟨v, hv, hR⟩ := resK_sound h1 h3
    exact ⟨h1.defers, v, hv, v, rfl, h2, hR⟩
  cases e with
  | normal => obtain ⟨fr, h1, h2, h3⟩ := h2; exact fin fr h1 h2 h3
  | ret => obtain ⟨fr, h1, h2, h3⟩ := h2; exact fin fr h1 h2 h3
  | exit id => obtain ⟨fr, h1, h2, h3⟩ := h2; exact h3.elim
  | goto l => obtain ⟨fr, h1, h2, h3⟩ := h2; exact h3.elim
  | panic c => exact h2.elim
  | outgrown => exact h2.elim

end Go.VC
/- What the operations on memory ask and give, in terms of heaps: cells, blocks, slices, maps. -/
set_option linter.unusedVariables false
set_option linter.unusedSimpArgs false
namespace Go.VC

/-! ### type facts -/
structure SlT (P : Program) (t e : TypeId) (sz by_ : Nat) (z : Value) : Prop where
  under : P.underlying t = some (.slice e)
  info : ∃ i, P.info? e = some i ∧ i.size = sz ∧ i.bytes = by_ ∧ i.zero = some z
  zsz : z.cells.size = sz
structure CellT (P : Program) (t : TypeId) : Prop where
  under : ∃ d, P.underlying t = some d ∧ d.isRow = false
  size : (P.info? t).map (·.size) = some 1
structure AggT (P : Program) (t : TypeId) (n : Nat) : Prop where
  under : ∃ d, P.underlying t = some d ∧ d.isRow = true
  size : (P.info? t).map (·.size) = some n
structure FieldT (P : Program) (s f off ft n : Nat) : Prop where
  under : ∃ fs fd, P.underlying s = some (.struct fs) ∧ fs[f]? = some fd ∧ fd.offset = off ∧ fd.type = ft
  size : (P.info? ft).map (·.size) = some n
  pos : n ≠ 0
structure ArrT (P : Program) (t len e sz : Nat) : Prop where
  under : P.underlying t = some (.array len e)
  size : (P.info? e).map (·.size) = some sz

/-! ### cells -/
def cell (H : Heap) (b o : Nat) : Option Value := match H[b]? with
  | some (.cells c _ _) => c[o]?
  | _ => none
/-- The cells cs lie in block b from o on. -/
def Cells (H : Heap) (b o : Nat) (cs : List Value) : Prop := ∀ j v, cs[j]? = some v → cell H b (o + j) = some v
/-- Block b is a row of these cells, that may be written. -/
def Blk (H : Heap) (b : Nat) (e : TypeId) (l : List Value) : Prop := H[b]? = some (.cells l.toArray e (0, 0))

theorem cell_w (w : World) (b o : Nat) : w.cell? ⟨b, o, none⟩ = cell w.heap b o := by
  unfold World.cell? cell
  cases h : w.heap[b]? with
  | none => rfl
  | some x => cases x <;> rfl
theorem cell_eq {H H' : Heap} {b o : Nat} (h : H'[b]? = H[b]?) : cell H' b o = cell H b o := by unfold cell; rw [h]
theorem Cells.eq {H H' : Heap} {b o : Nat} {cs : List Value} (hc : Cells H b o cs) (h : H'[b]? = H[b]?) : Cells H' b o cs :=
  fun j v hv => by rw [cell_eq h]; exact hc j v hv
theorem Blk.cell {H : Heap} {b : Nat} {e : TypeId} {l : List Value} (h : Blk H b e l) (o : Nat) : VC.cell H b o = l[o]? := by
  unfold VC.cell; rw [h]; simp
theorem Blk.cells {H : Heap} {b : Nat} {e : TypeId} {l cs : List Value} (h : Blk H b e l) {o : Nat} (hc : ∀ j v, cs[j]? = some v → l[o + j]? = some v) : Cells H b o cs :=
  fun j v hv => by rw [h.cell]; exact hc j v hv
theorem Blk.lt {H : Heap} {b : Nat} {e : TypeId} {l : List Value} (h : Blk H b e l) : b < H.size := (Array.getElem?_eq_some_iff.1 h).1
theorem Blk.agr {S : Nat → Prop} {H H' : Heap} {b : Nat} {e : TypeId} {l : List Value} (h : Blk H b e l) (k : Agr S H H') (hb : S b) : Blk H' b e l := (k b hb).trans h
theorem agr_size {n : Nat} {H H' : Heap} (h : Agr (fun k => k < n) H H') (hn : n ≤ H.size) : n ≤ H'.size := by
  rcases Nat.eq_zero_or_pos n with h0 | h0
  · omega
  · have := h (n - 1) (by omega)
    rw [Array.getElem?_eq_getElem (show n - 1 < H.size by omega)] at this
    have := (Array.getElem?_eq_some_iff.1 this).1
    omega

theorem range_w {w : World} {H : Heap} {b o : Nat} {cs : List Value} (hc : Cells H b o cs) (h : w.heap[b]? = H[b]?) : w.rangeAt b o cs := fun j v hv => by
  rw [cell_w, cell_eq h]; exact hc j v hv

/-! ### reading -/
theorem ld1 {P : Program} {t : TypeId} {b o : Nat} {S : Nat → Prop} {H : Heap} {K : Value → Prop} {v : Value} (ht : CellT P t) (hc : cell H b o = some v) (hS : S b) (k : K v) :
    VDet P (Instr.loadAt t (.pointer (some ⟨b, o, none⟩))) S H K := by
  refine VDet.mk v (fun w hw => ?_) k
  obtain ⟨d, hu, hd⟩ := ht.under
  have h1 : w.cell? ⟨b, o, none⟩ = some v := by rw [cell_w, cell_eq (hw b hS)]; exact hc
  have hagg : (isAgg t).run P w = .ok false w := by
    unfold isAgg
    rw [Sem.run_bind, run_underlying hu w]
    cases d <;> simp_all
  simp [Instr.loadAt, Instr.sureAddr, loadVar, hagg, load, Sem.run, h1]
theorem ldN {P : Program} {t : TypeId} {b o : Nat} {S : Nat → Prop} {H : Heap} {K : Value → Prop} {cs : List Value} (ht : AggT P t cs.length) (hc : Cells H b o cs) (hS : S b) (k : K (.agg cs.toArray)) :
    VDet P (Instr.loadAt t (.pointer (some ⟨b, o, none⟩))) S H K := by
  refine VDet.mk _ (fun w hw => ?_) k
  obtain ⟨d, hu, hd⟩ := ht.under
  exact run_loadAt_mid w b o t cs d (range_w hc (hw b hS)) hu hd ht.size

theorem ix {P : Program} {t e : TypeId} {sz by_ : Nat} {z : Value} {b o n cap : Nat} {k : IntKind} {i : Int} {S : Nat → Prop} {H : Heap} {K : Value → Prop} (ht : SlT P t e sz by_ z) (h0 : 0 ≤ i) (h1 : i < n)
    (hk : K (.pointer (some ⟨b, o + i.toNat * sz, none⟩))) : VDet P (Instr.indexAt t (.slice (some ⟨b, o, none⟩) n cap) (.int k i)) S H K := by
  obtain ⟨inf, hi, hs, _, _⟩ := ht.info
  refine VDet.mk _ (fun w _ => ?_) hk
  have ha : (⟨b, o, none⟩ : Addr).add (i.toNat * sz) = ⟨b, o + i.toNat * sz, none⟩ := Addr.add_mid _ _ _
  simp [Instr.indexAt, asIntOf, run_underlying ht.under, h0, h1, sizeOf, typeInfo, hi, hs, ha]

/-! ### new memory -/
theorem heap_push_old (H : Heap) (o : Obj) : Agr (fun k => k < H.size) H (H.push o) := fun k hk => by
  rw [Array.getElem?_push, if_neg (by omega)]
theorem alloc_heap (w : World) (o : Obj) : (w.alloc o).heap = w.heap.push o := rfl

/-- New memory: the heap has one block more. -/
def New (H : Heap) (K : Nat → Heap → Prop) (e : TypeId) (l : List Value) : Prop :=
  ∀ b H', b = H.size → H'.size = b + 1 → Blk H' b e l → Agr (fun k => k < b) H H' → K b H'
theorem New.go {H : Heap} {K : Nat → Heap → Prop} {e : TypeId} {l : List Value} (h : New H K e l) : K H.size (H.push (.cells l.toArray e)) :=
  h H.size _ rfl (by simp) (by unfold Blk; simp) (heap_push_old H _)

theorem vbox {P : Program} {t : TypeId} {v : Value} {H : Heap} {K : Value → Heap → Prop} (l : List Value) (hv : v.cells = l.toArray)
    (h : New H (fun b H' => K (.pointer (some ⟨b, 0, none⟩)) H') t l) : VEff P (Instr.box t v) H K := by
  refine VEff.mk fun w hw => ?_
  subst hw
  exact ⟨_, w.alloc (.cells l.toArray t), by simp [Instr.box, newVar, hv, newRow], ⟨rfl, rfl, rfl⟩, h.go⟩
theorem valloc {P : Program} {t : TypeId} {H : Heap} {K : Value → Heap → Prop} (z : Value) (l : List Value) (hz : (P.info? t).bind (·.zero) = some z) (hv : z.cells = l.toArray)
    (h : New H (fun b H' => K (.pointer (some ⟨b, 0, none⟩)) H') t l) : VEff P (Instr.alloc t true (.tuple #[])) H K := by
  refine VEff.mk fun w hw => ?_
  subst hw
  refine ⟨_, w.alloc (.cells l.toArray t), ?_, ⟨rfl, rfl, rfl⟩, h.go⟩
  cases hi : P.info? t with
  | none => rw [hi] at hz; cases hz
  | some i =>
    have hz' : i.zero = some z := by simpa [hi] using hz
    simp [Instr.alloc, zeroValue, typeInfo, hi, hz', newVar, hv, newRow]

/-- The cells that a list of parts fills. -/
theorem vbuild {P : Program} {t e : TypeId} {sz by_ : Nat} {z : Value} {n : Nat} {vs : Array (Nat × Value)} {H : Heap} {K : Value → Heap → Prop} (ht : SlT P t e sz by_ z) (l : List Value) (hn : n * sz ≤ 16777216) (h0 : 0 < n * sz)
    (hf : Instr.fill (fun i => some (i * sz, sz)) ((Array.range (n * sz)).map (z.cells[· % z.cells.size]!)) vs.toList = some l.toArray)
    (h : New H (fun b H' => K (.slice (some ⟨b, 0, none⟩) n n) H') e l) : VEff P (Instr.buildSlice t n vs) H K := by
  refine VEff.mk fun w hw => ?_
  subst hw
  refine ⟨_, w.alloc (.cells l.toArray e), ?_, ⟨rfl, rfl, rfl⟩, h.go⟩
  obtain ⟨inf, hi, hs, _, hz⟩ := ht.info
  have h1 : ¬ (16777216 < n * sz) := by omega
  have h2 : ¬ (n * sz = 0) := by omega
  simp only [Instr.buildSlice, Sem.run_bind, run_underlying ht.under, Result.andThen_ok, sizeOf, typeInfo, zeroValue]
  simp [hi, hs, hz, h1, h2, hf, newRow]

theorem vmake {P : Program} {t e : TypeId} {sz by_ : Nat} {z : Value} {kl kc : IntKind} {l c : Int} {H : Heap} {K : Value → Heap → Prop} (ht : SlT P t e sz by_ z) (h0 : 0 ≤ l) (hlc : l ≤ c) (hb : (by_ : Int) * c ≤ 281474976710656)
    (h63 : c ≤ 9223372036854775807)
    (h : New H (fun b H' => K (.slice (some ⟨b, 0, none⟩) l.toNat c.toNat) H') e ((List.range (c.toNat * sz)).map (z.cells[· % z.cells.size]!))) : VEff P (Instr.makeSlice t (.int kl l) (.int kc c)) H K := by
  refine VEff.mk fun w hw => ?_
  subst hw
  obtain ⟨inf, hi, hs, hby, hz⟩ := ht.info
  have hr := run_make (P := P) w t e inf z ht.under hi hz kl kc l c h0 hlc (by rw [hby]; exact hb) h63
  have e1 : madeCells z.cells (c.toNat * inf.size) = ((List.range (c.toNat * sz)).map (z.cells[· % z.cells.size]!)).toArray := by
    rw [hs]; unfold madeCells; apply Array.ext'; simp
  rw [e1] at hr
  exact ⟨_, _, hr, ⟨rfl, rfl, rfl⟩, h.go⟩

/-! ### writing -/
theorem setCell_heap (w : World) (b o : Nat) (v : Value) : (w.setCell ⟨b, o, none⟩ v).heap = w.heap.modify b fun
      | .cells c elem frozen => .cells (c.setIfInBounds o v) elem frozen
      | x => x := by
  unfold World.setCell
  simp only [Option.isSome_none, Bool.false_eq_true, if_false]
  congr 1
theorem setCell_blk {w : World} {b o : Nat} {e : TypeId} {l : List Value} (hb : Blk w.heap b e l) (v : Value) :
    Blk (w.setCell ⟨b, o, none⟩ v).heap b e (l.set o v) ∧ Agr (fun k => k ≠ b) w.heap (w.setCell ⟨b, o, none⟩ v).heap ∧ (w.setCell ⟨b, o, none⟩ v).heap.size = w.heap.size := by
  rw [setCell_heap]
  refine ⟨?_, fun k hk => ?_, by simp⟩
  · unfold Blk at hb ⊢
    rw [Array.getElem?_modify, if_pos rfl, hb]
    simp
  · rw [Array.getElem?_modify, if_neg (fun h => hk h.symm)]

theorem frozen_blk {w : World} {b o : Nat} {e : TypeId} {l : List Value} (hb : Blk w.heap b e l) : w.frozen? ⟨b, o, none⟩ = false := by
  unfold World.frozen?
  simp only
  rw [hb]
  simp

/-- A block has turned. -/
def Turn (H : Heap) (K : Heap → Prop) (b : Nat) (e : TypeId) (l : List Value) : Prop :=
  ∀ H', Blk H' b e l → Agr (fun k => k ≠ b) H H' → H'.size = H.size → K H'

theorem st1 {P : Program} {t e : TypeId} {b o : Nat} {l : List Value} {v : Value} {H : Heap} {K : Heap → Prop} (ht : CellT P t) (hb : Blk H b e l) (ho : o < l.length) (hv : v.oneCell' = true)
    (h : Turn H K b e (l.set o v)) : VEffU P (Instr.storeAt t (.pointer (some ⟨b, o, none⟩)) v) H K := by
  refine VEffU.mk fun w hw => ?_
  subst hw
  have hc : w.cell? ⟨b, o, none⟩ = some l[o] := by rw [cell_w, hb.cell]; simp [ho]
  obtain ⟨h1, h2, h3⟩ := setCell_blk (o := o) hb v
  refine ⟨_, ?_, ?_, h _ h1 h2 h3⟩
  · have hcs : v.cells = #[v] := by cases v <;> simp_all [Value.cells, Value.oneCell']
    have hst := run_storeCells_cells (P := P) b o [v] 0 w (by simp [hc]) (by simp [frozen_blk hb]) (by simpa using hv)
    cases hq : P.info? t with
    | none => have := ht.size; simp [hq] at this
    | some i =>
      have hs : i.size = 1 := by have := ht.size; simpa [hq] using this
      simp only [Nat.add_zero] at hst
      simp [Instr.storeAt, Instr.sureAddr, storeVar, sizeOf, typeInfo, hq, hcs, hs, hst, World.setCells]
  · exact ⟨rfl, rfl, rfl⟩

/-- The row l with the cells cs from o on. -/
def splice (l : List Value) (o : Nat) (cs : List Value) : List Value := l.take o ++ cs ++ l.drop (o + cs.length)
theorem splice_length {l : List Value} {o : Nat} {cs : List Value} (h : o + cs.length ≤ l.length) : (splice l o cs).length = l.length := by
  unfold splice; simp; omega
theorem splice_get {l : List Value} {o : Nat} {cs : List Value} (h : o + cs.length ≤ l.length) (j : Nat) :
    (splice l o cs)[j]? = if o ≤ j ∧ j < o + cs.length then cs[j - o]? else l[j]? := by
  unfold splice
  rw [List.append_assoc]
  by_cases h1 : j < o
  · rw [if_neg (by omega), List.getElem?_append_left (by simp; omega), List.getElem?_take_of_lt h1]
  · rw [List.getElem?_append_right (by simp; omega)]
    simp only [List.length_take, Nat.min_eq_left (show o ≤ l.length by omega)]
    by_cases h2 : j < o + cs.length
    · rw [if_pos (by omega), List.getElem?_append_left (by omega)]
    · rw [if_neg (by omega), List.getElem?_append_right (by omega), List.getElem?_drop]
      congr 1; omega

theorem setCells_blk {b : Nat} {e : TypeId} : ∀ (cs : List Value) (o : Nat) (l : List Value) (w : World), Blk w.heap b e l → o + cs.length ≤ l.length →
    Blk (w.setCells b o cs).heap b e (splice l o cs) ∧ Agr (fun k => k ≠ b) w.heap (w.setCells b o cs).heap ∧ (w.setCells b o cs).heap.size = w.heap.size ∧ Env w (w.setCells b o cs)
  | [], o, l, w, hb, _ => ⟨by simpa [splice, World.setCells] using hb, Agr.refl _ _, rfl, Env.refl w⟩
  | v :: cs, o, l, w, hb, hl => by
    simp only [List.length_cons] at hl
    obtain ⟨h1, h2, h3⟩ := setCell_blk (o := o) hb v
    obtain ⟨k1, k2, k3, k4⟩ := setCells_blk cs (o + 1) (l.set o v) (w.setCell ⟨b, o, none⟩ v) h1 (by simp; omega)
    refine ⟨?_, h2.trans k2, k3.trans h3, ⟨k4.os, k4.tape, k4.output⟩⟩
    have e1 : splice (l.set o v) (o + 1) cs = splice l o (v :: cs) := by
      apply List.ext_getElem?
      intro j
      rw [splice_get (by simp; omega), splice_get (by simp; omega)]
      simp only [List.length_cons]
      by_cases h : j = o
      · subst h; rw [if_neg (by omega), if_pos (by omega)]; simp [show j < l.length by omega]
      · by_cases h' : o + 1 ≤ j ∧ j < o + 1 + cs.length
        · rw [if_pos h', if_pos (by omega)]
          rw [show j - o = (j - (o + 1)) + 1 by omega, List.getElem?_cons_succ]
        · rw [if_neg h', if_neg (by omega), List.getElem?_set, if_neg (fun h2 => h h2.symm)]
    rw [← e1]
    exact k1

theorem stN {P : Program} {t e : TypeId} {b o : Nat} {l cs : List Value} {H : Heap} {K : Heap → Prop} (ht : (P.info? t).map (·.size) = some cs.length) (hb : Blk H b e l) (ho : o + cs.length ≤ l.length) (hv : cs.all (·.oneCell') = true)
    (h : Turn H K b e (splice l o cs)) : VEffU P (Instr.storeAt t (.pointer (some ⟨b, o, none⟩)) (.agg cs.toArray)) H K := by
  refine VEffU.mk fun w hw => ?_
  subst hw
  have hthere : w.there b o cs.toArray.size := fun j hj => by
    simp only [List.size_toArray] at hj
    refine ⟨?_, frozen_blk hb⟩
    rw [cell_w, hb.cell]; simp; omega
  obtain ⟨h1, h2, h3, h4⟩ := setCells_blk cs o l w hb ho
  refine ⟨_, run_storeAt_mid (P := P) w b o t cs.toArray hthere (by simpa using ht) (by simpa using hv), by simpa using h4, ?_⟩
  simpa using h _ h1 h2 h3

/-! ### a slice that the call itself made -/
/-- v is a slice over a block of the call's own, from lo on, that begins with the cells cs (n elements); or nil. -/
def Sl (H : Heap) (lo : Nat) (e : TypeId) (sz : Nat) (v : Value) (n : Nat) (cs : List Value) : Prop :=
  cs.length = n * sz ∧ ((v = .slice none 0 0 ∧ n = 0) ∨
    ∃ b cap l, v = .slice (some ⟨b, 0, none⟩) n cap ∧ lo ≤ b ∧ Blk H b e l ∧ n ≤ cap ∧ cap ≤ maxLen ∧ l.length = cap * sz ∧ l.take (n * sz) = cs)
def slB (v : Value) (k : Nat) : Prop := ∃ o n c, v = .slice (some ⟨k, o, none⟩) n c

theorem Sl.nil (H : Heap) (lo : Nat) (e : TypeId) (sz : Nat) : Sl H lo e sz (.slice none 0 0) 0 [] := ⟨by simp, .inl ⟨rfl, rfl⟩⟩
theorem Sl.made {H : Heap} {lo : Nat} {e : TypeId} {sz b n cap : Nat} {l : List Value} (hlo : lo ≤ b) (hb : Blk H b e l) (hn : n ≤ cap) (hc : cap ≤ maxLen) (hl : l.length = cap * sz) :
    Sl H lo e sz (.slice (some ⟨b, 0, none⟩) n cap) n (l.take (n * sz)) :=
  ⟨by rw [List.length_take, hl, Nat.min_eq_left (Nat.mul_le_mul_right _ hn)], .inr ⟨b, cap, l, rfl, hlo, hb, hn, hc, hl, rfl⟩⟩
theorem Sl.agr {S : Nat → Prop} {H H' : Heap} {lo : Nat} {e : TypeId} {sz n : Nat} {v : Value} {cs : List Value} (h : Sl H lo e sz v n cs) (k : Agr S H H') (hS : ∀ b, slB v b → S b) : Sl H' lo e sz v n cs := by
  obtain ⟨h1, h2⟩ := h
  refine ⟨h1, ?_⟩
  rcases h2 with h2 | ⟨b, cap, l, rfl, hlo, hb, r⟩
  · exact .inl h2
  · exact .inr ⟨b, cap, l, rfl, hlo, hb.agr k (hS b ⟨_, _, _, rfl⟩), r⟩
theorem Sl.lt {H : Heap} {lo : Nat} {e : TypeId} {sz n : Nat} {v : Value} {cs : List Value} (h : Sl H lo e sz v n cs) {b : Nat} (hb : slB v b) : lo ≤ b ∧ b < H.size := by
  obtain ⟨o, n', c, rfl⟩ := hb
  rcases h.2 with ⟨h2, _⟩ | ⟨b', cap, l, h2, hlo, hb, r⟩
  · cases h2
  · cases h2; exact ⟨hlo, hb.lt⟩

/-- append onto a slice of the call's own (or nil), from wherever. -/
theorem vappend {P : Program} {t tx ty e : TypeId} {sz by_ : Nat} {z : Value} {H : Heap} {K : Value → Heap → Prop} (ht : SlT P t e sz by_ z) {lo n m : Nat} {v x : Value} {cs news : List Value}
    (hs : Sl H lo e sz v n cs) (hlo : lo ≤ H.size) (hx : ∀ w : World, w.heap = H → Src P sz tx x m news w) (h63 : n + m ≤ maxLen) (hby : (n + m) * by_ ≤ 140737488355328)
    (h : ∀ v' H', Sl H' lo e sz v' (n + m) (cs ++ news) → Agr (fun k => k < H.size ∧ ¬ slB v k) H H' → H.size ≤ H'.size → (∀ k, slB v' k → slB v k ∨ H.size ≤ k) → K v' H') :
    VEff P (Builtin.append_ #[t, tx] ty [v, x].toArray) H K := by
  refine VEff.mk fun w hw => ?_
  subst hw
  obtain ⟨inf, hi, hsi, hbi, hz⟩ := ht.info
  have hsrc := hx w rfl
  have hsrc' : Src P inf.size tx x m news w := by rw [hsi]; exact hsrc
  have hnl : news.length = m * sz := hsrc.newsLen
  have h63' : n + m ≤ 9223372036854775807 := by simp only [maxLen] at h63; omega
  obtain ⟨hcl, hs2⟩ := hs
  have hlen : (cs ++ news).length = (n + m) * sz := by rw [List.length_append, hcl, hnl, Nat.add_mul]
  have grow : ∀ (base : Option Addr) (cap : Nat), v = .slice base n cap → cap < n + m → (Builtin.firstCells inf.size n (.slice base n cap)).run P w.drew = .ok cs.toArray w.drew →
      ∃ v' w', (Builtin.append_ #[t, tx] ty [v, x].toArray).run P w = .ok v' w' ∧ Env w w' ∧ K v' w'.heap := by
    intro base cap hv hcap hold
    subst hv
    have hr := run_append_grow_src (P := P) w t tx ty e inf z ht.under hi hz base n cap cs hold x m news hsrc' hcap (by omega) (growslice_fits (by omega) (by rw [hbi]; exact hby))
    refine ⟨_, _, hr, ⟨rfl, rfl, rfl⟩, ?_⟩
    have hge := grownCap_ge w (n + m) cap e
    have hle := grownCap_le_maxLen w (n + m) cap e h63
    have hblk : Blk (w.drew.alloc (.cells ((cs ++ news).toArray ++ Builtin.zeroCells z.cells (grownCap w (n + m) cap e - (n + m))) e)).heap w.heap.size e
        ((cs ++ news) ++ (Builtin.zeroCells z.cells (grownCap w (n + m) cap e - (n + m))).toList) := by
      unfold Blk
      have : (w.drew.alloc (.cells ((cs ++ news).toArray ++ Builtin.zeroCells z.cells (grownCap w (n + m) cap e - (n + m))) e)).heap = w.heap.push (.cells ((cs ++ news).toArray ++ Builtin.zeroCells z.cells (grownCap w (n + m) cap e - (n + m))) e) := rfl
      rw [this]
      simp
    refine h _ _ ⟨hlen, .inr ⟨w.heap.size, _, _, rfl, hlo, hblk, hge, hle, ?_, ?_⟩⟩ ?_ ?_ ?_
    · rw [List.length_append, hlen, Array.length_toList, size_zeroCells, ht.zsz, ← Nat.add_mul]
      congr 1; omega
    · rw [← hlen, List.take_left']; rfl
    · intro k hk
      exact heap_push_old w.heap _ k hk.1
    · show w.heap.size ≤ (w.heap.push _).size
      simp
    · rintro k ⟨o, n', c, hk⟩
      cases hk
      exact .inr (Nat.le_refl _)
  rcases hs2 with ⟨rfl, rfl⟩ | ⟨b, cap, l, rfl, hlob, hb, hnc, hcm, hll, htake⟩
  · have hcs : cs = [] := List.eq_nil_of_length_eq_zero (by simpa using hcl)
    subst hcs
    by_cases hm : m = 0
    · subst hm
      have hn : news = [] := List.eq_nil_of_length_eq_zero (by simpa using hnl)
      subst hn
      refine ⟨.slice none 0 0, w, ?_, Env.refl w, h _ _ (Sl.nil _ _ _ _) (Agr.refl _ _) (Nat.le_refl _) (fun k hk => .inl hk)⟩
      rcases hsrc'.kind with ⟨e', hk⟩ | hk <;> simp [Builtin.append_, run_underlying ht.under, run_underlying hk, sizeOf, typeInfo, hi, hsrc'.len, hsrc'.cells]
    · exact grow none 0 rfl (by omega) (by simp [Builtin.firstCells])
  · by_cases hroom : n + m ≤ cap
    · have hfit : n * sz + news.length ≤ l.length := by rw [hnl, hll, ← Nat.add_mul]; exact Nat.mul_le_mul_right _ hroom
      have hr := run_append_room_src (P := P) w t tx ty e inf ht.under hi b 0 n cap x m news hsrc' hroom
        (fun j hj => by rw [cell_w, hb.cell]; simp [hsi]; omega) (fun j hj => frozen_blk hb)
      obtain ⟨h1, h2, h3, h4⟩ := setCells_blk news (0 + n * inf.size) l w hb (by rw [hsi]; omega)
      refine ⟨_, _, hr, h4, h _ _ ⟨hlen, .inr ⟨b, cap, _, rfl, hlob, h1, hroom, hcm, ?_, ?_⟩⟩ (h2.mono fun k hk => ?_) (by omega) ?_⟩
      · rw [splice_length (by rw [hsi]; omega)]; exact hll
      · rw [hsi, Nat.zero_add]
        unfold splice
        rw [htake, ← hlen, List.take_left']; rfl
      · intro hkb; subst hkb; exact hk.2 ⟨0, n, cap, rfl⟩
      · rintro k ⟨o, n', c, hk⟩
        cases hk
        exact .inl ⟨0, n, cap, rfl⟩
    · refine grow (some ⟨b, 0, none⟩) cap rfl (by omega) ?_
      have hc : Cells w.heap b 0 cs := hb.cells fun j v hv => by
        rw [← htake, List.getElem?_take] at hv
        split at hv
        · simpa using hv
        · cases hv
      have := run_firstCells_some (P := P) w.drew inf.size n ⟨b, 0, none⟩ n cap cs (by rw [hsi]; exact hcl) (fun j v hv => by
        rw [Addr.add_mid]
        have := range_w (w := w.drew) (H := w.heap) hc rfl j v hv
        exact this)
      exact this

end Go.VC
/- How Go's data lie in memory, as1 typed facts: integers, bools, strings, slices, structs; and what the operations give on them. -/
set_option linter.unusedVariables false
set_option linter.unusedSimpArgs false
namespace Go.VC

/-- A type of data: how many cells one takes, and when cells hold a datum (reading only the blocks of S). -/
structure Ty (α : Type) where
  size : Nat
  rep : (Nat → Prop) → Heap → List Value → α → Prop
  len : ∀ {S H cs x}, rep S H cs x → cs.length = size
  frame : ∀ {S H H' cs x}, rep S H cs x → Agr S H H' → rep S H' cs x
  mono : ∀ {S S' H cs x}, rep S H cs x → (∀ k, S k → S' k) → rep S' H cs x

def Ty.reps {α : Type} (T : Ty α) (S : Nat → Prop) (H : Heap) : List Value → List α → Prop
  | cs, [] => cs = []
  | cs, x :: xs => ∃ c r, cs = c ++ r ∧ T.rep S H c x ∧ T.reps S H r xs

section
variable {α β : Type} {T : Ty α} {S S' : Nat → Prop} {H H' : Heap}
theorem Ty.reps_len : ∀ {xs : List α} {cs : List Value}, T.reps S H cs xs → cs.length = xs.length * T.size
  | [], _, h => by cases h; simp
  | x :: xs, _, ⟨c, r, rfl, h1, h2⟩ => by
    rw [List.length_append, T.len h1, Ty.reps_len h2, List.length_cons, Nat.succ_mul]; omega
theorem Ty.reps_frame (k : Agr S H H') : ∀ {xs : List α} {cs : List Value}, T.reps S H cs xs → T.reps S H' cs xs
  | [], _, h => h
  | x :: xs, _, ⟨c, r, e, h1, h2⟩ => ⟨c, r, e, T.frame h1 k, Ty.reps_frame k h2⟩
theorem Ty.reps_mono (k : ∀ i, S i → S' i) : ∀ {xs : List α} {cs : List Value}, T.reps S H cs xs → T.reps S' H cs xs
  | [], _, h => h
  | x :: xs, _, ⟨c, r, e, h1, h2⟩ => ⟨c, r, e, T.mono h1 k, Ty.reps_mono k h2⟩
theorem Ty.reps_append : ∀ {xs ys : List α} {cs ds : List Value}, T.reps S H cs xs → T.reps S H ds ys → T.reps S H (cs ++ ds) (xs ++ ys)
  | [], _, _, _, h, h' => by cases h; simpa using h'
  | x :: xs, _, _, _, ⟨c, r, e, h1, h2⟩, h' => ⟨c, r ++ _, by rw [e, List.append_assoc], h1, Ty.reps_append h2 h'⟩
theorem Ty.reps_one {c : List Value} {x : α} (h : T.rep S H c x) : T.reps S H c [x] := ⟨c, [], by simp, h, rfl⟩
/-- The i-th datum's cells. -/
theorem Ty.reps_get : ∀ {xs : List α} {cs : List Value} {i : Nat} {x : α}, T.reps S H cs xs → xs[i]? = some x → ∃ l c r, cs = l ++ c ++ r ∧ l.length = i * T.size ∧ T.rep S H c x
  | x :: xs, _, 0, y, ⟨c, r, e, h1, h2⟩, hx => by
    simp at hx; subst hx
    exact ⟨[], c, r, by simp [e], by simp, h1⟩
  | x :: xs, _, i + 1, y, ⟨c, r, e, h1, h2⟩, hx => by
    simp at hx
    obtain ⟨l, c', r', e', hl, hc⟩ := Ty.reps_get h2 hx
    exact ⟨c ++ l, c', r', by simp [e, e', List.append_assoc], by rw [List.length_append, T.len h1, hl, Nat.succ_mul]; omega, hc⟩
theorem Cells.mid {b o : Nat} {l c r : List Value} (h : Cells H b o (l ++ c ++ r)) : Cells H b (o + l.length) c := fun j v hv => by
  have := h (l.length + j) v (by
    rw [List.append_assoc, List.getElem?_append_right (by omega), List.getElem?_append_left (by
      have := (List.getElem?_eq_some_iff.1 hv).1; omega)]
    rw [show l.length + j - l.length = j by omega]; exact hv)
  rw [← Nat.add_assoc] at this
  exact this
theorem Cells.one {b o : Nat} {v : Value} (h : Cells H b o [v]) : cell H b o = some v := by have := h 0 v rfl; simpa using this
end

/-! ### plain data -/
def inK (k : IntKind) (x : Int) : Prop := k.min ≤ x ∧ x ≤ k.max
def tInt (k : IntKind) : Ty Int where
  size := 1
  rep _ _ cs x := cs = [.int k x] ∧ inK k x
  len h := by rw [h.1]; rfl
  frame h _ := h
  mono h _ := h
def tBool : Ty Bool where
  size := 1
  rep _ _ cs x := cs = [.bool x]
  len h := by rw [h]; rfl
  frame h _ := h
  mono h _ := h
/-! ### slices -/
/-- What a slice's address and capacity say of its elements. -/
def SlD {α : Type} (T : Ty α) (S : Nat → Prop) (H : Heap) (a : Option Addr) (cap : Nat) (xs : List α) : Prop :=
  match a with
  | none => xs = [] ∧ cap = 0
  | some ad => xs.length ≤ cap ∧ cap ≤ maxLen ∧ (cap = 0 ∨ ad.spot = none ∧ S ad.block ∧ ∃ ec, Cells H ad.block ad.off ec ∧ T.reps S H ec xs)
theorem SlD.intro {α : Type} {T : Ty α} {S : Nat → Prop} {H : Heap} {b o cap : Nat} {xs : List α} {ec : List Value} (h2 : S b) (h3 : xs.length ≤ cap) (h4 : cap ≤ maxLen) (h5 : Cells H b o ec) (h6 : T.reps S H ec xs) : SlD T S H (some ⟨b, o, none⟩) cap xs :=
  ⟨h3, h4, .inr ⟨rfl, h2, ec, h5, h6⟩⟩
theorem SlD.frame {α : Type} {T : Ty α} {S : Nat → Prop} {H H' : Heap} {a : Option Addr} {cap : Nat} {xs : List α} (h : SlD T S H a cap xs) (k : Agr S H H') : SlD T S H' a cap xs := by
  cases a with
  | none => exact h
  | some ad =>
    obtain ⟨h3, h4, h0 | ⟨h1, h2, ec, h5, h6⟩⟩ := h
    · exact ⟨h3, h4, .inl h0⟩
    · exact ⟨h3, h4, .inr ⟨h1, h2, ec, h5.eq (k _ h2), Ty.reps_frame k h6⟩⟩
theorem SlD.mono {α : Type} {T : Ty α} {S S' : Nat → Prop} {H : Heap} {a : Option Addr} {cap : Nat} {xs : List α} (h : SlD T S H a cap xs) (k : ∀ i, S i → S' i) : SlD T S' H a cap xs := by
  cases a with
  | none => exact h
  | some ad =>
    obtain ⟨h3, h4, h0 | ⟨h1, h2, ec, h5, h6⟩⟩ := h
    · exact ⟨h3, h4, .inl h0⟩
    · exact ⟨h3, h4, .inr ⟨h1, k _ h2, ec, h5, Ty.reps_mono k h6⟩⟩
theorem SlD.le {α : Type} {T : Ty α} {S : Nat → Prop} {H : Heap} {a : Option Addr} {cap : Nat} {xs : List α} (h : SlD T S H a cap xs) : xs.length ≤ cap ∧ cap ≤ maxLen := by
  cases a with
  | none => obtain ⟨rfl, rfl⟩ := h; simp
  | some ad => exact ⟨h.1, h.2.1⟩
/-- The i-th element of a slice lies somewhere. -/
theorem SlD.get {α : Type} {T : Ty α} {S : Nat → Prop} {H : Heap} {a : Option Addr} {cap i : Nat} {xs : List α} {x : α} (h : SlD T S H a cap xs) (hx : xs[i]? = some x) :
    ∃ b o c, a = some ⟨b, o, none⟩ ∧ S b ∧ Cells H b (o + i * T.size) c ∧ T.rep S H c x := by
  cases a with
  | none => obtain ⟨rfl, _⟩ := h; simp at hx
  | some ad =>
    obtain ⟨b, o, sp⟩ := ad
    obtain ⟨h3, h4, h0 | ⟨rfl, h2, ec, h5, h6⟩⟩ := h
    · have := (List.getElem?_eq_some_iff.1 hx).1
      omega
    obtain ⟨l, c, r, rfl, hl, hc⟩ := Ty.reps_get h6 hx
    exact ⟨b, o, c, rfl, h2, by rw [← hl]; exact h5.mid, hc⟩
/-- Its address. -/
theorem ixr {α : Type} {T : Ty α} {P : Program} {t e by_ : Nat} {z : Value} {cap i : Nat} {k : IntKind} {j : Int} {S S0 : Nat → Prop} {H : Heap} {K : Value → Prop} {a : Option Addr} {xs : List α} {x : α}
    (ht : SlT P t e T.size by_ z) (h : SlD T S H a cap xs) (hx : xs[i]? = some x) (hj : j = (i : Int))
    (hk : ∀ b o c, S b → Cells H b o c → T.rep S H c x → K (.pointer (some ⟨b, o, none⟩))) : VDet P (Instr.indexAt t (.slice a xs.length cap) (.int k j)) S0 H K := by
  obtain ⟨b, o, c, rfl, h1, h2, h3⟩ := h.get hx
  subst hj
  have hi := (List.getElem?_eq_some_iff.1 hx).1
  exact ix ht (by omega) (by omega) (by simpa using hk b _ c h1 h2 h3)

end Go.VC
/- More operations: fields, arrays, strings, bits. -/
set_option linter.unusedVariables false
set_option linter.unusedSimpArgs false
namespace Go.VC

theorem fa {P : Program} {s f off ft n b o : Nat} {S : Nat → Prop} {H : Heap} {K : Value → Prop} (ht : FieldT P s f off ft n) (k : K (.pointer (some ⟨b, o + off, none⟩))) :
    VDet P (Instr.fieldAt s (.pointer (some ⟨b, o, none⟩)) f) S H K := by
  obtain ⟨fs, fd, h1, h2, rfl, rfl⟩ := ht.under
  refine VDet.mk _ (fun w _ => ?_) k
  cases hi : P.info? fd.type with
  | none => have := ht.size; simp [hi] at this
  | some i =>
    have hs : i.size = n := by have := ht.size; simpa [hi] using this
    have hp := ht.pos
    have ha : (⟨b, o, none⟩ : Addr).add fd.offset = ⟨b, o + fd.offset, none⟩ := Addr.add_mid _ _ _
    simp [Instr.fieldAt, run_underlying h1, h2, Instr.sureAddr, fieldPlace, sizeOf, typeInfo, hi, hs, hp, ha]

theorem ixa {P : Program} {t len e sz b o : Nat} {k : IntKind} {i : Int} {S : Nat → Prop} {H : Heap} {K : Value → Prop} (ht : ArrT P t len e sz) (h0 : 0 ≤ i) (h1 : i < len)
    (hk : K (.pointer (some ⟨b, o + i.toNat * sz, none⟩))) : VDet P (Instr.indexAt t (.pointer (some ⟨b, o, none⟩)) (.int k i)) S H K := by
  refine VDet.mk _ (fun w _ => ?_) hk
  cases hi : P.info? e with
  | none => have := ht.size; simp [hi] at this
  | some inf =>
    have hs : inf.size = sz := by have := ht.size; simpa [hi] using this
    have ha : (⟨b, o, none⟩ : Addr).add (i.toNat * sz) = ⟨b, o + i.toNat * sz, none⟩ := Addr.add_mid _ _ _
    simp [Instr.indexAt, asIntOf, run_underlying ht.under, Instr.sureAddr, h0, h1, sizeOf, typeInfo, hi, hs, ha]

theorem run_partN {P : Program} {t off n : Nat} {cs : Array Value} (ht : AggT P t n) (w : World) : (part t cs off).run P w = .ok (.agg (cs.extract off (off + n))) w := by
  obtain ⟨d, hu, hd⟩ := ht.under
  have hagg : (isAgg t).run P w = .ok true w := by
    unfold isAgg
    rw [Sem.run_bind, run_underlying hu w]
    cases d <;> simp_all
  cases hi : P.info? t with
  | none => have := ht.size; simp [hi] at this
  | some i =>
    have hs : i.size = n := by have := ht.size; simpa [hi] using this
    simp [part, hagg, sizeOf, typeInfo, hi, hs]

theorem vbuildA {P : Program} {t len e sz : Nat} {vs : Array (Nat × Value)} {S : Nat → Prop} {H : Heap} {K : Value → Prop} (ht : ArrT P t len e sz) (z : Value) (hz : (P.info? t).bind (·.zero) = some z) (l : List Value)
    (hf : Instr.fill (fun i => some (i * sz, sz)) z.cells vs.toList = some l.toArray) (k : K (.agg l.toArray)) : VDet P (Instr.build t vs) S H K := by
  refine VDet.mk _ (fun w _ => ?_) k
  cases hi : P.info? e with
  | none => have := ht.size; simp [hi] at this
  | some inf =>
    have hs : inf.size = sz := by have := ht.size; simpa [hi] using this
    cases ht' : P.info? t with
    | none => rw [ht'] at hz; cases hz
    | some it =>
      have hz' : it.zero = some z := by simpa [ht'] using hz
      simp [Instr.build, zeroValue, typeInfo, ht', hz', run_underlying ht.under, sizeOf, hi, hs, hf]
theorem vbuildS {P : Program} {t : Nat} {fs : Array Field} {vs : Array (Nat × Value)} {S : Nat → Prop} {H : Heap} {K : Value → Prop} (ht : P.underlying t = some (.struct fs)) (hfs : fs.toList.all (fun f => (P.info? f.type).isSome) = true)
    (z : Value) (hz : (P.info? t).bind (·.zero) = some z) (l : List Value)
    (hf : Instr.fill (fun i => (fs.toList.map fun f => (f.offset, P.cellsOf f.type))[i]?) z.cells vs.toList = some l.toArray) (k : K (.agg l.toArray)) : VDet P (Instr.build t vs) S H K := by
  refine VDet.mk _ (fun w _ => ?_) k
  cases ht' : P.info? t with
  | none => rw [ht'] at hz; cases hz
  | some it =>
    have hz' : it.zero = some z := by simpa [ht'] using hz
    have hm : ∀ (l : List Field), l.all (fun f => (P.info? f.type).isSome) = true → (l.mapM fun f => (do pure (f.offset, ← sizeOf f.type) : Sem (Nat × Nat))).run P w = .ok (l.map fun f => (f.offset, P.cellsOf f.type)) w := by
      intro l
      induction l with
      | nil => intro _; simp
      | cons f l ih =>
        intro h
        simp only [List.all_cons, Bool.and_eq_true] at h
        obtain ⟨inf, hi⟩ := Option.isSome_iff_exists.1 h.1
        have hsz : (sizeOf f.type).run P w = .ok (P.cellsOf f.type) w := by simp [sizeOf, typeInfo, hi, Program.cellsOf]
        simp only [List.mapM_cons, Sem.run_bind, hsz, Result.andThen_ok, Sem.run_pure, ih h.2, List.map_cons]
    have hm' : (fs.mapM fun f => (do pure (f.offset, ← sizeOf f.type) : Sem (Nat × Nat))).run P w = .ok (fs.toList.map fun f => (f.offset, P.cellsOf f.type)).toArray w := by
      rw [Array.mapM_eq_mapM_toList]
      rw [show (List.toArray <$> fs.toList.mapM fun f => (do pure (f.offset, ← sizeOf f.type) : Sem (Nat × Nat))) = (do let l ← fs.toList.mapM fun f => (do pure (f.offset, ← sizeOf f.type) : Sem (Nat × Nat)); pure l.toArray) from rfl]
      rw [Sem.run_bind, hm _ hfs]
      simp
    have hzv : (zeroValue t).run P w = .ok z w := by simp [zeroValue, typeInfo, ht', hz']
    simp only [Instr.build, Sem.run_bind, hzv, Result.andThen_ok, run_underlying ht]
    rw [hm']
    simp only [Result.andThen_ok, List.getElem?_toArray, hf, Sem.run_pure]

theorem vmake1 {P : Program} {t e : TypeId} {by_ : Nat} {z : Value} {kl kc : IntKind} {l c : Int} {H : Heap} {K : Value → Heap → Prop} (ht : SlT P t e 1 by_ z) (hz : z.oneCell' = true) (h0 : 0 ≤ l) (hlc : l ≤ c) (hb : (by_ : Int) * c ≤ 281474976710656)
    (h63 : c ≤ 9223372036854775807)
    (h : New H (fun b H' => K (.slice (some ⟨b, 0, none⟩) l.toNat c.toNat) H') e (List.replicate c.toNat z)) : VEff P (Instr.makeSlice t (.int kl l) (.int kc c)) H K := by
  refine vmake ht h0 hlc hb h63 ?_
  have hcs : z.cells = #[z] := by cases z <;> simp_all [Value.cells, Value.oneCell']
  have e1 : ((List.range (c.toNat * 1)).map (z.cells[· % z.cells.size]!)) = List.replicate c.toNat z := by
    rw [hcs, Nat.mul_one]
    apply List.ext_getElem?
    intro i
    simp only [List.getElem?_map, List.getElem?_replicate]
    by_cases hi : i < c.toNat
    · rw [List.getElem?_range hi, if_pos hi]; simp [Nat.mod_one]
    · rw [List.getElem?_eq_none (by simpa using hi), if_neg hi]; rfl
  rw [e1]
  exact h

/-! ### bits -/
theorem wrap_in {k : IntKind} {x : Int} (h : inK k x) : k.wrap x = x := by
  obtain ⟨h1, h2⟩ := h
  unfold IntKind.wrap
  cases k <;> simp only [IntKind.min, IntKind.max, IntKind.signed, IntKind.bits, if_true, Bool.false_eq_true, if_false, Nat.reduceSub, Nat.reducePow, Int.reducePow] at h1 h2 ⊢ <;> simp only [Bool.true_and, Bool.false_and, decide_eq_true_eq, Bool.false_eq_true, if_false, ge_iff_le] <;> (try split) <;> omega
theorem w64 {x : Int} (h0 : -9223372036854775808 ≤ x) (h1 : x ≤ 9223372036854775807) : IntKind.wrap .i64 x = x := wrap_in ⟨h0, h1⟩
theorem w8 {x : Int} (h0 : 0 ≤ x) (h1 : x ≤ 255) : IntKind.wrap .u8 x = x := wrap_in ⟨h0, h1⟩
theorem inK_bits {k : IntKind} {x : Nat} (h : inK k (x : Int)) : x < 2 ^ k.bits := by
  obtain ⟨_, h2⟩ := h
  cases k <;> simp only [IntKind.max, IntKind.signed, IntKind.bits, if_true, Bool.false_eq_true, if_false, Nat.reduceSub, Nat.reducePow, Int.reducePow] at h2 ⊢ <;> omega
theorem inK_le {k : IntKind} {x y : Nat} (h : inK k (x : Int)) (hy : y ≤ x) : inK k (y : Int) := by
  obtain ⟨_, h2⟩ := h
  refine ⟨?_, by omega⟩
  cases k <;> simp only [IntKind.min, IntKind.signed, IntKind.bits, if_true, Bool.false_eq_true, if_false, Nat.reduceSub, Int.reducePow] <;> omega

theorem inU64 {x : Nat} (h : x < 18446744073709551616) : inK .u64 (x : Int) := ⟨by simp [IntKind.min, IntKind.signed], by simp [IntKind.max, IntKind.signed, IntKind.bits]; omega⟩
theorem inI64 {x : Nat} (h : x < 9223372036854775808) : inK .i64 (x : Int) := by
  refine ⟨?_, by simp [IntKind.max, IntKind.signed, IntKind.bits]; omega⟩
  have : IntKind.i64.min = -9223372036854775808 := by decide
  omega
theorem inU8 {x : Nat} (h : x < 256) : inK .u8 (x : Int) := ⟨by simp [IntKind.min, IntKind.signed], by simp [IntKind.max, IntKind.signed, IntKind.bits]; omega⟩
theorem vand {P : Program} {t : TypeId} {x y : Operand} {k : IntKind} {a b : Nat} {S : Nat → Prop} {H : Heap} {K : Value → Prop} (ha : inK k (a : Int)) (hb : inK k (b : Int)) (hk : K (.int k ((a &&& b : Nat) : Int))) :
    VDet P (do eqGuard .and t x y (.int k a) (.int k b); binOp .and t (.int k a) (.int k b)) S H K := by
  refine VDet.mk _ (fun w _ => ?_) hk
  have e1 : (BitVec.ofInt k.bits (a : Int) &&& BitVec.ofInt k.bits (b : Int)).toNat = a &&& b := by
    simp only [BitVec.ofInt_natCast, BitVec.toNat_and, BitVec.toNat_ofNat, Nat.mod_eq_of_lt (inK_bits ha), Nat.mod_eq_of_lt (inK_bits hb)]
  simp [run_eqGuard_int, binOp, Op.intBits, Nat.mod_eq_of_lt (inK_bits ha), Nat.mod_eq_of_lt (inK_bits hb), wrap_in (inK_le ha (Nat.and_le_left))]
theorem or_inK {k : IntKind} {a b : Nat} (ha : inK k (a : Int)) (hb : inK k (b : Int)) : inK k ((a ||| b : Nat) : Int) := by
  obtain ⟨h1, h2⟩ := ha
  obtain ⟨h3, h4⟩ := hb
  refine ⟨?_, ?_⟩
  · cases k <;> simp only [IntKind.min, IntKind.signed, IntKind.bits, if_true, Bool.false_eq_true, if_false, Nat.reduceSub, Int.reducePow] <;> omega
  · cases k <;> simp only [IntKind.max, IntKind.signed, IntKind.bits, if_true, Bool.false_eq_true, if_false, Nat.reduceSub, Int.reducePow] at h2 h4 ⊢
    · have := Nat.or_lt_two_pow (n := 7) (x := a) (y := b) (by omega) (by omega); omega
    · have := Nat.or_lt_two_pow (n := 15) (x := a) (y := b) (by omega) (by omega); omega
    · have := Nat.or_lt_two_pow (n := 31) (x := a) (y := b) (by omega) (by omega); omega
    · have := Nat.or_lt_two_pow (n := 63) (x := a) (y := b) (by omega) (by omega); omega
    · have := Nat.or_lt_two_pow (n := 8) (x := a) (y := b) (by omega) (by omega); omega
    · have := Nat.or_lt_two_pow (n := 16) (x := a) (y := b) (by omega) (by omega); omega
    · have := Nat.or_lt_two_pow (n := 32) (x := a) (y := b) (by omega) (by omega); omega
    · have := Nat.or_lt_two_pow (n := 64) (x := a) (y := b) (by omega) (by omega); omega
theorem vor {P : Program} {t : TypeId} {x y : Operand} {k : IntKind} {a b : Nat} {S : Nat → Prop} {H : Heap} {K : Value → Prop} (ha : inK k (a : Int)) (hb : inK k (b : Int)) (hk : K (.int k ((a ||| b : Nat) : Int))) :
    VDet P (do eqGuard .or t x y (.int k a) (.int k b); binOp .or t (.int k a) (.int k b)) S H K := by
  refine VDet.mk _ (fun w _ => ?_) hk
  have e1 : (BitVec.ofInt k.bits (a : Int) ||| BitVec.ofInt k.bits (b : Int)).toNat = a ||| b := by
    simp only [BitVec.ofInt_natCast, BitVec.toNat_or, BitVec.toNat_ofNat, Nat.mod_eq_of_lt (inK_bits ha), Nat.mod_eq_of_lt (inK_bits hb)]
  simp [run_eqGuard_int, binOp, Op.intBits, Nat.mod_eq_of_lt (inK_bits ha), Nat.mod_eq_of_lt (inK_bits hb), wrap_in (or_inK ha hb)]
theorem vshr {P : Program} {t : TypeId} {x y : Operand} {k k' : IntKind} {a b : Nat} {S : Nat → Prop} {H : Heap} {K : Value → Prop} (hb : b ≤ k.bits) (hk : K (.int k ((a / 2 ^ b : Nat) : Int))) :
    VDet P (do eqGuard .shr t x y (.int k a) (.int k' b); binOp .shr t (.int k a) (.int k' b)) S H K := by
  refine VDet.mk _ (fun w _ => ?_) hk
  have e1 : ((a : Int).fdiv (2 ^ b)) = ((a / 2 ^ b : Nat) : Int) := by
    rw [Int.fdiv_eq_ediv_of_nonneg _ (by exact_mod_cast Nat.zero_le _)]
    push_cast; rfl
  have e2 : min b k.bits = b := Nat.min_eq_left hb
  have e3 : ¬ ((b : Int) < 0) := by omega
  simp [run_eqGuard_int, binOp, Op.shift, e2, e3, e1]
theorem vshl {P : Program} {t : TypeId} {x y : Operand} {k k' : IntKind} {a b : Nat} {S : Nat → Prop} {H : Heap} {K : Value → Prop} (hb : b ≤ k.bits) (hin : inK k ((a * 2 ^ b : Nat) : Int)) (hk : K (.int k ((a * 2 ^ b : Nat) : Int))) :
    VDet P (do eqGuard .shl t x y (.int k a) (.int k' b); binOp .shl t (.int k a) (.int k' b)) S H K := by
  refine VDet.mk _ (fun w _ => ?_) hk
  have e2 : min b k.bits = b := Nat.min_eq_left hb
  have e3 : ¬ ((b : Int) < 0) := by omega
  have e4 : (a : Int) * 2 ^ b = ((a * 2 ^ b : Nat) : Int) := by push_cast; rfl
  simp only [run_eqGuard_int, binOp, Op.shift, Sem.run_bind, Result.andThen_ok, e3, if_false, Int.toNat_natCast, e2, e4, wrap_in hin, Sem.run_pure]

/-! ### equality of structs and arrays -/
theorem run_eq_agg {P : Program} {t m D D' : Nat} {as1 bs : Array Value} {la lb : List Lit} (hk : P.keyTypeAt m t = true) (hm : m ≤ 10000) (hg : P.eqGuardType P.depth t = false)
    (fa : (Value.agg as1).formed P t = true) (fb : (Value.agg bs).formed P t = true) (ha : P.keyLits D t as1.toList = some la) (hb : P.keyLits D' t bs.toList = some lb) {r : Bool} (hr : r = true ↔ la = lb)
    {op : BinOp} (hop : op = .eql ∨ op = .neq) (x y : Operand) (w : World) :
    (do eqGuard op t x y (.agg as1) (.agg bs); binOp op t (.agg as1) (.agg bs) : Sem Value).run P w = .ok (.bool (if op matches .eql then r else !r)) w := by
  obtain ⟨r', h1, h2⟩ := run_equalIn_deep (10000 - m) m t hk w D D' (.agg as1) (.agg bs) la lb fa fb ha hb
  rw [show 10000 - m + m = 10000 by omega] at h1
  have hrr : r' = r := by rw [Bool.eq_iff_iff, h2, hr]
  subst hrr
  have hp : program.run P w = .ok P w := rfl
  rcases hop with rfl | rfl <;> simp [eqGuard, hp, hg, binOp, Op.equal, Op.maxDepth, h1]
theorem veq {P : Program} {t m D D' : Nat} {as1 bs : Array Value} {la lb : List Lit} {x y : Operand} {S : Nat → Prop} {H : Heap} {K : Value → Prop} (hk : P.keyTypeAt m t = true) (hm : m ≤ 10000) (hg : P.eqGuardType P.depth t = false)
    (fa : (Value.agg as1).formed P t = true) (fb : (Value.agg bs).formed P t = true) (ha : P.keyLits D t as1.toList = some la) (hb : P.keyLits D' t bs.toList = some lb) {r : Bool} (hr : r = true ↔ la = lb) (k : K (.bool r)) :
    VDet P (do eqGuard .eql t x y (.agg as1) (.agg bs); binOp .eql t (.agg as1) (.agg bs)) S H K :=
  VDet.mk _ (fun w _ => run_eq_agg hk hm hg fa fb ha hb hr (.inl rfl) x y w) k
theorem vneq {P : Program} {t m D D' : Nat} {as1 bs : Array Value} {la lb : List Lit} {x y : Operand} {S : Nat → Prop} {H : Heap} {K : Value → Prop} (hk : P.keyTypeAt m t = true) (hm : m ≤ 10000) (hg : P.eqGuardType P.depth t = false)
    (fa : (Value.agg as1).formed P t = true) (fb : (Value.agg bs).formed P t = true) (ha : P.keyLits D t as1.toList = some la) (hb : P.keyLits D' t bs.toList = some lb) {r : Bool} (hr : r = true ↔ la = lb) (k : K (.bool (!r))) :
    VDet P (do eqGuard .neq t x y (.agg as1) (.agg bs); binOp .neq t (.agg as1) (.agg bs)) S H K :=
  VDet.mk _ (fun w _ => run_eq_agg hk hm hg fa fb ha hb hr (.inr rfl) x y w) k

/-! ### calls that change nothing that was there -/
/-- It returns v, and all that was there stays. -/
def Pure (P : Program) (f : FuncId) (args : Array Value) (H : Heap) (v : Value) : Prop :=
  FnOk P f args H fun v' H' => v' = v ∧ Agr (fun k => k < H.size) H H'
/-- All old blocks. -/
def Old (H : Heap) (k : Nat) : Prop := k < H.size
theorem old_lt {H H' : Heap} (h : Agr (Old H) H H') {k : Nat} (hk : Old H k) : k < H'.size := by
  have h1 := h k hk
  unfold Old at hk
  rw [Array.getElem?_eq_getElem hk] at h1
  exact (Array.getElem?_eq_some_iff.1 h1).1
theorem old_size {H H' : Heap} (h : Agr (Old H) H H') : H.size ≤ H'.size := agr_size h (Nat.le_refl _)
theorem pureq {P : Program} {f : FuncId} {args : Array Value} {H : Heap} {K : Value → Prop} {v : Value}
    (h : ∀ H', Agr (Old H) H H' → Pure P f args H' v) (k : K v) : VCallQ P f args (Old H) H K :=
  VCallQ.mk v (fun H' hH' => (h H' hH').mono fun v' H'' ⟨e, ha⟩ => ⟨e, ha.mono fun k hk => old_lt hH' hk⟩) k
theorem pures {P : Program} {f : FuncId} {args : Array Value} {H : Heap} {K : Value → Heap → Prop} {v : Value}
    (h : Pure P f args H v) (k : ∀ H', Agr (Old H) H H' → K v H') : VCall P f args H K :=
  VCall.mk h fun v' H' ⟨e, ha⟩ => by subst e; exact k H' ha

end Go.VC
/- Facts on the types of the translation, written by a program. -/
set_option maxRecDepth 100000
namespace Go.Proofs.YtlnmhfhdjnenoaaGreatDoor
open Go.VC
theorem ct3 : CellT Tryz.prog 3 := ⟨⟨_, rfl, rfl⟩, rfl⟩
theorem ct4 : CellT Tryz.prog 4 := ⟨⟨_, rfl, rfl⟩, rfl⟩
theorem ct5 : CellT Tryz.prog 5 := ⟨⟨_, rfl, rfl⟩, rfl⟩
theorem ag8 : AggT Tryz.prog 8 4 := ⟨⟨_, rfl, rfl⟩, rfl⟩
theorem ct9 : CellT Tryz.prog 9 := ⟨⟨_, rfl, rfl⟩, rfl⟩
theorem ct24 : CellT Tryz.prog 24 := ⟨⟨_, rfl, rfl⟩, rfl⟩
theorem ct25 : CellT Tryz.prog 25 := ⟨⟨_, rfl, rfl⟩, rfl⟩
theorem ag27 : AggT Tryz.prog 27 3 := ⟨⟨_, rfl, rfl⟩, rfl⟩
theorem ct30 : CellT Tryz.prog 30 := ⟨⟨_, rfl, rfl⟩, rfl⟩
theorem sl30 : SlT Tryz.prog 30 94 261 296 (Tryz.t94.zero.getD undef) := ⟨rfl, ⟨_, rfl, rfl, rfl, rfl⟩, rfl⟩ -- []louperef02.Nd
theorem ag32 : AggT Tryz.prog 32 2 := ⟨⟨_, rfl, rfl⟩, rfl⟩
theorem fl32_0 : FieldT Tryz.prog 32 0 0 30 1 := ⟨⟨_, _, rfl, rfl, rfl, rfl⟩, rfl, Nat.noConfusion⟩ -- N
theorem fl32_1 : FieldT Tryz.prog 32 1 1 3 1 := ⟨⟨_, _, rfl, rfl, rfl, rfl⟩, rfl, Nat.noConfusion⟩ -- Root
theorem ct35 : CellT Tryz.prog 35 := ⟨⟨_, rfl, rfl⟩, rfl⟩
theorem sl35 : SlT Tryz.prog 35 104 7 56 (Tryz.t104.zero.getD undef) := ⟨rfl, ⟨_, rfl, rfl, rfl, rfl⟩, rfl⟩ -- []nfa.Edge
theorem ag37 : AggT Tryz.prog 37 4 := ⟨⟨_, rfl, rfl⟩, rfl⟩
theorem fl37_0 : FieldT Tryz.prog 37 0 0 3 1 := ⟨⟨_, _, rfl, rfl, rfl, rfl⟩, rfl, Nat.noConfusion⟩ -- States
theorem fl37_1 : FieldT Tryz.prog 37 1 1 3 1 := ⟨⟨_, _, rfl, rfl, rfl, rfl⟩, rfl, Nat.noConfusion⟩ -- Start
theorem fl37_2 : FieldT Tryz.prog 37 2 2 3 1 := ⟨⟨_, _, rfl, rfl, rfl, rfl⟩, rfl, Nat.noConfusion⟩ -- End
theorem fl37_3 : FieldT Tryz.prog 37 3 3 35 1 := ⟨⟨_, _, rfl, rfl, rfl, rfl⟩, rfl, Nat.noConfusion⟩ -- Edges
theorem ct54 : CellT Tryz.prog 54 := ⟨⟨_, rfl, rfl⟩, rfl⟩
theorem sl54 : SlT Tryz.prog 54 3 1 8 (.int .i64 0) := ⟨rfl, ⟨_, rfl, rfl, rfl, rfl⟩, rfl⟩ -- []int
theorem ct56 : CellT Tryz.prog 56 := ⟨⟨_, rfl, rfl⟩, rfl⟩
theorem fl74_0 : FieldT Tryz.prog 74 0 0 9 1 := ⟨⟨_, _, rfl, rfl, rfl, rfl⟩, rfl, Nat.noConfusion⟩ -- text
theorem fl74_1 : FieldT Tryz.prog 74 1 1 3 1 := ⟨⟨_, _, rfl, rfl, rfl, rfl⟩, rfl, Nat.noConfusion⟩ -- at
theorem fl74_2 : FieldT Tryz.prog 74 2 2 54 1 := ⟨⟨_, _, rfl, rfl, rfl, rfl⟩, rfl, Nat.noConfusion⟩ -- open
theorem ct75 : CellT Tryz.prog 75 := ⟨⟨_, rfl, rfl⟩, rfl⟩
theorem ag77 : AggT Tryz.prog 77 2 := ⟨⟨_, rfl, rfl⟩, rfl⟩
theorem fl77_0 : FieldT Tryz.prog 77 0 0 3 1 := ⟨⟨_, _, rfl, rfl, rfl, rfl⟩, rfl, Nat.noConfusion⟩ -- size
theorem fl77_1 : FieldT Tryz.prog 77 1 1 75 1 := ⟨⟨_, _, rfl, rfl, rfl, rfl⟩, rfl, Nat.noConfusion⟩ -- grow
theorem ct81 : CellT Tryz.prog 81 := ⟨⟨_, rfl, rfl⟩, rfl⟩
theorem sl81 : SlT Tryz.prog 81 85 6 48 (Tryz.t85.zero.getD undef) := ⟨rfl, ⟨_, rfl, rfl, rfl, rfl⟩, rfl⟩ -- []louperef02.frame
theorem fl83_0 : FieldT Tryz.prog 83 0 0 30 1 := ⟨⟨_, _, rfl, rfl, rfl, rfl⟩, rfl, Nat.noConfusion⟩ -- n
theorem fl83_1 : FieldT Tryz.prog 83 1 1 81 1 := ⟨⟨_, _, rfl, rfl, rfl, rfl⟩, rfl, Nat.noConfusion⟩ -- st
theorem ag85 : AggT Tryz.prog 85 6 := ⟨⟨_, rfl, rfl⟩, rfl⟩
theorem fl85_0 : FieldT Tryz.prog 85 0 0 3 1 := ⟨⟨_, _, rfl, rfl, rfl, rfl⟩, rfl, Nat.noConfusion⟩ -- place
theorem fl85_1 : FieldT Tryz.prog 85 1 1 3 1 := ⟨⟨_, _, rfl, rfl, rfl, rfl⟩, rfl, Nat.noConfusion⟩ -- alt
theorem fl85_2 : FieldT Tryz.prog 85 2 2 3 1 := ⟨⟨_, _, rfl, rfl, rfl, rfl⟩, rfl, Nat.noConfusion⟩ -- meet
theorem fl85_3 : FieldT Tryz.prog 85 3 3 5 1 := ⟨⟨_, _, rfl, rfl, rfl, rfl⟩, rfl, Nat.noConfusion⟩ -- sign
theorem fl85_4 : FieldT Tryz.prog 85 4 4 3 1 := ⟨⟨_, _, rfl, rfl, rfl, rfl⟩, rfl, Nat.noConfusion⟩ -- row
theorem fl85_5 : FieldT Tryz.prog 85 5 5 3 1 := ⟨⟨_, _, rfl, rfl, rfl, rfl⟩, rfl, Nat.noConfusion⟩ -- factor
theorem ar92 : ArrT Tryz.prog 92 256 4 1 := ⟨rfl, rfl⟩
theorem ag92 : AggT Tryz.prog 92 256 := ⟨⟨_, rfl, rfl⟩, rfl⟩
theorem ag94 : AggT Tryz.prog 94 261 := ⟨⟨_, rfl, rfl⟩, rfl⟩
theorem fl94_0 : FieldT Tryz.prog 94 0 0 3 1 := ⟨⟨_, _, rfl, rfl, rfl, rfl⟩, rfl, Nat.noConfusion⟩ -- Op
theorem fl94_1 : FieldT Tryz.prog 94 1 1 92 256 := ⟨⟨_, _, rfl, rfl, rfl, rfl⟩, rfl, Nat.noConfusion⟩ -- Set
theorem fl94_2 : FieldT Tryz.prog 94 2 257 3 1 := ⟨⟨_, _, rfl, rfl, rfl, rfl⟩, rfl, Nat.noConfusion⟩ -- A
theorem fl94_3 : FieldT Tryz.prog 94 3 258 3 1 := ⟨⟨_, _, rfl, rfl, rfl, rfl⟩, rfl, Nat.noConfusion⟩ -- B
theorem fl94_4 : FieldT Tryz.prog 94 4 259 3 1 := ⟨⟨_, _, rfl, rfl, rfl, rfl⟩, rfl, Nat.noConfusion⟩ -- M
theorem fl94_5 : FieldT Tryz.prog 94 5 260 3 1 := ⟨⟨_, _, rfl, rfl, rfl, rfl⟩, rfl, Nat.noConfusion⟩ -- N
theorem ar102 : ArrT Tryz.prog 102 4 56 1 := ⟨rfl, rfl⟩
theorem ag102 : AggT Tryz.prog 102 4 := ⟨⟨_, rfl, rfl⟩, rfl⟩
theorem ag104 : AggT Tryz.prog 104 7 := ⟨⟨_, rfl, rfl⟩, rfl⟩
theorem fl104_0 : FieldT Tryz.prog 104 0 0 3 1 := ⟨⟨_, _, rfl, rfl, rfl, rfl⟩, rfl, Nat.noConfusion⟩ -- From
theorem fl104_1 : FieldT Tryz.prog 104 1 1 3 1 := ⟨⟨_, _, rfl, rfl, rfl, rfl⟩, rfl, Nat.noConfusion⟩ -- To
theorem fl104_2 : FieldT Tryz.prog 104 2 2 4 1 := ⟨⟨_, _, rfl, rfl, rfl, rfl⟩, rfl, Nat.noConfusion⟩ -- Silent
theorem fl104_3 : FieldT Tryz.prog 104 3 3 102 4 := ⟨⟨_, _, rfl, rfl, rfl, rfl⟩, rfl, Nat.noConfusion⟩ -- Set
theorem ct111 : CellT Tryz.prog 111 := ⟨⟨_, rfl, rfl⟩, rfl⟩
theorem sl111 : SlT Tryz.prog 111 4 1 1 (.bool false) := ⟨rfl, ⟨_, rfl, rfl, rfl, rfl⟩, rfl⟩ -- []bool
theorem fl118_0 : FieldT Tryz.prog 118 0 0 37 4 := ⟨⟨_, _, rfl, rfl, rfl, rfl⟩, rfl, Nat.noConfusion⟩ -- Nfa
theorem fl118_2 : FieldT Tryz.prog 118 2 5 25 1 := ⟨⟨_, _, rfl, rfl, rfl, rfl⟩, rfl, Nat.noConfusion⟩ -- err
theorem ag130 : AggT Tryz.prog 130 4 := ⟨⟨_, rfl, rfl⟩, rfl⟩
theorem fl130_0 : FieldT Tryz.prog 130 0 0 102 4 := ⟨⟨_, _, rfl, rfl, rfl, rfl⟩, rfl, Nat.noConfusion⟩ -- Set
theorem fl132_0 : FieldT Tryz.prog 132 0 0 24 1 := ⟨⟨_, _, rfl, rfl, rfl, rfl⟩, rfl, Nat.noConfusion⟩ -- A
theorem fl132_1 : FieldT Tryz.prog 132 1 1 24 1 := ⟨⟨_, _, rfl, rfl, rfl, rfl⟩, rfl, Nat.noConfusion⟩ -- B
theorem ct135 : CellT Tryz.prog 135 := ⟨⟨_, rfl, rfl⟩, rfl⟩
theorem ar136 : ArrT Tryz.prog 136 2 3 1 := ⟨rfl, rfl⟩
theorem ct149 : CellT Tryz.prog 149 := ⟨⟨_, rfl, rfl⟩, rfl⟩
theorem ct156 : CellT Tryz.prog 156 := ⟨⟨_, rfl, rfl⟩, rfl⟩
theorem sl156 : SlT Tryz.prog 156 159 1 24 (.slice none 0 0) := ⟨rfl, ⟨_, rfl, rfl, rfl, rfl⟩, rfl⟩ -- [][][]bool
theorem fl158_0 : FieldT Tryz.prog 158 0 0 32 2 := ⟨⟨_, _, rfl, rfl, rfl, rfl⟩, rfl, Nat.noConfusion⟩ -- Re
theorem fl158_1 : FieldT Tryz.prog 158 1 2 9 1 := ⟨⟨_, _, rfl, rfl, rfl, rfl⟩, rfl, Nat.noConfusion⟩ -- S
theorem fl158_2 : FieldT Tryz.prog 158 2 3 156 1 := ⟨⟨_, _, rfl, rfl, rfl, rfl⟩, rfl, Nat.noConfusion⟩ -- Ends
theorem ct159 : CellT Tryz.prog 159 := ⟨⟨_, rfl, rfl⟩, rfl⟩
theorem sl159 : SlT Tryz.prog 159 111 1 24 (.slice none 0 0) := ⟨rfl, ⟨_, rfl, rfl, rfl, rfl⟩, rfl⟩ -- [][]bool
theorem fl163_0 : FieldT Tryz.prog 163 0 0 24 1 := ⟨⟨_, _, rfl, rfl, rfl, rfl⟩, rfl, Nat.noConfusion⟩ -- A
theorem fl163_1 : FieldT Tryz.prog 163 1 1 24 1 := ⟨⟨_, _, rfl, rfl, rfl, rfl⟩, rfl, Nat.noConfusion⟩ -- B
theorem fl165_0 : FieldT Tryz.prog 165 0 0 24 1 := ⟨⟨_, _, rfl, rfl, rfl, rfl⟩, rfl, Nat.noConfusion⟩ -- A
theorem fl166_0 : FieldT Tryz.prog 166 0 0 24 1 := ⟨⟨_, _, rfl, rfl, rfl, rfl⟩, rfl, Nat.noConfusion⟩ -- A
theorem fl166_1 : FieldT Tryz.prog 166 1 1 24 1 := ⟨⟨_, _, rfl, rfl, rfl, rfl⟩, rfl, Nat.noConfusion⟩ -- B
theorem fl167_0 : FieldT Tryz.prog 167 0 0 24 1 := ⟨⟨_, _, rfl, rfl, rfl, rfl⟩, rfl, Nat.noConfusion⟩ -- A
theorem fl167_1 : FieldT Tryz.prog 167 1 1 24 1 := ⟨⟨_, _, rfl, rfl, rfl, rfl⟩, rfl, Nat.noConfusion⟩ -- B
theorem ag188 : AggT Tryz.prog 188 2 := ⟨⟨_, rfl, rfl⟩, rfl⟩
theorem fl188_0 : FieldT Tryz.prog 188 0 0 5 1 := ⟨⟨_, _, rfl, rfl, rfl, rfl⟩, rfl, Nat.noConfusion⟩ -- letter
theorem fl188_1 : FieldT Tryz.prog 188 1 1 5 1 := ⟨⟨_, _, rfl, rfl, rfl, rfl⟩, rfl, Nat.noConfusion⟩ -- value
theorem ar189 : ArrT Tryz.prog 189 3 188 2 := ⟨rfl, rfl⟩
theorem ag189 : AggT Tryz.prog 189 6 := ⟨⟨_, rfl, rfl⟩, rfl⟩
theorem fl206_0 : FieldT Tryz.prog 206 0 0 9 1 := ⟨⟨_, _, rfl, rfl, rfl, rfl⟩, rfl, Nat.noConfusion⟩ -- text
theorem fl206_1 : FieldT Tryz.prog 206 1 1 3 1 := ⟨⟨_, _, rfl, rfl, rfl, rfl⟩, rfl, Nat.noConfusion⟩ -- at
end Go.Proofs.YtlnmhfhdjnenoaaGreatDoor
/- What the functions of package class compute: sets of bytes as1 256 bits. -/
set_option linter.unusedVariables false
set_option linter.unusedSimpArgs false
set_option maxRecDepth 100000
namespace Go.Proofs.YtlnmhfhdjnenoaaGreatDoor
open Go.VC

/-- Word i of a set. -/
def wd (s : BitVec 256) (i : Nat) : Nat := (s.toNat / 2 ^ (64 * i)) % 2 ^ 64
def setV (s : BitVec 256) : Value := .agg #[.int .u64 (wd s 0), .int .u64 (wd s 1), .int .u64 (wd s 2), .int .u64 (wd s 3)]
def setL (s : BitVec 256) : List Value := [.int .u64 (wd s 0), .int .u64 (wd s 1), .int .u64 (wd s 2), .int .u64 (wd s 3)]
theorem wd_lt (s : BitVec 256) (i : Nat) : wd s i < 2 ^ 64 := Nat.mod_lt _ (by decide)
theorem wd_in (s : BitVec 256) (i : Nat) : inK .u64 (wd s i : Int) := by
  have := wd_lt s i
  refine ⟨?_, ?_⟩ <;> simp only [IntKind.min, IntKind.max, IntKind.signed, IntKind.bits] <;> simp <;> omega
theorem wd_bit (s : BitVec 256) (i j : Nat) (hj : j < 64) : (wd s i).testBit j = s.getLsbD (64 * i + j) := by
  unfold wd
  rw [Nat.testBit_mod_two_pow, Nat.testBit_div_two_pow, BitVec.testBit_toNat]
  simp [hj]; congr 1; omega
theorem wd_inj {s t : BitVec 256} (h : ∀ i, i < 4 → wd s i = wd t i) : s = t := by
  apply BitVec.eq_of_getLsbD_eq
  intro k hk
  have h1 := wd_bit s (k / 64) (k % 64) (Nat.mod_lt _ (by decide))
  have h2 := wd_bit t (k / 64) (k % 64) (Nat.mod_lt _ (by decide))
  rw [show 64 * (k / 64) + k % 64 = k by omega] at h1 h2
  rw [← h1, ← h2, h _ (by omega)]
theorem setV_inj {s t : BitVec 256} (h : setV s = setV t) : s = t := by
  unfold setV at h
  simp only [Value.agg.injEq, Array.mk.injEq, List.cons.injEq, Value.int.injEq, true_and, and_true, Int.natCast_inj] at h
  apply wd_inj
  intro i hi
  match i, hi with
  | 0, _ => exact h.1
  | 1, _ => exact h.2.1
  | 2, _ => exact h.2.2.1
  | 3, _ => exact h.2.2.2

theorem has_c (s : BitVec 256) (b : Nat) (hb : b < 256) (H : Heap) : Pure Tryz.prog 66 #[setV s, .int .u8 b] H (.bool (s.getLsbD b)) := by
  refine FnOk.of_vc Tryz.func66 rfl (Tryz.call66 _) ?_
  (conv => whnf)
  refine vbox (setL s) rfl ?_
  intro p H1 hp hs1 hb1 ha1
  (conv => whnf); refine vshr (b := 6) (by decide) ?_
  (conv => whnf); refine ixa ar102 (by omega) (by omega) ?_
  (conv => whnf); refine ld1 ct56 (v := .int .u64 (wd s (b / 64))) ?_ trivial ?_
  · rw [hb1.cell]
    have : b / 2 ^ 6 < 4 := by omega
    rw [show b / 64 = b / 2 ^ 6 by omega]
    generalize b / 2 ^ 6 = q at this
    match q, this with
    | 0, _ => rfl
    | 1, _ => rfl
    | 2, _ => rfl
    | 3, _ => rfl
  (conv => whnf); refine vand (b := 63) ⟨by simp [IntKind.min, IntKind.signed], by simp [IntKind.max, IntKind.signed, IntKind.bits]; omega⟩ ⟨by decide, by decide⟩ ?_
  (conv => whnf); refine vshr (Nat.le_trans Nat.and_le_right (by decide)) ?_
  (conv => whnf); refine vand (b := 1) (inK_le (wd_in s _) (Nat.div_le_self _ _)) ⟨by decide, by decide⟩ ?_
  (conv => whnf)
  refine ⟨?_, by rw [← hp]; exact ha1⟩
  congr 1
  have e1 : b &&& 63 = b % 64 := by rw [show (63 : Nat) = 2 ^ 6 - 1 by decide, Nat.and_two_pow_sub_one_eq_mod]
  have h1 := wd_bit s (b / 64) (b % 64) (Nat.mod_lt _ (by decide))
  rw [show 64 * (b / 64) + b % 64 = b by omega] at h1
  rw [e1, ← h1, Nat.testBit_eq_decide_div_mod_eq, Nat.and_one_is_mod]
  have := Nat.mod_two_eq_zero_or_one (wd s (b / 64) / 2 ^ (b % 64))
  rcases this with h | h <;> simp [h]

/-- The four loads and bit operations of Meet, Union. -/
theorem wd_and (a b : BitVec 256) (i : Nat) : wd (a &&& b) i = wd a i &&& wd b i := by
  apply Nat.eq_of_testBit_eq
  intro j
  rw [Nat.testBit_and]
  by_cases hj : j < 64
  · rw [wd_bit _ _ _ hj, wd_bit _ _ _ hj, wd_bit _ _ _ hj, BitVec.getLsbD_and]
  · rw [Nat.testBit_lt_two_pow (Nat.lt_of_lt_of_le (wd_lt _ _) (Nat.pow_le_pow_right (by decide) (by omega))),
      Nat.testBit_lt_two_pow (x := wd a i) (Nat.lt_of_lt_of_le (wd_lt _ _) (Nat.pow_le_pow_right (by decide) (by omega)))]; rfl
theorem wd_or (a b : BitVec 256) (i : Nat) : wd (a ||| b) i = wd a i ||| wd b i := by
  apply Nat.eq_of_testBit_eq
  intro j
  rw [Nat.testBit_or]
  by_cases hj : j < 64
  · rw [wd_bit _ _ _ hj, wd_bit _ _ _ hj, wd_bit _ _ _ hj, BitVec.getLsbD_or]
  · rw [Nat.testBit_lt_two_pow (Nat.lt_of_lt_of_le (wd_lt _ _) (Nat.pow_le_pow_right (by decide) (by omega))),
      Nat.testBit_lt_two_pow (x := wd a i) (Nat.lt_of_lt_of_le (wd_lt _ _) (Nat.pow_le_pow_right (by decide) (by omega))),
      Nat.testBit_lt_two_pow (x := wd b i) (Nat.lt_of_lt_of_le (wd_lt _ _) (Nat.pow_le_pow_right (by decide) (by omega)))]; rfl

theorem union_c (a b : BitVec 256) (H : Heap) : Pure Tryz.prog 141 #[setV a, setV b] H (setV (a ||| b)) := by
  refine FnOk.of_vc Tryz.func141 rfl (Tryz.call141 _) ?_
  (conv => whnf); refine vbox (setL a) rfl ?_
  intro p H1 hp hs1 hb1 ha1
  (conv => whnf); refine vbox (setL b) rfl ?_
  intro q H2 hq hs2 hb2 ha2
  (conv => whnf); refine valloc (setV 0) (setL 0) rfl rfl ?_
  intro r H3 hr hs3 hb3 ha3
  replace hb1 := (hb1.agr ha2 (show p < q by omega)).agr ha3 (show p < r by omega)
  replace hb2 := hb2.agr ha3 (show q < r by omega)
  (conv => whnf); refine ixa ar102 (by decide) (by decide) ?_
  (conv => whnf); refine ld1 ct56 ((hb1.cell _).trans rfl) trivial ?_
  (conv => whnf); refine ixa ar102 (by decide) (by decide) ?_
  (conv => whnf); refine ld1 ct56 ((hb2.cell _).trans rfl) trivial ?_
  (conv => whnf); refine vor (wd_in a _) (wd_in b _) ?_
  (conv => whnf); refine ixa ar102 (by decide) (by decide) ?_
  (conv => whnf); refine ld1 ct56 ((hb1.cell _).trans rfl) trivial ?_
  (conv => whnf); refine ixa ar102 (by decide) (by decide) ?_
  (conv => whnf); refine ld1 ct56 ((hb2.cell _).trans rfl) trivial ?_
  (conv => whnf); refine vor (wd_in a _) (wd_in b _) ?_
  (conv => whnf); refine ixa ar102 (by decide) (by decide) ?_
  (conv => whnf); refine ld1 ct56 ((hb1.cell _).trans rfl) trivial ?_
  (conv => whnf); refine ixa ar102 (by decide) (by decide) ?_
  (conv => whnf); refine ld1 ct56 ((hb2.cell _).trans rfl) trivial ?_
  (conv => whnf); refine vor (wd_in a _) (wd_in b _) ?_
  (conv => whnf); refine ixa ar102 (by decide) (by decide) ?_
  (conv => whnf); refine ld1 ct56 ((hb1.cell _).trans rfl) trivial ?_
  (conv => whnf); refine ixa ar102 (by decide) (by decide) ?_
  (conv => whnf); refine ld1 ct56 ((hb2.cell _).trans rfl) trivial ?_
  (conv => whnf); refine vor (wd_in a _) (wd_in b _) ?_
  (conv => whnf); refine vbuildA ar102 (setV 0) rfl [Value.int .u64 ((wd a 0 ||| wd b 0 : Nat) : Int), Value.int .u64 ((wd a 1 ||| wd b 1 : Nat) : Int), Value.int .u64 ((wd a 2 ||| wd b 2 : Nat) : Int), Value.int .u64 ((wd a 3 ||| wd b 3 : Nat) : Int)] rfl ?_
  (conv => whnf); refine stN rfl hb3 (show 0 + 4 ≤ 4 by decide) rfl ?_
  intro H4 hb4 ha4 hs4
  (conv => whnf); refine ldN (cs := [Value.int .u64 ((wd a 0 ||| wd b 0 : Nat) : Int), Value.int .u64 ((wd a 1 ||| wd b 1 : Nat) : Int), Value.int .u64 ((wd a 2 ||| wd b 2 : Nat) : Int), Value.int .u64 ((wd a 3 ||| wd b 3 : Nat) : Int)]) ag102 (hb4.cells (fun j v hv => by simpa [splice, setL] using hv)) trivial ?_
  refine ⟨?_, ?_⟩
  · unfold setV; rw [wd_or, wd_or, wd_or, wd_or]
  · intro k hk; rw [ha4 k (by omega), ha3 k (by omega), ha2 k (by omega), ha1 k (by omega)]

theorem and63 (b : Nat) : b &&& 63 = b % 64 := by rw [show (63 : Nat) = 2 ^ 6 - 1 by decide, Nat.and_two_pow_sub_one_eq_mod]
theorem setL_get (s : BitVec 256) (b : Nat) (hb : b < 256) : (setL s)[b / 2 ^ 6]? = some (.int .u64 (wd s (b / 64))) := by
  have : b / 2 ^ 6 < 4 := by omega
  rw [show b / 64 = b / 2 ^ 6 by omega]
  generalize b / 2 ^ 6 = q at this
  match q, this with
  | 0, _ => rfl
  | 1, _ => rfl
  | 2, _ => rfl
  | 3, _ => rfl
theorem wd_put (s : BitVec 256) (b i : Nat) (hb : b < 256) : wd (s ||| BitVec.twoPow 256 b) i = if i = b / 64 then wd s i ||| 2 ^ (b % 64) else wd s i := by
  apply Nat.eq_of_testBit_eq
  intro j
  by_cases hj : j < 64
  · rw [wd_bit _ _ _ hj, BitVec.getLsbD_or, BitVec.getLsbD_twoPow]
    by_cases hi : i = b / 64
    · rw [if_pos hi, Nat.testBit_or, wd_bit _ _ _ hj, Nat.testBit_two_pow]
      congr 1
      by_cases h : b % 64 = j
      · have : b = 64 * i + j := by omega
        simp [h, ← this, hb]
      · have : ¬ b = 64 * i + j := by omega
        simp [h, this]
    · rw [if_neg hi, wd_bit _ _ _ hj]
      have : ¬ b = 64 * i + j := by omega
      simp [this]
  · have hbig : 2 ^ 64 ≤ 2 ^ j := Nat.pow_le_pow_right (by decide) (by omega)
    rw [Nat.testBit_lt_two_pow (Nat.lt_of_lt_of_le (wd_lt _ _) hbig)]
    split
    · rw [Nat.testBit_or, Nat.testBit_lt_two_pow (Nat.lt_of_lt_of_le (wd_lt _ _) hbig), Nat.testBit_two_pow]
      simp; omega
    · rw [Nat.testBit_lt_two_pow (Nat.lt_of_lt_of_le (wd_lt _ _) hbig)]
theorem setL_put (s : BitVec 256) (b : Nat) (hb : b < 256) : (setL s).set (b / 64) (.int .u64 ((wd s (b / 64) ||| 2 ^ (b % 64) : Nat) : Int)) = setL (s ||| BitVec.twoPow 256 b) := by
  have h : b / 64 < 4 := by omega
  unfold setL
  rw [wd_put s b 0 hb, wd_put s b 1 hb, wd_put s b 2 hb, wd_put s b 3 hb]
  generalize b / 64 = q at h
  match q, h with
  | 0, _ => rfl
  | 1, _ => rfl
  | 2, _ => rfl
  | 3, _ => rfl

theorem span_c (lo hi : Nat) (hlo : lo < 256) (hhi : hi < 256) (H : Heap) : FnOk Tryz.prog 137 #[.int .u8 lo, .int .u8 hi] H fun v H' =>
    (∃ s, v = setV s ∧ ∀ b, b < 256 → s.getLsbD b = (decide (lo ≤ b) && decide (b ≤ hi))) ∧ Agr (Old H) H H' := by
  refine FnOk.of_vc Tryz.func137 rfl (Tryz.call137 _) ?_
  (conv => whnf); refine valloc (setV 0) (setL 0) rfl rfl ?_
  intro r H1 hr hs1 hb1 ha1
  (conv => whnf); refine valloc (setV 0) (setL 0) rfl rfl ?_
  intro p H2 hp hs2 hb2 ha2
  replace hb1 := hb1.agr ha2 (show r < p by omega)
  (conv => whnf); rw [w64 (x := (lo : Int)) (by omega) (by omega)]
  refine VLoop.mk [6] (fun b : Nat => [.int .i64 b]) (fun b H3 => lo ≤ b ∧ (b ≤ hi + 1 ∨ b = lo) ∧ Agr (fun k => k ≠ p) H2 H3 ∧ H3.size = H2.size ∧ ∃ s : BitVec 256, Blk H3 p 102 (setL s) ∧ ∀ c, c < 256 → s.getLsbD c = (decide (lo ≤ c) && decide (c < b))) (fun b _ => 256 - b) ?_ ?_
  · (conv => whnf)
    exact ⟨lo, rfl, by omega, by omega, Agr.refl _ _, rfl, 0, hb2, fun c hc => by simp⟩
  · rintro b H3 junk ⟨h1, h2, ha3, hs3, s, hb3, hs⟩
    (conv => whnf); rw [w64 (x := (hi : Int)) (by omega) (by omega)]
    refine VIte.mk (fun h => ?_) (fun h => ?_) <;> simp only [decide_eq_true_eq, decide_eq_false_iff_not] at h
    · (conv => whnf)
      refine VDraw.tail 9 (sq [0,1,2,3,4,5,6,7,8] (.f 9 .e)) rfl (by kernel_rfl) ?_
      (conv => whnf); refine vshr (b := 6) (by decide) ?_
      (conv => whnf); refine ixa ar102 (by omega) (by omega) ?_
      (conv => whnf); refine ld1 ct56 (v := .int .u64 (wd s (b / 64))) (by rw [hb3.cell, Nat.zero_add, Nat.mul_one]; exact setL_get s b (by omega)) trivial ?_
      (conv => whnf); refine vand (b := 63) (inI64 (by omega)) (inI64 (by decide)) ?_
      have hpow : 2 ^ (b % 64) < 2 ^ 64 := Nat.pow_lt_pow_right (by decide) (by omega)
      rw [and63]
      have hin : inK .u64 ((1 * 2 ^ (b % 64) : Nat) : Int) := inU64 (by omega)
      (conv => whnf); refine vshl (a := 1) (by simp [IntKind.bits]; omega) hin ?_
      (conv => whnf); refine vor (wd_in s _) hin ?_
      (conv => whnf); refine ixa ar102 (by omega) (by omega) ?_
      (conv => whnf); refine st1 ct56 hb3 (by simp [setL]; omega) rfl ?_
      intro H4 hb4 ha4 hs4
      (conv => whnf); rw [w64 (x := (b : Int) + 1) (by omega) (by omega)]
      refine ⟨rfl, b + 1, by simp, ⟨by omega, by omega, ha3.trans ha4, by omega, s ||| BitVec.twoPow 256 b, ?_, fun c hc => ?_⟩, by omega⟩
      · rw [Nat.zero_add, Nat.mul_one, Nat.one_mul] at hb4
        rw [← setL_put s b (by omega)]
        exact hb4
      · rw [BitVec.getLsbD_or, hs c hc, BitVec.getLsbD_twoPow]
        by_cases hbc : b = c
        · subst hbc; simp [hc, h1]
        · have : (decide (c < b + 1)) = decide (c < b) := by simp; omega
          simp [hbc, this]
    · (conv => whnf)
      refine ldN (cs := setL s) ag102 (hb3.cells (fun j v hv => by simpa using hv)) trivial ?_
      (conv => whnf); refine stN rfl (hb1.agr ha3 (show r ≠ p by omega)) (show 0 + 4 ≤ 4 by decide) rfl ?_
      intro H4 hb4 ha4 hs4
      (conv => whnf); refine ldN (cs := setL s) ag102 (hb4.cells (fun j v hv => by simpa [splice, setL] using hv)) trivial ?_
      refine ⟨⟨s, rfl, fun c hc => ?_⟩, fun k hk => ?_⟩
      · rw [hs c hc]
        rcases h2 with h2 | h2
        · have : (decide (c < b)) = decide (c ≤ hi) := by simp; omega
          rw [this]
        · subst h2
          by_cases hcl : b ≤ c
          · simp [show ¬ c < b by omega, show ¬ c ≤ hi by omega]
          · simp [hcl]
      · unfold Old at hk
        rw [ha4 k (by omega), ha3 k (by omega), ha2 k (by omega), ha1 k (by omega)]

/-! ### sets as1 data, and their equality -/
def spanS (lo hi : Nat) : BitVec 256 := BitVec.ofNat 256 ((2 ^ (hi + 1 - lo) - 1) <<< lo)
theorem spanS_bit (lo hi b : Nat) (hb : b < 256) : (spanS lo hi).getLsbD b = (decide (lo ≤ b) && decide (b ≤ hi)) := by
  unfold spanS
  rw [BitVec.getLsbD_ofNat, Nat.testBit_shiftLeft, Nat.testBit_two_pow_sub_one]
  by_cases h : lo ≤ b
  · simp only [hb, decide_true, Bool.true_and, h, ge_iff_le]
    congr 1
    rw [eq_iff_iff]; omega
  · simp [h]
theorem span_p (lo hi : Nat) (hlo : lo < 256) (hhi : hi < 256) (H : Heap) : Pure Tryz.prog 137 #[.int .u8 lo, .int .u8 hi] H (setV (spanS lo hi)) := by
  refine (span_c lo hi hlo hhi H).mono ?_
  rintro v H' ⟨⟨s, rfl, hs⟩, ha⟩
  refine ⟨?_, ha⟩
  congr 1
  apply BitVec.eq_of_getLsbD_eq
  intro b hb
  rw [hs b hb, spanS_bit lo hi b hb]
end Go.Proofs.YtlnmhfhdjnenoaaGreatDoor
/- Nondeterministic automata, plain: what silent edges reach, what a text reaches. -/
set_option linter.unusedVariables false
set_option linter.unusedSimpArgs false
namespace Go.Proofs.YtlnmhfhdjnenoaaGreatDoor
open Go.VC
structure EdM where
  fr : Int
  to : Int
  sil : Bool
  set : BitVec 256
structure NfM where
  st : Int
  start : Int
  fin : Int
  edges : List EdM
def NfM.has (a : NfM) (q : Int) : Bool := decide (0 ≤ q) && decide (q < a.st) && decide (a.st ≤ 65536)
theorem NfM.has_iff {a : NfM} {q : Int} : a.has q = true ↔ 0 ≤ q ∧ q < a.st ∧ a.st ≤ 65536 := by
  unfold NfM.has
  simp only [Bool.and_eq_true, decide_eq_true_eq, and_assoc]
/-- What silent edges reach. -/
inductive Sils (a : NfM) : Int → Int → Prop
  | refl (p : Int) : Sils a p p
  | step {p : Int} {e : EdM} : Sils a p e.fr → e ∈ a.edges → e.sil = true → a.has e.to = true → Sils a p e.to
theorem Sils.trans {a : NfM} {p q r : Int} (h : Sils a p q) (k : Sils a q r) : Sils a p r := by
  induction k with
  | refl => exact h
  | step _ h1 h2 h3 ih => exact .step ih h1 h2 h3
abbrev PS := Int → Prop
def clS (a : NfM) (X : PS) : PS := fun q => ∃ p, X p ∧ Sils a p q
def begS (a : NfM) : PS := clS a fun q => q = a.start ∧ a.has a.start = true
def hopS (a : NfM) (X : PS) (b : Nat) : PS := fun q => ∃ e ∈ a.edges, e.sil = false ∧ e.set.getLsbD b = true ∧ X e.fr ∧ a.has e.to = true ∧ q = e.to
def goS (a : NfM) (X : PS) (b : Nat) : PS := clS a (hopS a X b)
def rchS (a : NfM) (s : List Nat) : PS := s.foldl (goS a) (begS a)
/-- Closed under silent edges. -/
def Shut_ (a : NfM) (X : PS) : Prop := ∀ e ∈ a.edges, e.sil = true → a.has e.to = true → X e.fr → X e.to
theorem clS_in {a : NfM} {X : PS} {q : Int} (h : X q) : clS a X q := ⟨q, h, .refl q⟩
theorem clS_shut (a : NfM) (X : PS) : Shut_ a (clS a X) := fun e h1 h2 h3 ⟨p, hp, hs⟩ => ⟨p, hp, .step hs h1 h2 h3⟩
theorem clS_least {a : NfM} {X Y : PS} (h : ∀ q, X q → Y q) (hs : Shut_ a Y) : ∀ q, clS a X q → Y q := by
  rintro q ⟨p, hp, hq⟩
  induction hq with
  | refl => exact h _ hp
  | step _ h1 h2 h3 ih => exact hs _ h1 h2 h3 ih
theorem clS_has {a : NfM} {X : PS} (h : ∀ q, X q → a.has q = true) : ∀ q, clS a X q → a.has q = true := clS_least h fun e _ _ h3 _ => h3
theorem begS_has (a : NfM) : ∀ q, begS a q → a.has q = true := clS_has fun q ⟨e, h⟩ => e ▸ h
theorem goS_has (a : NfM) (X : PS) (b : Nat) : ∀ q, goS a X b q → a.has q = true := clS_has fun q ⟨e, _, _, _, _, h, hq⟩ => hq ▸ h
theorem rchS_snoc (a : NfM) (s : List Nat) (b : Nat) : rchS a (s ++ [b]) = goS a (rchS a s) b := by unfold rchS; rw [List.foldl_append]; rfl
theorem fold_has (a : NfM) : ∀ (s : List Nat) (X : PS), (∀ q, X q → a.has q = true) → ∀ q, s.foldl (goS a) X q → a.has q = true
  | [], X, h => h
  | b :: s, X, h => fold_has a s (goS a X b) (goS_has a X b)
theorem rchS_has (a : NfM) (s : List Nat) : ∀ q, rchS a s q → a.has q = true := fold_has a s _ (begS_has a)
theorem fold_shut (a : NfM) : ∀ (s : List Nat) (X : PS), Shut_ a X → Shut_ a (s.foldl (goS a) X)
  | [], X, h => h
  | b :: s, X, h => fold_shut a s (goS a X b) (clS_shut a _)
theorem rchS_shut (a : NfM) (s : List Nat) : Shut_ a (rchS a s) := fold_shut a s _ (clS_shut a _)
theorem goS_ext {a : NfM} {X Y : PS} (h : ∀ q, X q ↔ Y q) (b : Nat) : goS a X b = goS a Y b := by
  have : X = Y := funext fun q => propext (h q)
  rw [this]
/-! ### sorted lists -/
theorem srt_uniq : ∀ {l m : List Int}, l.Pairwise (· < ·) → m.Pairwise (· < ·) → (∀ q, q ∈ l ↔ q ∈ m) → l = m
  | [], [], _, _, _ => rfl
  | [], y :: m, _, _, h => by have := (h y).2 (by simp); cases this
  | x :: l, [], _, _, h => by have := (h x).1 (by simp); cases this
  | x :: l, y :: m, hl, hm, h => by
    obtain ⟨h1, h2⟩ := List.pairwise_cons.1 hl
    obtain ⟨k1, k2⟩ := List.pairwise_cons.1 hm
    have hxy : x = y := by
      have hx := (h x).1 (by simp)
      have hy := (h y).2 (by simp)
      rcases List.mem_cons.1 hx with e | hx
      · exact e
      · rcases List.mem_cons.1 hy with e | hy
        · exact e.symm
        · have := h1 y hy; have := k1 x hx; omega
    subst hxy
    congr 1
    refine srt_uniq h2 k2 fun q => ⟨fun hq => ?_, fun hq => ?_⟩
    · rcases List.mem_cons.1 ((h q).1 (by simp [hq])) with e | h3
      · have := h1 q hq; omega
      · exact h3
    · rcases List.mem_cons.1 ((h q).2 (by simp [hq])) with e | h3
      · have := k1 q hq; omega
      · exact h3
open Classical in
/-- The list of a set of states, rising. -/
noncomputable def lstS (X : PS) : List Int := ((List.range 65536).map fun (n : Nat) => (n : Int)).filter fun q => decide (X q)
theorem lstS_srt (X : PS) : (lstS X).Pairwise (· < ·) := by
  unfold lstS
  refine List.Pairwise.filter _ ?_
  rw [List.pairwise_map]
  exact List.pairwise_lt_range.imp fun h => by omega
open Classical in
theorem lstS_mem {X : PS} (h : ∀ q, X q → 0 ≤ q ∧ q < 65536) (q : Int) : q ∈ lstS X ↔ X q := by
  unfold lstS
  rw [List.mem_filter, decide_eq_true_eq, List.mem_map]
  constructor
  · exact fun ⟨_, hx⟩ => hx
  · intro hx
    obtain ⟨h1, h2⟩ := h q hx
    exact ⟨⟨q.toNat, List.mem_range.2 (by omega), by omega⟩, hx⟩
theorem lstS_uniq {X : PS} {l : List Int} (h : ∀ q, X q → 0 ≤ q ∧ q < 65536) (hs : l.Pairwise (· < ·)) (hm : ∀ q, q ∈ l ↔ X q) : l = lstS X :=
  srt_uniq hs (lstS_srt X) fun q => (hm q).trans (lstS_mem h q).symm
theorem lstS_len (X : PS) : (lstS X).length ≤ 65536 := by
  unfold lstS
  exact Nat.le_trans (List.length_filter_le _ _) (by simp)
theorem has_rng {a : NfM} {X : PS} (h : ∀ q, X q → a.has q = true) : ∀ q, X q → 0 ≤ q ∧ q < 65536 := fun q hq => by
  have := NfM.has_iff.1 (h q hq); omega
noncomputable def rchL (a : NfM) (s : List Nat) : List Int := lstS (rchS a s)
theorem rchL_mem (a : NfM) (s : List Nat) (q : Int) : q ∈ rchL a s ↔ rchS a s q := lstS_mem (has_rng (rchS_has a s)) q
open Classical in
noncomputable def accN (a : NfM) (s : List Nat) : Bool := decide (rchS a s a.fin)
theorem accN_iff (a : NfM) (s : List Nat) : accN a s = true ↔ rchS a s a.fin := by unfold accN; simp
/-! ### a text of two parts -/
/-! ### turned round -/
/-- A way through the automaton that reads a text. -/
inductive Way (a : NfM) : Int → List Nat → Int → Prop
  | nil {p : Int} : a.has p = true → Way a p [] p
  | sil {e : EdM} {s : List Nat} {q : Int} : e ∈ a.edges → e.sil = true → a.has e.fr = true → Way a e.to s q → Way a e.fr s q
  | hop {e : EdM} {b : Nat} {s : List Nat} {q : Int} : e ∈ a.edges → e.sil = false → e.set.getLsbD b = true → a.has e.fr = true → Way a e.to s q → Way a e.fr (b :: s) q
theorem Way.ends {a : NfM} {p q : Int} {s : List Nat} (h : Way a p s q) : a.has p = true ∧ a.has q = true := by
  induction h with
  | nil h => exact ⟨h, h⟩
  | sil _ _ h _ ih => exact ⟨h, ih.2⟩
  | hop _ _ _ h _ ih => exact ⟨h, ih.2⟩
theorem Way.app {a : NfM} {p q r : Int} {s t : List Nat} (h : Way a p s q) (k : Way a q t r) : Way a p (s ++ t) r := by
  induction h with
  | nil h => exact k
  | sil h1 h2 h3 _ ih => exact .sil h1 h2 h3 (ih k)
  | hop h1 h2 h3 h4 _ ih => exact .hop h1 h2 h3 h4 (ih k)
theorem sils_way {a : NfM} {p q : Int} (h : Sils a p q) (hp : a.has p = true) : Way a p [] q := by
  induction h with
  | refl => exact .nil hp
  | step _ h1 h2 h3 ih =>
    have := ih.app (.sil h1 h2 ih.ends.2 (.nil h3))
    simpa using this
theorem rch_way (a : NfM) : ∀ (s : List Nat) (q : Int), rchS a s q → Way a a.start s q := by
  have key : ∀ (n : Nat) (s : List Nat), s.length = n → ∀ (q : Int), rchS a s q → Way a a.start s q := by
    intro n
    induction n with
    | zero =>
      intro s hs q h
      obtain rfl := List.eq_nil_of_length_eq_zero hs
      obtain ⟨p, ⟨rfl, hp⟩, hq⟩ := h
      exact sils_way hq hp
    | succ n ih =>
      intro s hs q h
      obtain ⟨t, b, rfl⟩ : ∃ t b, s = t ++ [b] := ⟨s.dropLast, s.getLast (by intro e; subst e; simp at hs), (List.dropLast_concat_getLast _).symm⟩
      rw [rchS_snoc] at h
      obtain ⟨r, ⟨e, h1, h2, h3, h4, h5, rfl⟩, hq⟩ := h
      have w1 := ih t (by simpa using hs) e.fr h4
      exact w1.app (.hop h1 h2 h3 w1.ends.2 (sils_way hq h5))
  exact fun s q h => key s.length s rfl q h
theorem way_rch {a : NfM} {p q : Int} {s : List Nat} (h : Way a p s q) : ∀ (X : PS), Shut_ a X → X p → s.foldl (goS a) X q := by
  induction h with
  | nil h => exact fun X _ hp => hp
  | sil h1 h2 h3 h4 ih => exact fun X hX hp => ih X hX (hX _ h1 h2 h4.ends.1 hp)
  | hop h1 h2 h3 h4 h5 ih => exact fun X hX hp => ih _ (clS_shut _ _) (clS_in ⟨_, h1, h2, h3, hp, h5.ends.1, rfl⟩)
theorem acc_way (a : NfM) (s : List Nat) : accN a s = true ↔ Way a a.start s a.fin := by
  rw [accN_iff]
  exact ⟨rch_way a s a.fin, fun h => way_rch h _ (clS_shut a _) (clS_in ⟨rfl, h.ends.1⟩)⟩
end Go.Proofs.YtlnmhfhdjnenoaaGreatDoor
/- Typed slices of the call's own: reading, writing, appending. -/
set_option linter.unusedVariables false
set_option linter.unusedSimpArgs false
namespace Go.VC

/-- v is a slice over a block of the call's own (from lo on), or nil; it holds xs. -/
def SlO {α : Type} (T : Ty α) (S : Nat → Prop) (H : Heap) (lo : Nat) (e : TypeId) (v : Value) (xs : List α) : Prop :=
  ∃ cs, Sl H lo e T.size v xs.length cs ∧ T.reps S H cs xs

section
variable {α : Type} {T : Ty α} {S S' : Nat → Prop} {H H' : Heap} {lo : Nat} {e : TypeId} {v : Value} {xs : List α}
theorem SlO.nil : SlO T S H lo e (.slice none 0 0) [] := ⟨[], Sl.nil _ _ _ _, rfl⟩
theorem SlO.agr (h : SlO T S H lo e v xs) (k : Agr S' H H') (hb : ∀ b, slB v b → S' b) (hs : ∀ b, S b → S' b) : SlO T S H' lo e v xs := by
  obtain ⟨cs, h1, h2⟩ := h
  exact ⟨cs, h1.agr k hb, Ty.reps_frame (k.mono hs) h2⟩
theorem SlO.lt (h : SlO T S H lo e v xs) {b : Nat} (hb : slB v b) : lo ≤ b ∧ b < H.size := by
  obtain ⟨cs, h1, _⟩ := h
  exact h1.lt hb
theorem SlO.lower {lo' : Nat} (h : SlO T S H lo e v xs) (hl : lo' ≤ lo) : SlO T S H lo' e v xs := by
  obtain ⟨cs, ⟨h0, h1⟩, h2⟩ := h
  refine ⟨cs, ⟨h0, ?_⟩, h2⟩
  rcases h1 with h1 | ⟨b, cap, l, h3, h4, r⟩
  · exact .inl h1
  · exact .inr ⟨b, cap, l, h3, by omega, r⟩
theorem SlO.len (h : SlO T S H lo e v xs) : xs.length ≤ maxLen := by
  obtain ⟨cs, ⟨h0, h1⟩, h2⟩ := h
  rcases h1 with ⟨_, h1⟩ | ⟨b, cap, l, h3, h4, h5, h6, h7, r⟩
  · omega
  · omega
/-- As a slice that is only read. -/
theorem SlO.view (h : SlO T S H lo e v xs) (hb : ∀ b, slB v b → S' b) (hs : ∀ b, S b → S' b) : ∃ a cap, v = .slice a xs.length cap ∧ SlD T S' H a cap xs ∧ (∀ b, slB v b ↔ a.map (·.block) = some b) := by
  obtain ⟨cs, ⟨h0, h1⟩, h2⟩ := h
  rcases h1 with ⟨rfl, h1⟩ | ⟨b, cap, l, rfl, h4, h5, h6, h7, h8, h9⟩
  · refine ⟨none, 0, by rw [h1], ⟨List.eq_nil_of_length_eq_zero h1, rfl⟩, fun b => ⟨?_, fun h => by cases h⟩⟩
    rintro ⟨o, n, c, h⟩; cases h
  · refine ⟨some ⟨b, 0, none⟩, cap, rfl, SlD.intro (hb b ⟨_, _, _, rfl⟩) h6 h7 (ec := cs) ?_ (Ty.reps_mono hs h2), fun b' => ⟨?_, fun h => ?_⟩⟩
    · refine h5.cells fun j u hu => ?_
      rw [← h9, List.getElem?_take] at hu
      split at hu
      · simpa using hu
      · cases hu
    · rintro ⟨o, n, c, h⟩; cases h; rfl
    · cases h; exact ⟨0, _, _, rfl⟩

theorem reps_set {cs c : List Value} {i : Nat} {x : α} (h : T.reps S H cs xs) (hc : T.rep S H c x) (hi : i < xs.length) : T.reps S H (splice cs (i * T.size) c) (xs.set i x) := by
  induction xs generalizing cs i with
  | nil => simp at hi
  | cons y ys ih =>
    obtain ⟨d, r, rfl, h1, h2⟩ := h
    have hl := T.len h1
    have hlc := T.len hc
    cases i with
    | zero =>
      refine ⟨c, r, ?_, hc, h2⟩
      unfold splice
      simp only [Nat.zero_mul, List.take_zero, List.nil_append, Nat.zero_add]
      rw [hlc, ← hl, List.drop_left]
    | succ i =>
      simp only [List.length_cons] at hi
      refine ⟨d, splice r (i * T.size) c, ?_, h1, ih h2 (by omega)⟩
      have e1 : (i + 1) * T.size = d.length + i * T.size := by rw [hl, Nat.succ_mul]; omega
      unfold splice
      rw [e1, List.take_length_add_append, show d.length + i * T.size + c.length = d.length + (i * T.size + c.length) by omega, List.drop_length_add_append]
      simp [List.append_assoc]

/-- The place of an element, to be written. -/
theorem SlO.place {i : Nat} (h : SlO T S H lo e v xs) (hi : i < xs.length) : ∃ b cap l cs, v = .slice (some ⟨b, 0, none⟩) xs.length cap ∧ lo ≤ b ∧ Blk H b e l ∧ i * T.size + T.size ≤ l.length ∧
    (∀ x, xs[i]? = some x → ∃ c, Cells H b (i * T.size) c ∧ T.rep S H c x) ∧ T.reps S H cs xs ∧
    ∀ (H' : Heap) (c : List Value) (x : α), Blk H' b e (splice l (i * T.size) c) → Agr S H H' → T.rep S H' c x → SlO T S H' lo e v (xs.set i x) := by
  obtain ⟨cs, ⟨h0, h1⟩, h2⟩ := h
  rcases h1 with ⟨rfl, h1⟩ | ⟨b, cap, l, rfl, h4, h5, h6, h7, h8, h9⟩
  · omega
  · have hle : i * T.size + T.size ≤ xs.length * T.size := by rw [← Nat.succ_mul]; exact Nat.mul_le_mul_right _ hi
    have hle2 : xs.length * T.size ≤ l.length := by rw [h8]; exact Nat.mul_le_mul_right _ h6
    refine ⟨b, cap, l, cs, rfl, h4, h5, by omega, ?_, h2, ?_⟩
    · intro x hx
      obtain ⟨l', c, r, rfl, hl', hc⟩ := Ty.reps_get h2 hx
      refine ⟨c, ?_, hc⟩
      rw [← hl']
      have hcs : Cells H b 0 (l' ++ c ++ r) := h5.cells fun j u hu => by
        rw [← h9, List.getElem?_take] at hu
        split at hu
        · simpa using hu
        · cases hu
      have := hcs.mid
      simpa using this
    intro H' c x hb' hagr hc
    have hlc := T.len hc
    refine ⟨splice cs (i * T.size) c, ⟨?_, .inr ⟨b, cap, _, by rw [List.length_set], h4, hb', by rw [List.length_set]; exact h6, h7, ?_, ?_⟩⟩, reps_set (Ty.reps_frame hagr h2) hc hi⟩
    · rw [splice_length (by rw [hlc, h0]; exact hle), h0, List.length_set]
    · rw [splice_length (by rw [hlc]; omega), h8]
    · rw [List.length_set]
      apply List.ext_getElem?
      intro j
      rw [List.getElem?_take]
      by_cases hj : j < xs.length * T.size
      · rw [if_pos hj, splice_get (by rw [hlc]; omega), splice_get (by rw [hlc, h0]; exact hle)]
        split
        · rfl
        · rw [← h9, List.getElem?_take, if_pos hj]
      · rw [if_neg hj, List.getElem?_eq_none]
        rw [splice_length (by rw [hlc, h0]; exact hle), h0]; omega
end

/-- append, typed: what is appended lies at (q, o). -/
theorem vappendO {α : Type} {T : Ty α} {P : Program} {t ty e by_ : Nat} {z : Value} {S : Nat → Prop} {H : Heap} {K : Value → Heap → Prop} (ht : SlT P t e T.size by_ z) {lo q o m cap : Nat} {v : Value} {xs ys : List α} {ds : List Value}
    (hs : SlO T S H lo e v xs) (hlo : lo ≤ H.size) (hS : ∀ k, S k → k < H.size ∧ ¬ slB v k) (hd : Cells H q o ds) (hy : T.reps S H ds ys) (hm : m = ys.length) (h1 : ∀ u ∈ ds, u.oneCell' = true)
    (h63 : xs.length + ys.length ≤ maxLen) (hby : (xs.length + ys.length) * by_ ≤ 140737488355328)
    (h : ∀ v' H', SlO T S H' lo e v' (xs ++ ys) → Agr (fun k => k < H.size ∧ ¬ slB v k) H H' → H.size ≤ H'.size → (∀ k, slB v' k → slB v k ∨ H.size ≤ k) → K v' H') :
    VEff P (Builtin.append_ #[t, t] ty [v, .slice (some ⟨q, o, none⟩) m cap].toArray) H K := by
  obtain ⟨cs, hsl, hr⟩ := hs
  subst hm
  refine vappend (m := ys.length) (news := ds) ht hsl hlo (fun w hw => ?_) h63 hby ?_
  · refine Src.ofSlice w ht.under ⟨q, o, none⟩ ys.length cap ds (Ty.reps_len hy) (fun j u hu => ?_) h1
    rw [Addr.add_mid]
    subst hw
    have := hd j u hu
    rw [cell_w]; exact this
  · intro v' H' hsl' hagr hsz hbb
    refine h v' H' ⟨_, by rw [List.length_append]; exact hsl', Ty.reps_append (Ty.reps_frame (hagr.mono hS) hr) (Ty.reps_frame (hagr.mono hS) hy)⟩ hagr hsz hbb

theorem foldl_splice : ∀ (vs : List Value) (k : Nat) (cells : Array Value) (off : Nat), off + k + vs.length ≤ cells.size →
    (vs.zipIdx k).foldl (fun cs (x : Value × Nat) => cs.setIfInBounds (off + x.2) x.1) cells = (splice cells.toList (off + k) vs).toArray
  | [], k, cells, off, _ => by apply Array.ext'; simp [splice]
  | v :: vs, k, cells, off, h => by
    simp only [List.length_cons] at h
    rw [List.zipIdx_cons, List.foldl_cons, foldl_splice vs (k + 1) _ off (by simp; omega)]
    apply congrArg
    apply List.ext_getElem?
    intro j
    rw [splice_get (by simp; omega), splice_get (by simp; omega)]
    simp only [Array.toList_setIfInBounds, List.length_cons]
    by_cases h1 : off + (k + 1) ≤ j ∧ j < off + (k + 1) + vs.length
    · rw [if_pos h1, if_pos (by omega), show j - (off + k) = (j - (off + (k + 1))) + 1 by omega, List.getElem?_cons_succ]
    · rw [if_neg h1]
      by_cases h2 : j = off + k
      · subst h2
        rw [if_pos (by omega), Nat.sub_self, List.getElem?_cons_zero, List.getElem?_set_self (by simp; omega)]
      · rw [if_neg (by omega), List.getElem?_set, if_neg (fun h3 => h2 h3.symm)]
theorem fill_cons {place : Nat → Option (Nat × Nat)} {cells : Array Value} {i : Nat} {v : Value} {rest : List (Nat × Value)} {off size : Nat} (hp : place i = some (off, size)) (h1 : v.cells.size = size) (h2 : off + size ≤ cells.size) :
    Instr.fill place cells ((i, v) :: rest) = Instr.fill place (splice cells.toList off v.cells.toList).toArray rest := by
  have h3 : ¬ (v.cells.size ≠ size ∨ off + v.cells.size > cells.size) := by omega
  have h4 := foldl_splice v.cells.toList 0 cells off (by simp; omega)
  simp only [Nat.add_zero] at h4
  rw [Instr.fill, hp]
  simp only [Bool.or_eq_true, decide_eq_true_eq, h3, if_false]
  congr 1
  rw [← h4, ← Array.foldl_toList, Array.toList_zipIdx]
/-- A slice of one element. -/
theorem vbuild1 {P : Program} {t e : TypeId} {sz by_ : Nat} {z v : Value} {H : Heap} {K : Value → Heap → Prop} (ht : SlT P t e sz by_ z) (l : List Value) (hv : v.cells = l.toArray) (hl : l.length = sz) (h0 : 0 < sz) (h1 : sz ≤ 16777216)
    (h : New H (fun b H' => K (.slice (some ⟨b, 0, none⟩) 1 1) H') e l) : VEff P (Instr.buildSlice t 1 [(0, v)].toArray) H K := by
  refine vbuild ht l (by omega) (by omega) ?_ h
  rw [show ([(0, v)].toArray).toList = (0, v) :: [] from rfl, fill_cons (off := 0) (size := sz) (by simp) (by rw [hv]; simpa using hl) (by simp)]
  rw [Instr.fill, hv]
  congr 1
  apply Array.ext'
  simp only [splice]
  simp [hl]

end Go.VC

/- Tables of slices of the call's own; cutting slices. -/
set_option linter.unusedVariables false
set_option linter.unusedSimpArgs false
namespace Go.VC

/-- Block nb holds slices of the call's own, over blocks apart from one another. -/
structure Tab {α : Type} (T : Ty α) (S : Nat → Prop) (H : Heap) (lo : Nat) (e : TypeId) (nb : Nat) (te : TypeId) (vs : List Value) (xs : List (List α)) : Prop where
  len : vs.length = xs.length
  blk : Blk H nb te vs
  nlo : nb < lo
  own : ∀ (i : Nat) (v : Value) (x : List α), vs[i]? = some v → xs[i]? = some x → SlO T S H lo e v x
  apart : ∀ (i j : Nat) (v w : Value) (k : Nat), i ≠ j → vs[i]? = some v → vs[j]? = some w → slB v k → ¬ slB w k

section
variable {α : Type} {T : Ty α} {S S' : Nat → Prop} {H H1 H2 : Heap} {lo nb : Nat} {e te : TypeId} {vs : List Value} {xs : List (List α)}
end

/-! ### cutting -/
theorem vcutH {P : Program} {t e sz by_ : Nat} {z : Value} {a : Option Addr} {n cap : Nat} {k : IntKind} {h : Int} {S : Nat → Prop} {H : Heap} {K : Value → Prop} (ht : SlT P t e sz by_ z) (h0 : 0 ≤ h) (h1 : h ≤ cap)
    (hk : K (.slice a h.toNat cap)) : VDet P (Instr.sliceAt t (.slice a n cap) none (some (.int k h)) none) S H K := by
  obtain ⟨inf, hi, hs, _, _⟩ := ht.info
  refine VDet.mk _ (fun w _ => ?_) hk
  have e1 : (a.map fun x => x.add 0) = a := by cases a <;> rfl
  simp [Instr.sliceAt, Instr.slice, run_underlying ht.under, Instr.sliceBounds, Instr.sliceBound, asIntOf, h0, h1, sizeOf, typeInfo, hi, e1]
theorem SlO.pop {α : Type} {T : Ty α} {S : Nat → Prop} {H : Heap} {lo n cap : Nat} {e : TypeId} {a : Option Addr} {xs : List α} {x : α} (h : SlO T S H lo e (.slice a n cap) (xs ++ [x])) : SlO T S H lo e (.slice a xs.length cap) xs := by
  obtain ⟨cs, ⟨h0, h1⟩, h2⟩ := h
  have split : ∀ (xs : List α) (cs : List Value), T.reps S H cs (xs ++ [x]) → T.reps S H (cs.take (xs.length * T.size)) xs := by
    intro xs
    induction xs with
    | nil => intro cs _; simp [Ty.reps]
    | cons y ys ih =>
      rintro cs ⟨c, r, rfl, hc, hr⟩
      refine ⟨c, r.take (ys.length * T.size), ?_, hc, ih r hr⟩
      have := T.len hc
      rw [List.length_cons, Nat.succ_mul, Nat.add_comm, ← this, List.take_length_add_append]
  rcases h1 with ⟨h1, h3⟩ | ⟨b, cap', l, h1, h4, h5, h6, h7, h8, h9⟩
  · simp at h3
  · cases h1
    simp only [List.length_append, List.length_singleton] at h6 h9 h0
    refine ⟨cs.take (xs.length * T.size), ⟨?_, .inr ⟨b, cap, l, rfl, h4, h5, by omega, h7, h8, ?_⟩⟩, split xs cs h2⟩
    · rw [List.length_take, h0, Nat.min_eq_left (Nat.mul_le_mul_right _ (by omega))]
    · rw [← h9, List.take_take, Nat.min_eq_left (Nat.mul_le_mul_right _ (by omega))]

end Go.VC

/- Appending one slice's elements to another. -/
set_option linter.unusedVariables false
set_option linter.unusedSimpArgs false
namespace Go.VC
end Go.VC

/- Comparing with nil, bools; texts' bytes. -/
set_option linter.unusedVariables false
set_option linter.unusedSimpArgs false
namespace Go.VC
section
variable {P : Program} {t e : TypeId} {x y : Operand} {S : Nat → Prop} {H : Heap} {K : Value → Prop} {p : Option Addr}
theorem run_bool_eq (h : P.underlying t = some .bool) (a b : Bool) (w : World) : (Op.equal t (.bool a) (.bool b)).run P w = .ok (a == b) w := by
  have : ∀ d : Nat, (Op.equalIn (d + 1) t (.bool a) (.bool b)).run P w = .ok (a == b) w := fun d => by simp [Op.equalIn, run_underlying h]
  exact this 9999
theorem beq_b {a b : Bool} (h : P.underlying t = some .bool) (k : K (.bool (a == b))) : VDet P (do eqGuard .eql t x y (.bool a) (.bool b); binOp .eql t (.bool a) (.bool b)) S H K := by
  refine VDet.mk _ (fun w _ => ?_) k
  simp [eqGuard, binOp, run_bool_eq h]
theorem bneq_b {a b : Bool} (h : P.underlying t = some .bool) (k : K (.bool (!(a == b)))) : VDet P (do eqGuard .neq t x y (.bool a) (.bool b); binOp .neq t (.bool a) (.bool b)) S H K := by
  refine VDet.mk _ (fun w _ => ?_) k
  simp [eqGuard, binOp, run_bool_eq h]
end

/-- A text's byte. -/
theorem vidxs {P : Program} {t : TypeId} {S : Nat → Prop} {H : Heap} {K : Value → Prop} {s : ByteArray} {k : IntKind} {i : Nat} {j : Int} {b : UInt8} (h : P.underlying t = some .string) (hj : j = (i : Int)) (hb : s.data[i]? = some b)
    (hk : K (.int .u8 (b.toNat : Int))) : VDet P (Instr.index t (.string s) (.int k j)) S H K := by
  subst hj
  have hb' : s[i]? = some b := by
    obtain ⟨h1, h2⟩ := Array.getElem?_eq_some_iff.1 hb
    have h3 : i < s.size := h1
    rw [getElem?_pos s i h3]
    exact congrArg some h2
  refine VDet.mk _ (fun w _ => ?_) hk
  simp [Instr.index, asIntOf, run_underlying h, hb']

end Go.VC

/- Small helps: empty slices, rows that are made, texts put together and cut. -/
set_option linter.unusedVariables false
set_option linter.unusedSimpArgs false
namespace Go.VC
section
variable {P : Program} {t e : TypeId} {x y : Operand} {S : Nat → Prop} {H : Heap}
theorem SlO.ofBlk {α : Type} {T : Ty α} {lo b n : Nat} {l : List Value} {xs : List α} (hlo : lo ≤ b) (hb : Blk H b e l) (hr : T.reps S H l xs) (hn : n = xs.length) (hm : n ≤ maxLen) : SlO T S H lo e (.slice (some ⟨b, 0, none⟩) n n) xs := by
  subst hn
  have hl := Ty.reps_len hr
  refine ⟨l, ?_, hr⟩
  have := Sl.made (sz := T.size) (n := xs.length) (cap := xs.length) hlo hb (Nat.le_refl _) hm hl
  rwa [← hl, List.take_length] at this
theorem reps_replicate {α : Type} {T : Ty α} {c : List Value} {v : α} (h : T.rep S H c v) : ∀ n, T.reps S H (List.replicate n c).flatten (List.replicate n v)
  | 0 => rfl
  | n + 1 => ⟨c, _, rfl, h, reps_replicate h n⟩
theorem made_flat (z : Array Value) (n : Nat) : (List.range (n * z.size)).map (z[· % z.size]!) = (List.replicate n z.toList).flatten := by
  induction n with
  | zero => simp
  | succ n ih =>
    rw [Nat.succ_mul, List.range_add, List.map_append, ih, List.replicate_succ', List.flatten_append]
    congr 1
    simp only [List.flatten_cons, List.flatten_nil, List.append_nil, List.map_map]
    apply List.ext_getElem?
    intro i
    by_cases hi : i < z.size
    · rw [List.getElem?_map, List.getElem?_range hi]
      simp only [Option.map_some, Function.comp, Array.getElem?_toList]
      have : (n * z.size + i) % z.size = i := by rw [Nat.mul_comm, Nat.mul_add_mod]; exact Nat.mod_eq_of_lt hi
      rw [this, getElem!_pos z i hi, getElem?_pos z i hi]
    · rw [List.getElem?_eq_none (by simp; omega), List.getElem?_eq_none (by simp; omega)]
theorem vmakeT {α : Type} {T : Ty α} {by_ : Nat} {z : Value} {kl kc : IntKind} {l c : Int} {v : α} {K : Value → Heap → Prop} (ht : SlT P t e T.size by_ z) (hv : T.rep S H z.cells.toList v) (h0 : 0 ≤ l) (hlc : l = c) (hb : (by_ : Int) * c ≤ 281474976710656) (h63 : c ≤ 9223372036854775807)
    (h : New H (fun b H' => K (.slice (some ⟨b, 0, none⟩) c.toNat c.toNat) H') e (List.replicate c.toNat z.cells.toList).flatten) : VEff P (Instr.makeSlice t (.int kl l) (.int kc c)) H K := by
  subst hlc
  refine vmake ht h0 (Int.le_refl _) hb h63 ?_
  rw [← ht.zsz, made_flat]
  exact h
/-- The place of an element, to be written, where the slice is known. -/
theorem SlO.placeS {α : Type} {T : Ty α} {lo b o n cap i : Nat} {xs : List α} (h : SlO T S H lo e (.slice (some ⟨b, o, none⟩) n cap) xs) (hi : i < xs.length) : n = xs.length ∧ o = 0 ∧ lo ≤ b ∧ ∃ l, Blk H b e l ∧ i * T.size + T.size ≤ l.length ∧
    (∀ x, xs[i]? = some x → ∃ c, Cells H b (i * T.size) c ∧ T.rep S H c x) ∧
    ∀ (H' : Heap) (c : List Value) (x : α), Blk H' b e (splice l (i * T.size) c) → Agr S H H' → T.rep S H' c x → SlO T S H' lo e (.slice (some ⟨b, o, none⟩) n cap) (xs.set i x) := by
  obtain ⟨b', cap', l, cs, e1, h1, h2, h3, h4, h5, h6⟩ := h.place hi
  have e2 := e1
  injection e1 with e3 e4 e5
  injection e3 with e3
  injection e3 with e6 e7 e8
  subst e6; subst e7; subst e4; subst e5
  exact ⟨rfl, rfl, h1, l, h2, h3, h4, h6⟩

/-! ### whole division -/
/-! ### a cut behind a region whose order is open -/
theorem VDraw.cut {l : List Oper} {fr : Fr} {K : Fr → Heap → Prop} {α : Type} (ts : List Nat) (enc : α → List Value) (I : α → Heap → Prop)
    (h : VDraw P l fr H (fun fr' H' => keptK (wsOps l []) fr fr' (rdsK fr' ts fun vs => ∃ y, vs = enc y ∧ I y H')))
    (k : ∀ (z : α) (H1 : Heap) (junk : Nat → Value), I z H1 → havocK junk fr (wsOps l []) fun fr0 => wrsK fr0 ts (enc z) fun fr1 => K fr1 H1) : VDraw P l fr H K := by
  generalize wsOps l [] = ws at h k
  have h := h.out_
  refine ⟨?_⟩
  intro id Q a w hat hw hp hq
  refine h id Q a w hat hw hp fun fr' a' w' hat' henv h3 => hq fr' a' w' hat' henv ?_
  simp only [keptK, havocK_eq, rdsK_eq] at h3
  obtain ⟨hk, z, hz, hi⟩ := h3
  have h := k z w'.heap (rd fr') hi
  rw [havocK_eq, wrsK_eq, havoc_of_blank hk, ← hz, wrs_self ts fr'] at h
  exact h

/-! ### texts -/
theorem vcutS {s : ByteArray} {k k' : IntKind} {l h : Int} {K : Value → Prop} (ht : P.underlying t = some .string) (h0 : 0 ≤ l) (h1 : l ≤ h) (h2 : h ≤ s.size) (hk : K (.string (s.extract l.toNat h.toNat))) :
    VDet P (Instr.sliceAt t (.string s) (some (.int k l)) (some (.int k' h)) none) S H K := by
  refine VDet.mk _ (fun w _ => ?_) hk
  have h3 : 0 ≤ h := by omega
  have h4 : l ≤ max h 0 := by omega
  simp [Instr.sliceAt, Instr.slice, run_underlying ht, Instr.sliceBounds, Instr.sliceBound, asIntOf, h0, h1, h2, h3, h4]
end

/-! ### lists that are filled from the front -/
theorem splice_one {l : List Value} {o : Nat} {v : Value} (h : o < l.length) : splice l o [v] = l.set o v := by
  apply List.ext_getElem?
  intro j
  rw [splice_get (by simp; omega), List.getElem?_set]
  simp only [List.length_singleton]
  by_cases hj : o = j
  · subst hj; simp [h]
  · rw [if_neg (by omega), if_neg hj]

end Go.VC

/- The memory of a call as1 a list of pieces apart from one another: making, writing, appending, with all other pieces kept. -/
set_option linter.unusedVariables false
set_option linter.unusedSimpArgs false
namespace Go.VC

/-- A piece of memory: its blocks, and what they hold. -/
structure Pc where
  foot : Nat → Prop
  ok : Heap → Prop
  fr : ∀ {H H' : Heap}, Agr foot H H' → ok H → ok H'
def Dis (p q : Pc) : Prop := ∀ k, p.foot k → ¬ q.foot k
/-- The blocks of B are as1 they were at H0; beside them there are these pieces, apart from one another. -/
structure StB (B : Nat → Prop) (H0 H : Heap) (ps : List Pc) : Prop where
  old : Agr B H0 H
  lt0 : ∀ k, B k → k < H0.size
  size : H0.size ≤ H.size
  oks : ∀ p ∈ ps, p.ok H
  rng : ∀ p ∈ ps, ∀ k, p.foot k → ¬ B k ∧ k < H.size
  dis : ps.Pairwise Dis
/-- What was there at H0 is as1 it was. -/
abbrev St (H0 H : Heap) (ps : List Pc) : Prop := StB (Old H0) H0 H ps
section
variable {B : Nat → Prop} {H0 H H' : Heap} {ps : List Pc} {p q : Pc}
theorem St.nil (H : Heap) : St H H [] := ⟨Agr.refl _ _, fun _ h => h, Nat.le_refl _, (fun _ h => by cases h), (fun _ h => by cases h), List.Pairwise.nil⟩
theorem StB.up (st : StB B H0 H ps) {k : Nat} (hk : B k) : k < H.size := Nat.lt_of_lt_of_le (st.lt0 k hk) st.size
theorem StB.call (st : StB B H0 H ps) (h : Agr (Old H) H H') : StB B H0 H' ps :=
  ⟨st.old.trans (h.mono fun k hk => st.up hk), st.lt0, Nat.le_trans st.size (old_size h), fun p hp => p.fr (h.mono fun k hk => (st.rng p hp k hk).2) (st.oks p hp),
    fun p hp k hk => ⟨(st.rng p hp k hk).1, old_lt h (st.rng p hp k hk).2⟩, st.dis⟩
theorem StB.at_ (st : StB B H0 H ps) (i : Nat) (hp : ps[i]? = some p) : p.ok H := st.oks p (List.mem_of_getElem? hp)
theorem StB.in_ (st : StB B H0 H ps) (i : Nat) (hp : ps[i]? = some p) {k : Nat} (hk : p.foot k) : ¬ B k ∧ k < H.size := st.rng p (List.mem_of_getElem? hp) k hk
/-- One piece more. -/
theorem StB.add (st : StB B H0 H ps) (h : Agr (Old H) H H') (p : Pc) (hp : p.ok H') (hf : ∀ k, p.foot k → H.size ≤ k ∧ k < H'.size) : StB B H0 H' (ps ++ [p]) := by
  have st' := st.call h
  refine ⟨st'.old, st.lt0, st'.size, fun q hq => ?_, fun q hq k hk => ?_, List.pairwise_append.2 ⟨st.dis, List.pairwise_singleton _ _, fun a ha b hb => ?_⟩⟩
  · rcases List.mem_append.1 hq with hq | hq
    · exact st'.oks q hq
    · rw [List.mem_singleton] at hq; subst hq; exact hp
  · rcases List.mem_append.1 hq with hq | hq
    · exact st'.rng q hq k hk
    · rw [List.mem_singleton] at hq; subst hq
      exact ⟨fun hB => by have := st.up hB; have := hf k hk; omega, (hf k hk).2⟩
  · rw [List.mem_singleton] at hb; subst hb
    intro k hk hk'
    have := (st.rng a ha k hk).2; have := (hf k hk').1; omega
/-- One piece turned, all others kept. -/
theorem StB.upd (st : StB B H0 H ps) (i : Nat) (hp : ps[i]? = some p) (h : Agr (fun k => k < H.size ∧ ¬ p.foot k) H H') (q : Pc) (hq : q.ok H') (hf : ∀ k, q.foot k → p.foot k ∨ H.size ≤ k) (hl : ∀ k, q.foot k → k < H'.size) (hs : H.size ≤ H'.size) : StB B H0 H' (ps.set i q) := by
  have hi := (List.getElem?_eq_some_iff.1 hp).1
  have hpi := List.mem_of_getElem? hp
  have key : ∀ (j : Nat) (r : Pc), ps[j]? = some r → j ≠ i → Dis r p := by
    intro j r hr hj k hk hk'
    have hjl := (List.getElem?_eq_some_iff.1 hr).1
    have e1 := (List.getElem?_eq_some_iff.1 hr).2
    have e2 := (List.getElem?_eq_some_iff.1 hp).2
    rcases Nat.lt_or_gt_of_ne hj with hji | hji
    · exact List.pairwise_iff_getElem.1 st.dis j i hjl hi hji k (by rw [e1]; exact hk) (by rw [e2]; exact hk')
    · exact List.pairwise_iff_getElem.1 st.dis i j hi hjl hji k (by rw [e2]; exact hk') (by rw [e1]; exact hk)
  have mem : ∀ r, r ∈ ps.set i q → r = q ∨ ∃ j, j ≠ i ∧ ps[j]? = some r := by
    intro r hr
    obtain ⟨j, hj⟩ := List.getElem?_of_mem hr
    by_cases hji : i = j
    · subst hji
      rw [List.getElem?_set_self hi] at hj
      cases hj; exact .inl rfl
    · rw [List.getElem?_set_ne hji] at hj
      exact .inr ⟨j, Ne.symm hji, hj⟩
  refine ⟨st.old.trans (h.mono fun k hk => ⟨st.up hk, fun hb => (st.rng p hpi k hb).1 hk⟩), st.lt0, Nat.le_trans st.size hs, fun r hr => ?_, fun r hr k hk => ?_, ?_⟩
  · rcases mem r hr with rfl | ⟨j, hj, hr⟩
    · exact hq
    · exact r.fr (h.mono fun k hk => ⟨(st.rng r (List.mem_of_getElem? hr) k hk).2, fun hb => key j r hr hj k hk hb⟩) (st.oks r (List.mem_of_getElem? hr))
  · rcases mem r hr with rfl | ⟨j, hj, hr⟩
    · refine ⟨?_, hl k hk⟩
      rcases hf k hk with h1 | h1
      · exact (st.rng p hpi k h1).1
      · exact fun hB => by have := st.up hB; omega
    · have := st.rng r (List.mem_of_getElem? hr) k hk
      exact ⟨this.1, by omega⟩
  · have old : ∀ (j : Nat) (r : Pc), ps[j]? = some r → j ≠ i → Dis r q := by
      intro j r hr hj k hk hk'
      rcases hf k hk' with h1 | h1
      · exact key j r hr hj k hk h1
      · have := (st.rng r (List.mem_of_getElem? hr) k hk).2; omega
    rw [List.pairwise_iff_getElem]
    intro a b ha hb hab
    simp only [List.length_set] at ha hb
    rw [List.getElem_set, List.getElem_set]
    by_cases h1 : i = a
    · subst h1
      rw [if_pos rfl, if_neg (by omega)]
      exact fun k hk hk' => old b _ (List.getElem?_eq_getElem hb) (by omega) k hk' hk
    · rw [if_neg h1]
      by_cases h2 : i = b
      · subst h2
        rw [if_pos rfl]
        exact old a _ (List.getElem?_eq_getElem ha) (by omega)
      · rw [if_neg h2]
        exact List.pairwise_iff_getElem.1 st.dis a b ha hb hab
/-- Some of the pieces, in another order. -/
theorem StB.pick (st : StB B H0 H ps) (is : List Nat) (hn : is.Nodup) : StB B H0 H (is.filterMap fun i => ps[i]?) := by
  have hm : ∀ r, r ∈ is.filterMap (fun i => ps[i]?) → r ∈ ps := fun r hr => by
    obtain ⟨i, _, hi⟩ := List.mem_filterMap.1 hr
    exact List.mem_of_getElem? hi
  refine ⟨st.old, st.lt0, st.size, fun r hr => st.oks r (hm r hr), fun r hr => st.rng r (hm r hr), ?_⟩
  rw [List.pairwise_filterMap]
  refine hn.imp ?_
  intro i j hij a ha b hb k hk hk'
  have hil := (List.getElem?_eq_some_iff.1 ha).1
  have hjl := (List.getElem?_eq_some_iff.1 hb).1
  have e1 := (List.getElem?_eq_some_iff.1 ha).2
  have e2 := (List.getElem?_eq_some_iff.1 hb).2
  rcases Nat.lt_or_gt_of_ne hij with h | h
  · exact List.pairwise_iff_getElem.1 st.dis i j hil hjl h k (by rw [e1]; exact hk) (by rw [e2]; exact hk')
  · exact List.pairwise_iff_getElem.1 st.dis j i hjl hil h k (by rw [e2]; exact hk') (by rw [e1]; exact hk)
/-- A piece said otherwise. -/
theorem StB.say (st : StB B H0 H ps) (i : Nat) (hp : ps[i]? = some p) (q : Pc) (hq : q.ok H) (hf : ∀ k, q.foot k → p.foot k) : StB B H0 H (ps.set i q) :=
  st.upd i hp (Agr.refl _ _) q hq (fun k hk => .inl (hf k hk)) (fun k hk => (st.in_ i hp (hf k hk)).2) (Nat.le_refl _)
theorem St.ge (st : St H0 H ps) (i : Nat) (hp : ps[i]? = some p) {k : Nat} (hk : p.foot k) : H0.size ≤ k := by
  have := (st.in_ i hp hk).1
  unfold Old at this
  omega
end

/-! ### blocks -/
/-- A block of values. -/
def pB (e : TypeId) (b : Nat) (l : List Value) : Pc := ⟨fun k => k = b, fun H => Blk H b e l, fun h hp => hp.agr h rfl⟩
section
variable {B : Nat → Prop} {H0 H H' : Heap} {ps : List Pc} {e : TypeId} {b : Nat} {l : List Value}
theorem StB.box (st : StB B H0 H ps) (hb : b = H.size) (hs : H'.size = b + 1) (hk : Blk H' b e l) (ha : Agr (fun k => k < b) H H') : StB B H0 H' (ps ++ [pB e b l]) := by
  subst hb
  exact st.add (ha.mono fun k hk => hk) _ hk fun k hk => by have : k = H.size := hk; omega
/-- A block that nobody asks for. -/
theorem StB.skip (st : StB B H0 H ps) (hb : b = H.size) (ha : Agr (fun k => k < b) H H') : StB B H0 H' ps := by
  subst hb
  exact st.call (ha.mono fun k hk => hk)
theorem StB.blk (st : StB B H0 H ps) (i : Nat) (hp : ps[i]? = some (pB e b l)) : Blk H b e l := st.at_ i hp
theorem st1B {P : Program} {t o : Nat} {v : Value} {K : Heap → Prop} (st : StB B H0 H ps) (i : Nat) (ht : CellT P t) (hp : ps[i]? = some (pB e b l)) (ho : o < l.length) (hv : v.oneCell' = true)
    (k : ∀ H', StB B H0 H' (ps.set i (pB e b (l.set o v))) → K H') : VEffU P (Instr.storeAt t (.pointer (some ⟨b, o, none⟩)) v) H K := by
  refine VC.st1 ht (st.at_ i hp) ho hv ?_
  intro H' hb' ha' hs'
  exact k H' (st.upd i hp (ha'.mono fun k hk hkb => hk.2 hkb) _ hb' (fun k hk => .inl hk) (fun k hk => by rw [hs']; exact (st.in_ i hp hk).2) (by omega))
theorem stNB {P : Program} {t o : Nat} {cs : List Value} {K : Heap → Prop} (st : StB B H0 H ps) (i : Nat) (ht : (P.info? t).map (·.size) = some cs.length) (hp : ps[i]? = some (pB e b l)) (ho : o + cs.length ≤ l.length) (hv : cs.all (·.oneCell') = true)
    (k : ∀ H', StB B H0 H' (ps.set i (pB e b (splice l o cs))) → K H') : VEffU P (Instr.storeAt t (.pointer (some ⟨b, o, none⟩)) (.agg cs.toArray)) H K := by
  refine VC.stN ht (st.at_ i hp) ho hv ?_
  intro H' hb' ha' hs'
  exact k H' (st.upd i hp (ha'.mono fun k hk hkb => hk.2 hkb) _ hb' (fun k hk => .inl hk) (fun k hk => by rw [hs']; exact (st.in_ i hp hk).2) (by omega))
end

/-! ### slices -/
section
variable {α : Type}
/-- A slice of the call's own whose data lie in S. -/
def pN (T : Ty α) (S : Nat → Prop) (e : TypeId) (a : Option Addr) (n cap : Nat) (xs : List α) : Pc where
  foot k := slB (.slice a n cap) k ∨ S k
  ok H := SlO T S H 0 e (.slice a n cap) xs ∧ ∀ k, S k → ¬ slB (.slice a n cap) k
  fr h hp := ⟨hp.1.agr h (fun _ hb => .inl hb) (fun _ hb => .inr hb), hp.2⟩
def none_ (_ : Nat) : Prop := False
/-- A slice of the call's own, of data without addresses. -/
abbrev pS (T : Ty α) (e : TypeId) (a : Option Addr) (n cap : Nat) (xs : List α) : Pc := pN T none_ e a n cap xs
variable {T : Ty α} {S : Nat → Prop} {e : TypeId} {a : Option Addr} {n cap : Nat} {xs : List α} {B : Nat → Prop} {H0 H H' : Heap} {ps : List Pc}
theorem SlO.hull {lo : Nat} {v : Value} (h : SlO T S H lo e v xs) : ∃ a cap, v = .slice a xs.length cap := by
  obtain ⟨cs, ⟨h0, h1⟩, h2⟩ := h
  rcases h1 with ⟨rfl, h1⟩ | ⟨b, cap, l, rfl, h4, h5, h6, h7, h8, h9⟩
  · exact ⟨none, 0, by rw [h1]⟩
  · exact ⟨_, _, rfl⟩
theorem SlO.nlen {lo : Nat} (h : SlO T S H lo e (.slice a n cap) xs) : n = xs.length := by
  obtain ⟨a', cap', e⟩ := h.hull
  injection e
theorem SlO.up {lo : Nat} {v : Value} (h : SlO T S H 0 e v xs) (hl : ∀ b, slB v b → lo ≤ b) : SlO T S H lo e v xs := by
  obtain ⟨cs, ⟨h0, h1⟩, h2⟩ := h
  refine ⟨cs, ⟨h0, ?_⟩, h2⟩
  rcases h1 with h1 | ⟨b, cap, l, rfl, r⟩
  · exact .inl h1
  · exact .inr ⟨b, cap, l, rfl, hl b ⟨_, _, _, rfl⟩, r.2⟩
/-- The slice, from H0 on. -/
theorem St.own (st : St H0 H ps) (i : Nat) (hp : ps[i]? = some (pN T S e a n cap xs)) : SlO T S H H0.size e (.slice a n cap) xs :=
  (st.at_ i hp).1.up fun b hb => st.ge i hp (.inl hb)
theorem StB.len (st : StB B H0 H ps) (i : Nat) (hp : ps[i]? = some (pN T S e a n cap xs)) : n = xs.length := (st.at_ i hp).1.nlen
theorem StB.max (st : StB B H0 H ps) (i : Nat) (hp : ps[i]? = some (pN T S e a n cap xs)) : xs.length ≤ maxLen := (st.at_ i hp).1.len
/-- Its address, where it isn't empty. -/
theorem StB.adr (st : StB B H0 H ps) (i : Nat) (hp : ps[i]? = some (pN T S e a n cap xs)) (hn : 0 < xs.length) : ∃ b, a = some ⟨b, 0, none⟩ := by
  obtain ⟨cs, ⟨h0, h1⟩, h2⟩ := (st.at_ i hp).1
  rcases h1 with ⟨h1, h3⟩ | ⟨b, cap, l, h1, r⟩
  · omega
  · injection h1 with h1
    exact ⟨b, h1⟩
/-- To be read only. -/
theorem StB.view (st : StB B H0 H ps) (i : Nat) (hp : ps[i]? = some (pN T S e a n cap xs)) : SlD T (Old H) H a cap xs := by
  obtain ⟨a', cap', e1, h, -⟩ := (st.at_ i hp).1.view (S' := Old H) (fun b hb => (st.in_ i hp (.inl hb)).2) (fun b hb => (st.in_ i hp (.inr hb)).2)
  injection e1 with e1 e2 e3
  subst e1; subst e3; exact h
/-- The address of an element, to be read. -/
theorem ixO {P : Program} {t by_ j : Nat} {z : Value} {k : IntKind} {x : α} {ji : Int} {S0 : Nat → Prop} {H2 : Heap} {K : Value → Prop} (ht : SlT P t e T.size by_ z) (st : StB B H0 H ps) (i : Nat) (hp : ps[i]? = some (pN T S e a n cap xs))
    (hx : xs[j]? = some x) (hj : ji = (j : Int)) (hk : ∀ b o c, Old H b → Cells H b o c → T.rep (Old H) H c x → K (.pointer (some ⟨b, o, none⟩))) : VDet P (Instr.indexAt t (.slice a n cap) (.int k ji)) S0 H2 K := by
  have h := st.view i hp
  have hn := st.len i hp
  obtain ⟨b, o, c, rfl, h1, h2, h3⟩ := h.get hx
  subst hj
  have hi := (List.getElem?_eq_some_iff.1 hx).1
  exact ix ht (by omega) (by omega) (by simpa using hk b _ c h1 h2 h3)
/-- A value of one cell is written into the i-th piece at place j. -/
theorem st1O {P : Program} {t b o j : Nat} {v : Value} {x : α} {K : Heap → Prop} (st : StB B H0 H ps) (i : Nat) (ht : CellT P t) (hp : ps[i]? = some (pN T S t (some ⟨b, 0, none⟩) n cap xs)) (hsz : T.size = 1) (ho : o = j) (hj : j < xs.length)
    (hv : v.oneCell' = true) (hr : ∀ H', Agr S H H' → T.rep S H' [v] x) (k : ∀ H', StB B H0 H' (ps.set i (pN T S t (some ⟨b, 0, none⟩) n cap (xs.set j x))) → K H') : VEffU P (Instr.storeAt t (.pointer (some ⟨b, o, none⟩)) v) H K := by
  subst ho
  have hok := st.at_ i hp
  obtain ⟨-, -, -, l, hblk, hlen, -, hput⟩ := hok.1.placeS hj
  rw [hsz, Nat.mul_one] at hlen hput
  refine VC.st1 ht hblk (by omega) hv ?_
  intro H' hb' ha' hs'
  have hSH : Agr S H H' := ha'.mono fun k hk hkb => hok.2 k hk (by subst hkb; exact ⟨0, n, cap, rfl⟩)
  have hown := hput H' [v] x (by rw [splice_one (by omega)]; exact hb') hSH (hr H' hSH)
  refine k H' (st.upd i hp (ha'.mono fun k hk hkb => hk.2 (.inl (by subst hkb; exact ⟨0, n, cap, rfl⟩))) _ ⟨hown, hok.2⟩ (fun k hk => .inl hk) (fun k hk => by rw [hs']; exact (st.in_ i hp hk).2) (by omega))
/-- New memory as1 a piece. -/
theorem StB.new {b : Nat} {l : List Value} (st : StB B H0 H ps) (hb : b = H.size) (hs : H'.size = b + 1) (hk : Blk H' b e l) (ha : Agr (fun k => k < b) H H') (hr : T.reps none_ H' l xs) (hn : n = xs.length) (hm : n ≤ maxLen) : StB B H0 H' (ps ++ [pS T e (some ⟨b, 0, none⟩) n n xs]) := by
  subst hb
  refine st.add (ha.mono fun k hk => hk) _ ⟨SlO.ofBlk (Nat.zero_le _) hk hr hn hm, fun k hk => hk.elim⟩ fun k hk => ?_
  rcases hk with ⟨o, n', c, h⟩ | h
  · cases h; omega
  · exact h.elim
/-- The nil slice as1 a piece. -/
theorem StB.nils (st : StB B H0 H ps) (T : Ty α) (e : TypeId) : StB B H0 H (ps ++ [pS T e none 0 0 []]) :=
  st.add (Agr.refl _ _) _ ⟨SlO.nil, fun k hk => hk.elim⟩ fun k hk => by
    rcases hk with ⟨o, n', c, h⟩ | h
    · cases h
    · exact h.elim
/-- What a call has returned, as1 a piece. -/
theorem StB.got {v : Value} (st : StB B H0 H ps) (ha : Agr (Old H) H H') (h : SlO T none_ H' H.size e v xs) : ∃ a cap, v = .slice a xs.length cap ∧ StB B H0 H' (ps ++ [pS T e a xs.length cap xs]) := by
  obtain ⟨a, cap, rfl⟩ := h.hull
  refine ⟨a, cap, rfl, st.add ha _ ⟨h.lower (Nat.zero_le _), fun k hk => hk.elim⟩ fun k hk => ?_⟩
  rcases hk with hk | hk
  · exact h.lt hk
  · exact hk.elim
/-- append of what lies in new memory, or elsewhere. -/
theorem appO {P : Program} {t ty q o m cap2 by_ : Nat} {z : Value} {ys : List α} {ds : List Value} {K : Value → Heap → Prop} (st : StB B H0 H ps) (i : Nat) (ht : SlT P t e T.size by_ z) (hp : ps[i]? = some (pS T e a n cap xs))
    (hd : Cells H q o ds) (hy : T.reps none_ H ds ys) (hm : m = ys.length) (h1 : ∀ u ∈ ds, u.oneCell' = true) (h63 : xs.length + ys.length ≤ 4194304) (hby : by_ ≤ 1024)
    (k : ∀ a' cap' H', StB B H0 H' (ps.set i (pS T e a' (xs.length + ys.length) cap' (xs ++ ys))) → Agr (fun k => k < H.size ∧ ¬ slB (.slice a n cap) k) H H' → K (.slice a' (xs.length + ys.length) cap') H') :
    VEff P (Builtin.append_ #[t, t] ty [.slice a n cap, .slice (some ⟨q, o, none⟩) m cap2].toArray) H K := by
  refine vappendO (T := T) (S := none_) (lo := 0) ht (st.at_ i hp).1 (Nat.zero_le _) (fun k hk => hk.elim) hd hy hm h1 (by unfold maxLen; omega) (by have := Nat.mul_le_mul h63 hby; omega) ?_
  intro v' H' hown hagr hsz hfr
  obtain ⟨a', cap', rfl⟩ := hown.hull
  rw [List.length_append] at hown hfr ⊢
  refine k a' cap' H' (st.upd i hp (hagr.mono fun k hk => ⟨hk.1, fun hb => hk.2 (.inl hb)⟩) _ ⟨hown, fun k hk => hk.elim⟩ (fun k hk => ?_) (fun k hk => ?_) hsz) hagr
  · rcases hk with hk | hk
    · rcases hfr k hk with h | h
      · exact .inl (.inl h)
      · exact .inr h
    · exact hk.elim
  · rcases hk with hk | hk
    · exact (hown.lt hk).2
    · exact hk.elim
/-- append of one value of one cell, that has just been laid into new memory. -/
theorem app1 {P : Program} {t ty q by_ : Nat} {z v : Value} {x : α} {K : Value → Heap → Prop} (st : StB B H0 H ps) (i : Nat) (ht : SlT P t e T.size by_ z) (hp : ps[i]? = some (pS T e a n cap xs))
    (hd : Blk H q e [v]) (hy : T.rep none_ H [v] x) (hv : v.oneCell' = true) (h63 : xs.length + 1 ≤ 4194304) (hby : by_ ≤ 1024)
    (k : ∀ a' cap' H', StB B H0 H' (ps.set i (pS T e a' (xs.length + 1) cap' (xs ++ [x]))) → Agr (fun k => k < H.size ∧ ¬ slB (.slice a n cap) k) H H' → K (.slice a' (xs.length + 1) cap') H') :
    VEff P (Builtin.append_ #[t, t] ty [.slice a n cap, .slice (some ⟨q, 0, none⟩) 1 1].toArray) H K :=
  appO (ys := [x]) st i ht hp (hd.cells (fun j v hv => by simpa using hv)) (Ty.reps_one hy) rfl (fun u hu => by cases List.mem_singleton.1 hu; exact hv) (by simpa using h63) hby k
end

/-! ### tables of slices -/
section
variable {α : Type} {T : Ty α} {B : Nat → Prop} {H0 H H1 : Heap} {ps : List Pc} {e te : TypeId} {nb : Nat} {vs : List Value} {xs : List (List α)}
theorem Tab.hold {S' : Nat → Prop} {lo : Nat} (h : Tab T none_ H lo e nb te vs xs) (k : Agr S' H H1) (hn : S' nb) (hb : ∀ (i : Nat) (v : Value), vs[i]? = some v → ∀ j, slB v j → S' j) : Tab T none_ H1 lo e nb te vs xs :=
  ⟨h.len, h.blk.agr k hn, h.nlo, fun i v x hv hx => (h.own i v x hv hx).agr k (fun b hb' => hb i v hv b hb') (fun b hb => hb.elim), h.apart⟩
def pT (T : Ty α) (e te : TypeId) (nb : Nat) (vs : List Value) (xs : List (List α)) : Pc where
  foot k := k = nb ∨ ∃ (i : Nat) (v : Value), vs[i]? = some v ∧ slB v k
  ok H := Tab T none_ H (nb + 1) e nb te vs xs
  fr h hp := hp.hold h (.inl rfl) fun i v hv j hj => .inr ⟨i, v, hv, hj⟩
/-- A row has been appended to, and not yet stored. -/
structure Mid (T : Ty α) (B : Nat → Prop) (H0 H H1 : Heap) (ps : List Pc) (i : Nat) (e te : TypeId) (nb : Nat) (vs : List Value) (xs : List (List α)) (t : Nat) (v' : Value) (x' : List α) : Prop where
  st : StB B H0 H ps
  hp : ps[i]? = some (pT T e te nb vs xs)
  own : SlO T none_ H1 (nb + 1) e v' x'
  ex : ∃ v, vs[t]? = some v ∧ Agr (fun k => k < H.size ∧ ¬ slB v k) H H1 ∧ ∀ k, slB v' k → slB v k ∨ H.size ≤ k
  le : H.size ≤ H1.size
end

end Go.VC
/- class.Next, class.Count; words of bits. -/
set_option linter.unusedVariables false
set_option linter.unusedSimpArgs false
set_option maxRecDepth 100000
namespace Go.VC
theorem vmin_ {P : Program} {ats : Array TypeId} {t : TypeId} {k k' : IntKind} {a b : Int} {S : Nat → Prop} {H : Heap} {K : Value → Prop} (h : K (.int k (if b < a then b else a))) : VDet P (Builtin.min_ ats t [.int k a, .int k' b].toArray) S H K := by
  refine VDet.mk _ (fun w _ => ?_) h
  simp [Builtin.min_, Builtin.min2]
end Go.VC
namespace Go.Proofs.YtlnmhfhdjnenoaaGreatDoor
open Go.VC

/-! ### counting bits -/
def g1 (a : Nat) : Nat := ((a / 2) &&& 85) + (a &&& 85)
def g2 (a : Nat) : Nat := ((a / 4) &&& 51) + (a &&& 51)
/-! ### the least byte -/
end Go.Proofs.YtlnmhfhdjnenoaaGreatDoor
/- Tables and automata, in plain Lean. -/
set_option linter.unusedVariables false
set_option linter.unusedSimpArgs false
namespace Go.Proofs.YtlnmhfhdjnenoaaGreatDoor

theorem take_succ_snoc {α : Type} {l : List α} {k : Nat} {x : α} (h : l[k]? = some x) : l.take (k + 1) = l.take k ++ [x] := by
  rw [List.take_add_one, h]; rfl
theorem get_some {α : Type} {l : List α} {k : Nat} (h : k < l.length) : ∃ x, l[k]? = some x := ⟨l[k], List.getElem?_eq_getElem h⟩

/-! ### merging -/
structure MS where
  cols : List Nat
  sets : List (BitVec 256)
  cell : List Nat
structure MOk (m b : Nat) (st : MS) : Prop where
  len : st.cols.length = st.sets.length
  le : st.cols.length ≤ b
  cell : st.cell.length = b
  cols : ∀ c ∈ st.cols, c < m
  places : ∀ p ∈ st.cell, p < st.cols.length
end Go.Proofs.YtlnmhfhdjnenoaaGreatDoor
