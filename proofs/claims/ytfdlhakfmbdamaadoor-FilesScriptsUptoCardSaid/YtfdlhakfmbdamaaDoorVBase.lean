/- The plain law calculus of these claims: a function that turns the code of a Go function into what is to be shown of it, over frames and heaps. -/
import Derived.OrdersHeld
import Derived.Deep.Quiet
import Derived.StillTail
import Derived.Tactics
import Derived.NoCompiler
set_option linter.unusedSimpArgs false
namespace Go.VC

abbrev Heap := Array Obj
abbrev Fr := List Value

structure Env (w w' : World) : Prop where
  os : w'.os = w.os
  tape : w'.tape = w.tape
  output : w'.output = w.output

theorem Env.refl (w : World) : Env w w := ⟨rfl, rfl, rfl⟩
theorem Env.trans {a b c : World} (h : Env a b) (k : Env b c) : Env a c :=
  ⟨k.os.trans h.os, k.tape.trans h.tape, k.output.trans h.output⟩

/-- Called in any world over this heap, function f returns, and R holds of what it returns and of the heap. -/
def FnOk (P : Program) (f : FuncId) (args : Array Value) (H : Heap) (R : Value → Heap → Prop) : Prop :=
  ∀ w : World, w.heap = H → (callFunc f args).run P w = .ok (.enter f args) w ∧
    Calls P f args w fun e w' => ∃ v, e = .returned v ∧ Env w w' ∧ R v w'.heap

theorem FnOk.mono {P : Program} {f : FuncId} {args : Array Value} {H : Heap} {R R' : Value → Heap → Prop}
    (h : FnOk P f args H R) (hr : ∀ v H', R v H' → R' v H') : FnOk P f args H R' := fun w hw =>
  ⟨(h w hw).1, (h w hw).2.mono fun _ _ ⟨v, he, hv, r⟩ => ⟨v, he, hv, hr _ _ r⟩⟩

/-- The two heaps are alike at the blocks of S. -/
def Agr (S : Nat → Prop) (H H' : Heap) : Prop := ∀ k, S k → H'[k]? = H[k]?

theorem Agr.refl (S : Nat → Prop) (H : Heap) : Agr S H H := fun _ _ => rfl
theorem Agr.trans {S : Nat → Prop} {a b c : Heap} (h : Agr S a b) (k : Agr S b c) : Agr S a c :=
  fun i hi => (k i hi).trans (h i hi)
theorem Agr.mono {S S' : Nat → Prop} {a b : Heap} (h : Agr S a b) (hs : ∀ k, S' k → S k) : Agr S' a b :=
  fun i hi => h i (hs i hi)

/-- An operation that reads alone: one value, in all heaps that are alike at S. -/
structure VDet (P : Program) (m : Sem Value) (S : Nat → Prop) (H : Heap) (K : Value → Prop) : Prop where
  in_ ::
  out_ : ∃ v, (∀ w : World, Agr S H w.heap → m.run P w = .ok v w) ∧ K v
/-- An operation that may write or draw. -/
structure VEff (P : Program) (m : Sem Value) (H : Heap) (K : Value → Heap → Prop) : Prop where
  in_ ::
  out_ : ∀ w : World, w.heap = H → ∃ v w', m.run P w = .ok v w' ∧ Env w w' ∧ K v w'.heap
structure VEffU (P : Program) (m : Sem Unit) (H : Heap) (K : Heap → Prop) : Prop where
  in_ ::
  out_ : ∀ w : World, w.heap = H → ∃ w', m.run P w = .ok () w' ∧ Env w w' ∧ K w'.heap
structure VCall (P : Program) (f : FuncId) (args : Array Value) (H : Heap) (K : Value → Heap → Prop) : Prop where
  in_ ::
  out_ : FnOk P f args H K
structure VCallQ (P : Program) (f : FuncId) (args : Array Value) (S : Nat → Prop) (H : Heap) (K : Value → Prop) : Prop where
  in_ ::
  out_ : ∃ v, (∀ H', Agr S H H' → FnOk P f args H' fun v' H'' => v' = v ∧ Agr S H' H'') ∧ K v

theorem VDet.mk {P : Program} {m : Sem Value} {S : Nat → Prop} {H : Heap} {K : Value → Prop} (v : Value)
    (h : ∀ w : World, Agr S H w.heap → m.run P w = .ok v w) (k : K v) : VDet P m S H K := by
  exact ⟨⟨v, h, k⟩⟩
theorem VEff.mk {P : Program} {m : Sem Value} {H : Heap} {K : Value → Heap → Prop}
    (h : ∀ w : World, w.heap = H → ∃ v w', m.run P w = .ok v w' ∧ Env w w' ∧ K v w'.heap) : VEff P m H K := by
  exact ⟨h⟩
theorem VEffU.mk {P : Program} {m : Sem Unit} {H : Heap} {K : Heap → Prop}
    (h : ∀ w : World, w.heap = H → ∃ w', m.run P w = .ok () w' ∧ Env w w' ∧ K w'.heap) : VEffU P m H K := by
  exact ⟨h⟩
theorem VCall.mk {P : Program} {f : FuncId} {args : Array Value} {H : Heap} {K R : Value → Heap → Prop}
    (h : FnOk P f args H R) (k : ∀ v H', R v H' → K v H') : VCall P f args H K := by
  exact ⟨h.mono k⟩
theorem VCallQ.mk {P : Program} {f : FuncId} {args : Array Value} {S : Nat → Prop} {H : Heap} {K : Value → Prop} (v : Value)
    (h : ∀ H', Agr S H H' → FnOk P f args H' fun v' H'' => v' = v ∧ Agr S H' H'') (k : K v) : VCallQ P f args S H K := by
  exact ⟨⟨v, h, k⟩⟩

/-- A test. -/
def VIte (b : Bool) (p q : Prop) : Prop := match b with | true => p | false => q
theorem VIte.mk {b : Bool} {p q : Prop} (h : b = true → p) (k : b = false → q) : VIte b p q := by
  cases b; exact k rfl; exact h rfl
theorem VIte.tt {b : Bool} {p q : Prop} (hb : b = true) (h : p) : VIte b p q := by subst hb; exact h
theorem VIte.ff {b : Bool} {p q : Prop} (hb : b = false) (h : q) : VIte b p q := by subst hb; exact h

/-! ### frames -/
noncomputable def rdK {R : Type} (l : Fr) : Nat → (Value → R) → R :=
  List.rec (motive := fun _ => Nat → (Value → R) → R) (fun _ K => K undef) (fun v _ ih n K => Nat.casesOn n (K v) fun m => ih m K) l
noncomputable def wrK {R : Type} (l : Fr) : Nat → Value → (Fr → R) → R :=
  List.rec (motive := fun _ => Nat → Value → (Fr → R) → R) (fun _ _ K => K []) (fun x l ih n v K => Nat.casesOn n (K (v :: l)) fun m => ih m v fun l' => K (x :: l')) l
noncomputable def evK {R : Type} (fr : Fr) (x : Operand) (K : Value → R) : R :=
  match x with
  | .tmp t => rdK fr t K
  | .const v => K v
  | .global g => K (.pointer (some ⟨g, 0, none⟩))
  | .func f => K (.func (.func f) #[] #[])
noncomputable def evsK {R : Type} (fr : Fr) (l : List Operand) : (List Value → R) → R :=
  List.rec (motive := fun _ => (List Value → R) → R) (fun K => K []) (fun x _ ih K => evK fr x fun v => ih fun vs => K (v :: vs)) l
noncomputable def putK {R : Type} (dst : Option Tmp) (fr : Fr) (v : Value) (K : Fr → R) : R :=
  match dst with
  | none => K fr
  | some d => wrK fr d v K

def rd (fr : Fr) (i : Nat) : Value := fr.getD i undef
def evF (fr : Fr) : Operand → Value
  | .tmp t => rd fr t
  | .const v => v
  | .global g => .pointer (some ⟨g, 0, none⟩)
  | .func f => .func (.func f) #[] #[]

theorem rdK_eq {R : Type} (K : Value → R) : ∀ (fr : Fr) (i : Nat), rdK fr i K = K (rd fr i)
  | [], _ => rfl
  | _ :: _, 0 => rfl
  | _ :: l, n + 1 => by show rdK l n K = _; rw [rdK_eq K l n]; simp [rd]
theorem wrK_eq {R : Type} : ∀ (fr : Fr) (i : Nat) (v : Value) (K : Fr → R), wrK fr i v K = K (fr.set i v)
  | [], _, _, _ => rfl
  | _ :: _, 0, _, _ => rfl
  | x :: l, n + 1, v, K => by show wrK l n v (fun l' => K (x :: l')) = _; rw [wrK_eq l n v]; rfl
theorem evK_eq {R : Type} (fr : Fr) (x : Operand) (K : Value → R) : evK fr x K = K (evF fr x) := by
  cases x <;> first | rfl | exact rdK_eq K fr _
theorem evsK_eq {R : Type} (fr : Fr) : ∀ (l : List Operand) (K : List Value → R), evsK fr l K = K (l.map (evF fr))
  | [], _ => rfl
  | x :: l, K => by show evK fr x (fun v => evsK fr l fun vs => K (v :: vs)) = _; simp only [evK_eq, evsK_eq fr l, List.map_cons]
theorem putK_eq {R : Type} (dst : Option Tmp) (fr : Fr) (v : Value) (K : Fr → R) :
    putK dst fr v K = K (match dst with | none => fr | some d => fr.set d v) := by
  cases dst with
  | none => rfl
  | some d => exact wrK_eq fr d v K

/-- The frame of an activation. -/
structure At (fr : Fr) (a : Act) : Prop where
  tmps : a.tmps.toList = fr
  defers : a.defers = []

theorem At.eval {fr : Fr} {a : Act} (h : At fr a) (x : Operand) : a.eval x = evF fr x := by
  cases x with
  | tmp t => obtain ⟨rfl, _⟩ := h; simp [Act.eval, evF, rd]
  | const v => rfl
  | global g => rfl
  | func f => rfl
theorem At.evalF {fr : Fr} {a : Act} (h : At fr a) : a.eval = evF fr := funext h.eval
theorem At.put {fr : Fr} {a : Act} (h : At fr a) (dst : Option Tmp) (v : Value) :
    At (match dst with | none => fr | some d => fr.set d v) (a.put dst v) := by
  obtain ⟨rfl, h2⟩ := h
  cases dst with
  | none => exact ⟨rfl, h2⟩
  | some d => exact ⟨by simp [Act.put], h2⟩

/-! ### single operations -/
def kEq : IntKind → IntKind → Bool
  | .i8, .i8 | .i16, .i16 | .i32, .i32 | .i64, .i64 | .u8, .u8 | .u16, .u16 | .u32, .u32 | .u64, .u64 => true
  | _, _ => false
theorem kEq_eq {a b : IntKind} (h : kEq a b = true) : a = b := by cases a <;> cases b <;> first | rfl | simp [kEq] at h

def binPure : BinOp → Value → Value → Option Value
  | .add, .int k a, .int k' b => match kEq k k' with | true => some (.int k (k.wrap (a + b))) | false => none
  | .sub, .int k a, .int k' b => match kEq k k' with | true => some (.int k (k.wrap (a - b))) | false => none
  | .mul, .int k a, .int k' b => match kEq k k' with | true => some (.int k (k.wrap (a * b))) | false => none
  | .eql, .int k a, .int k' b => match kEq k k' with | true => some (.bool (a == b)) | false => none
  | .neq, .int k a, .int k' b => match kEq k k' with | true => some (.bool (a != b)) | false => none
  | .lss, .int k a, .int k' b => match kEq k k' with | true => some (.bool (decide (a < b))) | false => none
  | .leq, .int k a, .int k' b => match kEq k k' with | true => some (.bool (decide (a ≤ b))) | false => none
  | .gtr, .int k a, .int k' b => match kEq k k' with | true => some (.bool (decide (b < a))) | false => none
  | .geq, .int k a, .int k' b => match kEq k k' with | true => some (.bool (decide (b ≤ a))) | false => none
  | .eql, .string a, .string b => some (.bool (a.toList == b.toList))
  | .neq, .string a, .string b => some (.bool (!(a.toList == b.toList)))
  | _, _, _ => none

theorem run_eqGuard_int {P : Program} (op : BinOp) (t : TypeId) (x y : Operand) (k k' : IntKind) (a b : Int) (w : World) :
    (eqGuard op t x y (.int k a) (.int k' b)).run P w = .ok () w := by
  cases op <;> simp [eqGuard]
theorem run_eqGuard_string {P : Program} (op : BinOp) (t : TypeId) (x y : Operand) (a b : ByteArray) (w : World) :
    (eqGuard op t x y (.string a) (.string b)).run P w = .ok () w := by
  cases op <;> simp [eqGuard]

theorem binPure_run {P : Program} {op : BinOp} {t : TypeId} {x y : Operand} {a b v : Value} (h : binPure op a b = some v) (w : World) :
    (do eqGuard op t x y a b; binOp op t a b : Sem Value).run P w = .ok v w := by
  unfold binPure at h
  split at h
  all_goals try (split at h)
  all_goals first
    | (cases h; done)
    | (rename_i hk; obtain rfl := kEq_eq hk; cases h; simp [run_eqGuard_int, binOp, Op.intArith, Op.intCmp]; done)
    | (cases h; simp [run_eqGuard_string, binOp, Op.stringOp]; done)

def unPure : UnOp → Value → Option Value
  | .not, .bool b => some (.bool (!b))
  | .neg, .int k n => some (.int k (k.wrap (0 - n)))
  | _, _ => none
theorem unPure_run {P : Program} {op : UnOp} {a v : Value} (h : unPure op a = some v) (w : World) : (Op.unary op a).run P w = .ok v w := by
  unfold unPure at h
  split at h <;> cases h <;> simp [Op.unary, Op.intArith]

noncomputable def evoK {R : Type} (fr : Fr) (x : Option Operand) (K : Option Value → R) : R :=
  match x with
  | none => K none
  | some x => evK fr x fun v => K (some v)
theorem evoK_eq {R : Type} (fr : Fr) (x : Option Operand) (K : Option Value → R) : evoK fr x K = K (x.map (evF fr)) := by
  cases x <;> simp [evoK, evK_eq]
noncomputable def evpK {R : Type} (fr : Fr) (l : List (Nat × Operand)) : (List (Nat × Value) → R) → R :=
  List.rec (motive := fun _ => (List (Nat × Value) → R) → R) (fun K => K []) (fun p _ ih K => evK fr p.2 fun v => ih fun vs => K ((p.1, v) :: vs)) l
theorem evpK_eq {R : Type} (fr : Fr) : ∀ (l : List (Nat × Operand)) (K : List (Nat × Value) → R), evpK fr l K = K (l.map fun (i, x) => (i, evF fr x))
  | [], _ => rfl
  | (i, x) :: l, K => by show evK fr x (fun v => evpK fr l fun vs => K ((i, v) :: vs)) = _; simp only [evK_eq, evpK_eq fr l, List.map_cons]

def lenPure : Option TypeDesc → List Value → Option Value
  | some (.slice _), [.slice _ n _] => some (.int .i64 n)
  | some .string, [.string s] => some (.int .i64 s.size)
  | _, _ => none
theorem lenPure_run {P : Program} {t ty : TypeId} {vs : List Value} {v : Value} (h : lenPure (P.underlying t) vs = some v) (w : World) :
    (Builtin.len_ #[t] ty vs.toArray).run P w = .ok v w := by
  unfold lenPure at h
  split at h <;> cases h <;> rename_i hu <;> simp [Builtin.len_, run_underlying hu, goInt]

def convPure : Option TypeDesc → Option TypeDesc → Value → Option Value
  | some _, some (.int k), .int _ n => some (.int k (k.wrap n))
  | some _, some .string, .string s => some (.string s)
  | _, _, _ => none
theorem convPure_run {P : Program} {s d : TypeId} {x v : Value} (h : convPure (P.underlying s) (P.underlying d) x = some v) (w : World) :
    (convert s d x).run P w = .ok v w := by
  unfold convPure at h
  split at h <;> cases h <;> rename_i h1 h2
  · simp [convert, run_underlying h1, run_underlying h2, Conv.intToInt]
  · simp [convert, run_underlying h1, run_underlying h2]

/-- Operations that read alone. -/
def detK (P : Program) (S : Nat → Prop) (o : Oper) (fr : Fr) (H : Heap) (K : Value → Prop) : Prop :=
  match o.op with
  | .move x => evK fr x K
  | .assign x => evK fr x K
  | .pick c a b => evK fr c fun vc => match vc with
    | .bool b' => VIte b' (evK fr a K) (evK fr b K)
    | _ => False
  | .binOp op t x y _ => evK fr x fun a => evK fr y fun b => match binPure op a b with
    | some v => K v
    | none => VDet P (do eqGuard op t x y a b; binOp op t a b) S H K
  | .unOp op _ x => evK fr x fun a => match unPure op a with
    | some v => K v
    | none => VDet P (Op.unary op a) S H K
  | .convert s d x => evK fr x fun a => match convPure (P.underlying s) (P.underlying d) a with
    | some v => K v
    | none => VDet P (convert s d a) S H K
  | .extract x i => evK fr x fun a => match a with
    | .tuple vs => match vs.toList[i]? with
      | some v => K v
      | none => False
    | _ => False
  | .nilCheck x => evK fr x fun a => match a with
    | .pointer (some p) => K (.pointer (some p))
    | _ => False
  | .makeInterface t x => evK fr x fun a => match P.underlying t with
    | some (.interface _) => False
    | some _ => K (.iface t a)
    | none => False
  | .makeFunc fn first cap => evsK fr first.toList fun vs => evsK fr cap.toList fun us => K (.func fn vs.toArray us.toArray)
  | .load t a => evK fr a fun p => VDet P (Instr.loadAt t p) S H K
  | .index t x i => evK fr x fun a => evK fr i fun j => VDet P (Instr.index t a j) S H K
  | .indexAddr t x i => evK fr x fun a => evK fr i fun j => VDet P (Instr.indexAt t a j) S H K
  | .fieldAddr s x f => evK fr x fun a => VDet P (Instr.fieldAt s a f) S H K
  | .field t x f => evK fr x fun a => VDet P (Instr.field t a f) S H K
  | .slice t x lo hi mx => evK fr x fun a => evoK fr lo fun l => evoK fr hi fun h => evoK fr mx fun m => VDet P (Instr.sliceAt t a l h m) S H K
  | .lookup t x i ok => evK fr x fun a => evK fr i fun j => VDet P (Instr.lookup t a j ok) S H K
  | .build t ps => evpK fr ps.toList fun vs => VDet P (Instr.build t vs.toArray) S H K
  | .typeAssert x t a ok => evK fr x fun v => VDet P (Instr.typeAssert v t a ok) S H K
  | .call { callee := .builtin .len, args, argTypes } => evsK fr args.toList fun vs =>
    match argTypes.toList with
    | [t] => match lenPure (P.underlying t) vs with
      | some v => K v
      | none => VDet P (Builtin.len_ argTypes o.type vs.toArray) S H K
    | _ => VDet P (Builtin.len_ argTypes o.type vs.toArray) S H K
  | .call { callee := .builtin .cap, args, argTypes } => evsK fr args.toList fun vs => VDet P (Builtin.cap_ argTypes o.type vs.toArray) S H K
  | .call { callee := .builtin .min, args, argTypes } => evsK fr args.toList fun vs => VDet P (Builtin.min_ argTypes o.type vs.toArray) S H K
  | .call { callee := .builtin .max, args, argTypes } => evsK fr args.toList fun vs => VDet P (Builtin.max_ argTypes o.type vs.toArray) S H K
  | _ => False

def isDet (o : Oper) : Bool :=
  match o.op with
  | .move _ | .assign _ | .pick .. | .binOp .. | .unOp .. | .convert .. | .extract .. | .nilCheck _ | .makeInterface .. | .makeFunc .. | .load .. | .index ..
  | .indexAddr .. | .fieldAddr .. | .field .. | .slice .. | .lookup .. | .build .. | .typeAssert .. => true
  | .call { callee := .builtin .len, .. } | .call { callee := .builtin .cap, .. } | .call { callee := .builtin .min, .. } | .call { callee := .builtin .max, .. } => true
  | _ => false

theorem VDet.out {P : Program} {m : Sem Value} {S : Nat → Prop} {H : Heap} {K : Value → Prop} (h : VDet P m S H K) :
    ∃ v, (∀ w : World, Agr S H w.heap → m.run P w = .ok v w) ∧ K v := by exact h.out_

theorem run_value {P : Program} {m : Sem Value} {v : Value} {w w' : World} (h : m.run P w = .ok v w') :
    (do pure (Next.value (← m)) : Sem Next).run P w = .ok (.value v) w' := by simp [h]
theorem run_unit {P : Program} {m : Sem Unit} {w w' : World} (h : m.run P w = .ok () w') :
    (do m; pure Next.skip : Sem Next).run P w = .ok .skip w' := by simp [h]

theorem detK_sound {P : Program} {S : Nat → Prop} {o : Oper} {fr : Fr} {H : Heap} {K : Value → Prop} (h : detK P S o fr H K) :
    ∃ v, (∀ w : World, Agr S H w.heap → (execOp (evF fr) o).run P w = .ok (.value v) w) ∧ K v := by
  unfold detK at h
  split at h <;> rename_i ho <;> simp only [evK_eq, evsK_eq, evoK_eq, evpK_eq] at h
  all_goals simp only [execOp, ho]
  case h_1 => exact ⟨_, fun w _ => by simp, h⟩
  case h_2 => exact ⟨_, fun w _ => by simp, h⟩
  case h_3 =>
    split at h
    · rename_i b hb
      cases b
      · exact ⟨_, fun w _ => by simp [hb, asBool], h⟩
      · exact ⟨_, fun w _ => by simp [hb, asBool], h⟩
    · exact h.elim
  case h_4 =>
    split at h
    · rename_i v hv
      exact ⟨v, fun w _ => run_value (binPure_run hv w), h⟩
    · obtain ⟨v, hv, k⟩ := h.out
      exact ⟨v, fun w hw => run_value (hv w hw), k⟩
  case h_5 =>
    split at h
    · rename_i v hv
      exact ⟨v, fun w _ => run_value (unPure_run hv w), h⟩
    · obtain ⟨v, hv, k⟩ := h.out
      exact ⟨v, fun w hw => run_value (hv w hw), k⟩
  case h_6 =>
    split at h
    · rename_i v hv
      exact ⟨v, fun w _ => run_value (convPure_run hv w), h⟩
    · obtain ⟨v, hv, k⟩ := h.out
      exact ⟨v, fun w hw => run_value (hv w hw), k⟩
  case h_7 =>
    split at h
    · split at h
      · rename_i vs hvs _ v hv
        refine ⟨v, fun w _ => run_value ?_, h⟩
        simp at hv
        simp [Instr.extract, hvs, hv]
      · exact h.elim
    · exact h.elim
  case h_8 =>
    split at h
    · rename_i p hp
      exact ⟨_, fun w _ => by simp [hp], h⟩
    · exact h.elim
  case h_9 =>
    split at h
    · exact h.elim
    · rename_i d hn hd
      refine ⟨_, fun w _ => run_value ?_, h⟩
      cases d <;> first | (exact (hn _ rfl).elim) | simp [Instr.makeInterface, run_underlying hd]
    · exact h.elim
  case h_10 =>
    refine ⟨_, fun w _ => run_value ?_, h⟩
    simp only [← Array.toList_map, Array.toArray_toList]
    simp [Instr.makeFunc]
  all_goals try
    obtain ⟨v, hv, k⟩ := h.out
    exact ⟨v, fun w hw => run_value (hv w hw), k⟩
  case h_18 =>
    obtain ⟨v, hv, k⟩ := h.out
    simp only [← Array.toList_map, Array.toArray_toList] at hv
    exact ⟨v, fun w hw => run_value (hv w hw), k⟩
  all_goals simp only [← Array.toList_map, Array.toArray_toList] at h
  case h_20 =>
    split at h
    · rename_i t ht
      split at h
      · rename_i v hv
        refine ⟨v, fun w _ => run_value (m := Builtin.len_ _ _ _) ?_, h⟩
        have e : ∀ {A : Array TypeId}, A.toList = [t] → A = #[t] := fun h => Array.ext' (by simpa using h)
        obtain rfl := e ht
        have h3 := lenPure_run (ty := o.type) hv w
        rwa [Array.toArray_toList] at h3
      · obtain ⟨v, hv, k⟩ := h.out
        exact ⟨v, fun w hw => run_value (m := Builtin.len_ _ _ _) (hv w hw), k⟩
    · obtain ⟨v, hv, k⟩ := h.out
      exact ⟨v, fun w hw => run_value (m := Builtin.len_ _ _ _) (hv w hw), k⟩
  case h_21 =>
    obtain ⟨v, hv, k⟩ := h.out
    exact ⟨v, fun w hw => run_value (m := Builtin.cap_ _ _ _) (hv w hw), k⟩
  case h_22 =>
    obtain ⟨v, hv, k⟩ := h.out
    exact ⟨v, fun w hw => run_value (m := Builtin.min_ _ _ _) (hv w hw), k⟩
  case h_23 =>
    obtain ⟨v, hv, k⟩ := h.out
    exact ⟨v, fun w hw => run_value (m := Builtin.max_ _ _ _) (hv w hw), k⟩
  all_goals exact h.elim

/-! ### operations that write, and calls -/
structure VInv (P : Program) (t : TypeId) (x : Value) (name : String) (args : Array Value) (H : Heap) (K : Value → Heap → Prop) : Prop where
  in_ ::
  out_ : ∃ f as, (∀ w : World, w.heap = H → (callMethod (.iface t x) name args).run P w = .ok (.enter f as) w) ∧ FnOk P f as H K

def callK (P : Program) (q : Bool) (S : Nat → Prop) (f : Value) (args : List Value) (H : Heap) (K : Value → Heap → Prop) : Prop :=
  match f with
  | .func (.func g) first cap => match q with
    | true => VCallQ P g (first.toList ++ args ++ cap.toList).toArray S H fun v => K v H
    | false => VCall P g (first.toList ++ args ++ cap.toList).toArray H K
  | _ => False

/-- Operations that write or draw. -/
def effK (P : Program) (o : Oper) (fr : Fr) (H : Heap) (K : Value → Heap → Prop) : Prop :=
  match o.op with
  | .alloc t => VEff P (Instr.alloc t true (.tuple #[])) H K
  | .box t x => evK fr x fun v => VEff P (Instr.box t v) H K
  | .buildSlice t n ps => evpK fr ps.toList fun vs => VEff P (Instr.buildSlice t n vs.toArray) H K
  | .store t a x => evK fr a fun p => evK fr x fun v => VEffU P (Instr.storeAt t p v) H fun H' => K undef H'
  | .makeMap t r => evoK fr r fun v => VEff P (Instr.makeMap t v) H K
  | .makeSlice t l c => evK fr l fun n => evK fr c fun m => VEff P (Instr.makeSlice t n m) H K
  | .mapUpdate t m k x => evK fr m fun r => evK fr k fun j => evK fr x fun v => VEffU P (Instr.mapUpdate t r j v) H fun H' => K undef H'
  | .insert t m k x => evK fr m fun r => evK fr k fun j => evK fr x fun v => VEffU P (Instr.mapUpdate t r j v) H fun H' => K undef H'
  | .mapEntry t m k => evK fr m fun r => evK fr k fun j => VEff P (Instr.mapEntry t r j) H K
  | .entryStore t m s x => evK fr m fun r => evK fr s fun j => evK fr x fun v => VEffU P (Instr.entryStore t r j v) H fun H' => K undef H'
  | .range t x => evK fr x fun v => VEff P (Instr.range t v) H K
  | .next it s => evK fr it fun v => VEff P (Instr.next v s o.type) H K
  | .entry it => evK fr it fun v => VEff P (Instr.entry v) H K
  | .convert s d x => evK fr x fun v => VEff P (convert s d v) H K
  | .call { callee := .builtin .append, args, argTypes } => evsK fr args.toList fun vs => VEff P (Builtin.append_ argTypes o.type vs.toArray) H K
  | .call { callee := .builtin .copy, args, argTypes } => evsK fr args.toList fun vs => VEff P (Builtin.copy_ argTypes o.type vs.toArray) H K
  | .call { callee := .builtin .delete, args, argTypes } => evsK fr args.toList fun vs => VEff P (Builtin.delete_ argTypes o.type vs.toArray) H K
  | .call { callee := .builtin .clear, args, argTypes } => evsK fr args.toList fun vs => VEff P (Builtin.clear_ argTypes o.type vs.toArray) H K
  | .call { callee := .invoke r name, args, .. } => evK fr r fun v => evsK fr args.toList fun vs => match v with
    | .iface t x => VInv P t x name vs.toArray H K
    | _ => False
  | .call { callee := .value f, args, .. } => evK fr f fun g => evsK fr args.toList fun vs => callK P false (fun _ => True) g vs H K
  | _ => False

/-- A conversion between strings and bytes draws, or reads memory: it is none of the operations that read alone here. -/
def convDet (P : Program) (o : Oper) : Bool :=
  match o.op with
  | .convert s d _ => match P.underlying s, P.underlying d with
    | some (.slice _), _ => false
    | some .string, some (.slice _) => false
    | _, _ => true
  | _ => true

/-- One operation; q: within a region whose order is open, S: the blocks that stay as they are there. -/
def opK (P : Program) (q : Bool) (S : Nat → Prop) (o : Oper) (fr : Fr) (H : Heap) (K : Value → Heap → Prop) : Prop :=
  match isDet o && convDet P o with
  | true => detK P S o fr H fun v => K v H
  | false => match q with
    | true => match o.op with
      | .call { callee := .value f, args, .. } => evK fr f fun g => evsK fr args.toList fun vs => callK P true S g vs H K
      | _ => False
    | false => effK P o fr H K

theorem VEff.out {P : Program} {m : Sem Value} {H : Heap} {K : Value → Heap → Prop} (h : VEff P m H K) :
    ∀ w : World, w.heap = H → ∃ v w', m.run P w = .ok v w' ∧ Env w w' ∧ K v w'.heap := by exact h.out_
theorem VEffU.out {P : Program} {m : Sem Unit} {H : Heap} {K : Heap → Prop} (h : VEffU P m H K) :
    ∀ w : World, w.heap = H → ∃ w', m.run P w = .ok () w' ∧ Env w w' ∧ K w'.heap := by exact h.out_
theorem VCall.out {P : Program} {f : FuncId} {args : Array Value} {H : Heap} {K : Value → Heap → Prop} (h : VCall P f args H K) : FnOk P f args H K := by
  exact h.out_
theorem VCallQ.out {P : Program} {f : FuncId} {args : Array Value} {S : Nat → Prop} {H : Heap} {K : Value → Prop} (h : VCallQ P f args S H K) :
    ∃ v, (∀ H', Agr S H H' → FnOk P f args H' fun v' H'' => v' = v ∧ Agr S H' H'') ∧ K v := by exact h.out_
theorem VInv.out {P : Program} {t : TypeId} {x : Value} {name : String} {args : Array Value} {H : Heap} {K : Value → Heap → Prop} (h : VInv P t x name args H K) :
    ∃ f as, (∀ w : World, w.heap = H → (callMethod (.iface t x) name args).run P w = .ok (.enter f as) w) ∧ FnOk P f as H K := by exact h.out_
theorem VInv.mk {P : Program} {t : TypeId} {x : Value} {name : String} {args : Array Value} {H : Heap} {K R : Value → Heap → Prop} (f : FuncId) (as : Array Value)
    (hm : ∀ w : World, (callMethod (.iface t x) name args).run P w = .ok (.enter f as) w) (h : FnOk P f as H R) (k : ∀ v H', R v H' → K v H') : VInv P t x name args H K := by
  exact ⟨⟨f, as, fun w _ => hm w, h.mono k⟩⟩

/-- What is asked of an operation in a world. -/
def OpOk (P : Program) (o : Oper) (a : Act) (w : World) (K : Value → Heap → Prop) : Prop :=
  ∀ Q : Exit → Act → World → Prop, o.wp P a w (fun a' w' => ∃ v, a' = a.put o.dst v ∧ Env w w' ∧ K v w'.heap) Q

theorem opOk_value {P : Program} {o : Oper} {a : Act} {w w' : World} {K : Value → Heap → Prop} {v : Value}
    (h : (execOp a.eval o).run P w = .ok (.value v) w') (he : Env w w') (k : K v w'.heap) : OpOk P o a w K := by
  intro Q
  unfold Oper.wp
  rw [h]
  exact ⟨v, rfl, he, k⟩
theorem opOk_skip {P : Program} {o : Oper} {a : Act} {w w' : World} {K : Value → Heap → Prop}
    (h : (execOp a.eval o).run P w = .ok .skip w') (he : Env w w') (k : K undef w'.heap) : OpOk P o a w K := by
  intro Q
  unfold Oper.wp
  rw [h]
  exact ⟨undef, rfl, he, k⟩
theorem opOk_enter {P : Program} {o : Oper} {a : Act} {w : World} {K : Value → Heap → Prop} {f : FuncId} {args : Array Value}
    (h : (execOp a.eval o).run P w = (callFunc f args).run P w) (k : FnOk P f args w.heap K) : OpOk P o a w K := by
  intro Q
  unfold Oper.wp
  rw [h, (k w rfl).1]
  refine (k w rfl).2.mono ?_
  rintro e w' ⟨v, rfl, he, hk⟩
  exact ⟨v, rfl, he, hk⟩

theorem effK_sound {P : Program} {o : Oper} {fr : Fr} {a : Act} {w : World} {K : Value → Heap → Prop} (hat : At fr a)
    (h : effK P o fr w.heap K) : OpOk P o a w K := by
  have he := hat.evalF
  unfold effK at h
  split at h <;> rename_i ho <;> try simp only [evK_eq, evsK_eq, evoK_eq, evpK_eq, ← Array.toList_map, Array.toArray_toList] at h
  all_goals try (
    obtain ⟨v, w', hr, henv, hk⟩ := h.out w rfl
    exact opOk_value (by rw [he]; simp only [execOp, ho]; exact run_value hr) henv hk)
  all_goals try (
    obtain ⟨w', hr, henv, hk⟩ := h.out w rfl
    exact opOk_skip (by rw [he]; simp only [execOp, ho]; exact run_unit hr) henv hk)
  case h_19 =>
    split at h
    · rename_i t x hx
      obtain ⟨f, as, h1, h2⟩ := h.out
      refine opOk_enter ?_ h2
      rw [he]
      simp only [execOp, ho, resolve, hx]
      rw [(h2 w rfl).1, ← h1 w rfl]
      have e1 : ∀ A : Array Value, (#[Value.iface t x] ++ A)[0]? = some (Value.iface t x) := fun A => by simp [Array.getElem?_append]
      rename_i args argTypes _
      have e2 : (Array.map (evF fr) args).extract 0 args.size = Array.map (evF fr) args := by
        rw [show args.size = (Array.map (evF fr) args).size by simp]; exact Array.extract_size
      simp [invoke, e1, e2]
    · exact h.elim
  case h_20 =>
    unfold callK at h
    rename_i f' args argTypes
    split at h
    · rename_i g first cap hg
      refine opOk_enter ?_ h.out
      rw [he]
      have e : (first.toList ++ (Array.map (evF fr) args).toList ++ cap.toList).toArray = first ++ Array.map (evF fr) args ++ cap := Array.ext' (by simp)
      rw [e]
      simp only [execOp, ho, resolve, hg, Deferred.ofValue]
      simp [invoke]
    · exact h.elim
  all_goals exact h.elim

theorem opK_sound {P : Program} {o : Oper} {fr : Fr} {a : Act} {w : World} {K : Value → Heap → Prop} (hat : At fr a)
    (h : opK P false (fun _ => True) o fr w.heap K) : OpOk P o a w K := by
  unfold opK at h
  split at h
  · obtain ⟨v, hr, hk⟩ := detK_sound h
    exact opOk_value (by rw [hat.evalF]; exact hr w (Agr.refl _ _)) (Env.refl w) hk
  · exact effK_sound hat h

/-- The class of worlds of a region that only reads. -/
def Cls (w0 : World) (S : Nat → Prop) (w : World) : Prop := Env w0 w ∧ Agr S w0.heap w.heap

theorem opK_quiet {P : Program} {S : Nat → Prop} {o : Oper} {fr : Fr} {a : Act} {w0 : World} {K : Value → Heap → Prop} (hat : At fr a)
    (h : opK P true S o fr w0.heap K) : ∃ v, (∀ w, Cls w0 S w → o.quietAt P a (Cls w0 S) w v) ∧ K v w0.heap := by
  unfold opK at h
  split at h
  · obtain ⟨v, hr, hk⟩ := detK_sound h
    refine ⟨v, fun w hw => ?_, hk⟩
    unfold Oper.quietAt
    rw [hat.evalF, hr w hw.2]
    exact ⟨rfl, rfl⟩
  · dsimp only at h
    split at h
    · rename_i f args argTypes ho
      simp only [evK_eq, evsK_eq, ← Array.toList_map] at h
      unfold callK at h
      split at h
      · rename_i g first cap hg
        obtain ⟨v, hv, hk⟩ := h.out
        refine ⟨v, fun w hw => ?_, hk⟩
        obtain ⟨h1, h2⟩ := hv w.heap hw.2 w rfl
        have h3 : (execOp a.eval o).run P w = (callFunc g (first.toList ++ (Array.map (evF fr) args).toList ++ cap.toList).toArray).run P w := by
          rw [hat.evalF]
          have e : (first.toList ++ (Array.map (evF fr) args).toList ++ cap.toList).toArray = first ++ Array.map (evF fr) args ++ cap := Array.ext' (by simp)
          rw [e]
          simp only [execOp, ho, resolve, hg, Deferred.ofValue]
          simp [invoke]
        unfold Oper.quietAt
        rw [h3, h1]
        refine ⟨rfl, h2.mono ?_⟩
        rintro e w' ⟨v', rfl, henv, rfl, hh⟩
        exact ⟨rfl, hw.1.trans henv, hw.2.trans hh⟩
      · exact h.elim
    · exact h.elim

/-! ### regions -/
/-- The rest, kept as one word. -/
def apK (K : Fr → Heap → Prop) (fr : Fr) (H : Heap) : Prop := K fr H
/-- An operation under a condition. -/
def guardK (P : Program) (q : Bool) (S : Nat → Prop) (o : Oper) (want : Bool) (t : Nat) (fr : Fr) (H : Heap) (K : Fr → Heap → Prop) : Prop :=
  rdK fr t fun v => match v with
    | .bool b => VIte b
      (wrK fr t (.bool true) fun fr1 => match want with
        | true => opK P q S o fr1 H fun v H' => putK o.dst fr1 v fun fr' => apK K fr' H'
        | false => putK o.dst fr1 undef fun fr' => apK K fr' H)
      (wrK fr t (.bool false) fun fr1 => match want with
        | false => opK P q S o fr1 H fun v H' => putK o.dst fr1 v fun fr' => apK K fr' H'
        | true => putK o.dst fr1 undef fun fr' => apK K fr' H)
    | .tuple _ => putK o.dst fr undef fun fr' => apK K fr' H
    | _ => False
/-- The operations in the text's order. -/
def opsK (P : Program) (q : Bool) (S : Nat → Prop) (all : List Oper) (l : List Oper) : Fr → Heap → (Fr → Heap → Prop) → Prop :=
  List.rec (motive := fun _ => Fr → Heap → (Fr → Heap → Prop) → Prop) (fun fr H K => K fr H) (fun o _ ih fr H K =>
    match o.guard with
    | none => opK P q S o fr H fun v H' => putK o.dst fr v fun fr' => ih fr' H' K
    | some (j, want) => match (all[j]?).bind (·.dst) with
      | none => False
      | some t => guardK P q S o want t fr H fun fr' H' => ih fr' H' K) l
theorem opsK_cons (P : Program) (q : Bool) (S : Nat → Prop) (all rest : List Oper) (o : Oper) (fr : Fr) (H : Heap) (K : Fr → Heap → Prop) : opsK P q S all (o :: rest) fr H K =
    (match o.guard with
    | none => opK P q S o fr H fun v H' => putK o.dst fr v fun fr' => opsK P q S all rest fr' H' K
    | some (j, want) => match (all[j]?).bind (·.dst) with
      | none => False
      | some t => guardK P q S o want t fr H fun fr' H' => opsK P q S all rest fr' H' K) := rfl

theorem rd_set_self {fr : Fr} {t : Nat} {v : Value} (h : rd fr t = v) (hv : v ≠ undef) : fr.set t v = fr := by
  unfold rd at h
  rcases Nat.lt_or_ge t fr.length with hl | hl
  · rw [List.getD_eq_getElem?_getD, List.getElem?_eq_getElem hl] at h
    subst h
    exact List.set_getElem_self hl
  · rw [List.getD_eq_getElem?_getD, List.getElem?_eq_none hl] at h
    exact absurd h.symm hv
theorem yielded_at {ops : List Oper} {fr : Fr} {a : Act} (hat : At fr a) {j t : Nat} (hj : (ops[j]?).bind (·.dst) = some t) {b : Bool} (hv : rd fr t = .bool b) :
    yielded ops.toArray a.tmps j = some b := by
  obtain ⟨rfl, _⟩ := hat
  unfold yielded
  have : ((ops.toArray[j]?).bind (·.dst)) = some t := by simpa using hj
  rw [this]
  unfold rd at hv
  rw [List.getD_eq_getElem?_getD] at hv
  simp only [Option.bind_some]
  cases h : a.tmps[t]? with
  | none => simp [h, undef] at hv
  | some v => simp [h] at hv; simp [hv]

theorem yielded_no {ops : List Oper} {fr : Fr} {a : Act} (hat : At fr a) {j t : Nat} (hj : (ops[j]?).bind (·.dst) = some t) {vs : Array Value} (hv : rd fr t = .tuple vs) :
    yielded ops.toArray a.tmps j = none := by
  obtain ⟨rfl, _⟩ := hat
  unfold yielded
  have : ((ops.toArray[j]?).bind (·.dst)) = some t := by simpa using hj
  rw [this]
  unfold rd at hv
  rw [List.getD_eq_getElem?_getD] at hv
  simp only [Option.bind_some]
  cases h : a.tmps[t]? with
  | none => rfl
  | some v => simp [h] at hv; simp [hv]

theorem opsK_sound {P : Program} {all : List Oper} {Q : Exit → Act → World → Prop} : ∀ (l : List Oper) (fr : Fr) (a : Act) (w : World) (K : Fr → Heap → Prop), At fr a →
    (∀ fr' a' w', At fr' a' → Env w w' → K fr' w'.heap → Q .normal a' w') →
    opsK P false (fun _ => True) all l fr w.heap K → wpList P all.toArray Q l a w
  | [], fr, a, w, K, hat, hq, h => hq fr a w hat (Env.refl w) h
  | o :: l, fr, a, w, K, hat, hq, h => by
    have go : ∀ (want : Bool), (want = true → OpOk P o a w fun v H' => putK o.dst fr v fun fr' => opsK P false (fun _ => True) all l fr' H' K) →
        (want = false → putK o.dst fr undef fun fr' => opsK P false (fun _ => True) all l fr' w.heap K) →
        Region.wanted o (yielded all.toArray a.tmps) = want → wpList P all.toArray Q (o :: l) a w := by
      intro want h1 h2 hw
      unfold wpList
      rw [hw]
      cases want with
      | true =>
        refine .inl (Oper.wp_mono ?_ (h1 rfl _))
        rintro a' w' ⟨v, rfl, henv, hk⟩
        rw [putK_eq] at hk
        exact opsK_sound l _ _ _ K (hat.put o.dst v) (fun fr' a' w'' h1 h2 h3 => hq fr' a' w'' h1 (henv.trans h2) h3) hk
      | false =>
        have h3 := h2 rfl
        rw [putK_eq] at h3
        exact opsK_sound l _ _ _ K (hat.put o.dst undef) hq h3
    rw [opsK_cons] at h
    split at h
    · rename_i hg
      exact go true (fun _ => opK_sound hat h) (fun h => by cases h) (by simp [Region.wanted, hg])
    · rename_i j want hg
      split at h
      · exact h.elim
      · rename_i t ht
        unfold guardK at h
        simp only [apK] at h
        rw [rdK_eq] at h
        split at h
        · rename_i b hb
          have hy := yielded_at hat ht hb
          have hs : fr.set t (.bool b) = fr := rd_set_self hb (by simp [undef])
          cases b <;> cases want <;> simp only [VIte, wrK_eq, hs] at h
          · exact go true (fun _ => opK_sound hat h) (fun h => by cases h) (by simp [Region.wanted, hg, hy])
          · exact go false (fun h => by cases h) (fun _ => h) (by simp [Region.wanted, hg, hy])
          · exact go false (fun h => by cases h) (fun _ => h) (by simp [Region.wanted, hg, hy])
          · exact go true (fun _ => opK_sound hat h) (fun h => by cases h) (by simp [Region.wanted, hg, hy])
        · rename_i vs hb
          exact go false (fun h => by cases h) (fun _ => h) (by simp [Region.wanted, hg, yielded_no hat ht hb])
        · exact h.elim

theorem wp_opsK {P : Program} {id : Nat} {l : List Oper} {Q : Exit → Act → World → Prop} {fr : Fr} {a : Act} {w : World} {K : Fr → Heap → Prop} (hat : At fr a)
    (hq : ∀ fr' a' w', At fr' a' → Env w w' → K fr' w'.heap → Q .normal a' w')
    (h : opsK P false (fun _ => True) l l fr w.heap K) : (Code.region id l.toArray false).wp P Q a w :=
  wp_region_lit (opsK_sound l fr a w K hat hq h)

/-- The same for a region whose order is open and whose operations only read: one walk in the text's order. -/
theorem opsK_quiet {P : Program} {S : Nat → Prop} {all : List Oper} {w0 : World} : ∀ (l : List Oper) (fr : Fr) (a : Act) (K : Fr → Heap → Prop) (Q : Act → Prop), At fr a →
    (∀ fr' a', At fr' a' → K fr' w0.heap → Q a') →
    opsK P true S all l fr w0.heap K → wpQuiet P all.toArray (Cls w0 S) Q l a
  | [], fr, a, K, Q, hat, hq, h => hq fr a hat h
  | o :: l, fr, a, K, Q, hat, hq, h => by
    have go : ∀ (want : Bool), (want = true → opK P true S o fr w0.heap fun v H' => putK o.dst fr v fun fr' => opsK P true S all l fr' H' K) →
        (want = false → putK o.dst fr undef fun fr' => opsK P true S all l fr' w0.heap K) →
        Region.wanted o (yielded all.toArray a.tmps) = want → wpQuiet P all.toArray (Cls w0 S) Q (o :: l) a := by
      intro want h1 h2 hw
      unfold wpQuiet
      rw [hw]
      cases want with
      | true =>
        obtain ⟨v, hv, hk⟩ := opK_quiet hat (h1 rfl)
        rw [putK_eq] at hk
        exact ⟨v, hv, opsK_quiet l _ _ K Q (hat.put o.dst v) hq hk⟩
      | false =>
        have h3 := h2 rfl
        rw [putK_eq] at h3
        exact opsK_quiet l _ _ K Q (hat.put o.dst undef) hq h3
    rw [opsK_cons] at h
    split at h
    · rename_i hg
      exact go true (fun _ => h) (fun h => by cases h) (by simp [Region.wanted, hg])
    · rename_i j want hg
      split at h
      · exact h.elim
      · rename_i t ht
        unfold guardK at h
        simp only [apK] at h
        rw [rdK_eq] at h
        split at h
        · rename_i b hb
          have hy := yielded_at hat ht hb
          have hs : fr.set t (.bool b) = fr := rd_set_self hb (by simp [undef])
          cases b <;> cases want <;> simp only [VIte, wrK_eq, hs] at h
          · exact go true (fun _ => h) (fun h => by cases h) (by simp [Region.wanted, hg, hy])
          · exact go false (fun h => by cases h) (fun _ => h) (by simp [Region.wanted, hg, hy])
          · exact go false (fun h => by cases h) (fun _ => h) (by simp [Region.wanted, hg, hy])
          · exact go true (fun _ => h) (fun h => by cases h) (by simp [Region.wanted, hg, hy])
        · rename_i vs hb
          exact go false (fun h => by cases h) (fun _ => h) (by simp [Region.wanted, hg, yielded_no hat ht hb])
        · exact h.elim

/-- A region whose order is open. -/
structure VDraw (P : Program) (l : List Oper) (fr : Fr) (H : Heap) (K : Fr → Heap → Prop) : Prop where
  in_ ::
  out_ : ∀ (id : Nat) (Q : Exit → Act → World → Prop) (a : Act) (w : World), At fr a → w.heap = H → (∀ c a w, ¬ Q (.panic c) a w) →
    (∀ fr' a' w', At fr' a' → Env w w' → K fr' w'.heap → Q .normal a' w') → (Code.region id l.toArray true).wp P Q a w

theorem VDraw.quiet {P : Program} {l : List Oper} {fr : Fr} {H : Heap} {K : Fr → Heap → Prop} (S : Nat → Prop) (hm : P.follows .mixedOrders = true)
    (hB : Region.lexB .any l.toArray = true) (h : opsK P true S l l fr H fun fr' _ => ∀ H', Agr S H H' → K fr' H') : VDraw P l fr H K := by
  refine ⟨?_⟩
  intro id Q a w hat hw _ hq
  subst hw
  refine wp_region_quiet (C := Cls w S) hm hB ⟨⟨rfl, rfl, rfl⟩, Agr.refl _ _⟩ ?_
  exact opsK_quiet l fr a _ _ hat (fun fr' a' hat' hk w' hw' => hq fr' a' w' hat' hw'.1 (hk _ hw'.2)) h
theorem agr_all {H H' : Heap} (h : Agr (fun _ => True) H H') : H' = H := Array.ext_getElem? fun i => h i trivial
/-- All its operations only read. -/
theorem VDraw.lex {P : Program} {l : List Oper} {fr : Fr} {H : Heap} {K : Fr → Heap → Prop} (hm : P.follows .mixedOrders = true)
    (hB : Region.lexB .any l.toArray = true) (h : opsK P true (fun _ => True) l l fr H K) : VDraw P l fr H K := by
  refine ⟨?_⟩
  intro id Q a w hat hw _ hq
  subst hw
  refine wp_region_quiet (C := Cls w fun _ => True) hm hB ⟨⟨rfl, rfl, rfl⟩, Agr.refl _ _⟩ ?_
  exact opsK_quiet l fr a K _ hat (fun fr' a' hat' hk w' hw' => hq fr' a' w' hat' hw'.1 (by rw [agr_all hw'.2]; exact hk)) h

/-- Whatever order is picked from here on, and S holds behind every operation but z. -/
def wpAnyT (P : Program) (ops : Array Oper) (Q : Exit → Act → World → Prop) (S : World → Prop) (z : Nat) : Nat → Array Bool → Act → World → Prop
  | 0, listed, a, w => Region.ready .any ops listed = [] ∧ Q .normal a w
  | fuel + 1, listed, a, w =>
    (Region.ready .any ops listed = [] → Q .normal a w) ∧
    ∀ i ∈ Region.ready .any ops listed, wpOp P ops Q i (fun a' w' => (i ≠ z → S w') ∧ wpAnyT P ops Q S z fuel (listed.setIfInBounds i true) a' w') a w

theorem wpAny_of_T {P : Program} {ops : Array Oper} {Q : Exit → Act → World → Prop} {S : World → Prop} {z : Nat} : ∀ (fuel : Nat) (listed : Array Bool) (a : Act) (w : World),
    wpAnyT P ops Q S z fuel listed a w → wpAny P .any ops Q fuel listed a w
  | 0, _, _, _, h => h
  | fuel + 1, _, _, _, h => ⟨h.1, fun i hi => wpOp_mono (fun a' w' h' => wpAny_of_T fuel _ a' w' h'.2) (h.2 i hi)⟩

theorem wpAnyT_first {P : Program} {ops : Array Oper} {Q : Exit → Act → World → Prop} {S : World → Prop} {z : Nat} {i : Nat} {oi : Oper} {v : Value} (hi : ops[i]? = some oi)
    (hsel : ∀ (j : Nat) (o : Oper) cs b, ops[j]? = some o → o.op ≠ .select cs b)
    (hQ : ∀ c a w, Q (.panic c) (a.put oi.dst v) w → Q (.panic c) a w) (hiz : i ≠ z) (hz : ∀ oz, ops[z]? = some oz → ∃ e ∈ oz.after, Region.binds .any e = true ∧ e.on = i) :
    ∀ (fuel : Nat) (listed : Array Bool) (a : Act) (w : World),
      (∀ j oj, ops[j]? = some oj → j ≠ i → listed.getD j true = false → (∀ e ∈ oj.after, Region.binds .any e = true → e.on ≠ i) → oi.apart ops oj = true) →
      i ∈ Region.ready .any ops listed → YieldsIf P ops S oi v a → S w →
      wpAnyT P ops Q S z fuel (listed.setIfInBounds i true) (a.put oi.dst v) w → wpAnyT P ops Q S z (fuel + 1) listed a w := by
  intro fuel
  induction fuel with
  | zero =>
    intro listed a w _ hr hy hS H
    refine ⟨fun h => (by rw [h] at hr; cases hr), fun j hj => ?_⟩
    by_cases hji : j = i
    · subst hji; exact hy.wpOp hi hS ⟨fun _ => hS, H⟩
    · have := ready_mono hj hji
      rw [H.1] at this
      cases this
  | succ fuel ih =>
    intro listed a w hfree hr hy hS H
    refine ⟨fun h => (by rw [h] at hr; cases hr), fun j hj => ?_⟩
    by_cases hji : j = i
    · subst hji; exact hy.wpOp hi hS ⟨fun _ => hS, H⟩
    · have h1 := H.2 j (ready_mono hj hji)
      obtain ⟨hjun, oj, hoj, hall⟩ := mem_ready.1 hj
      have hnot : ∀ e ∈ oj.after, Region.binds .any e = true → e.on ≠ i := fun e he hb heq => by
        have h1 := hall e he hb
        have h0 := (mem_ready.1 hr).1
        rw [heq] at h1
        rcases Nat.lt_or_ge i listed.size with h' | h'
        · simp [h'] at h0 h1; rw [h0] at h1; cases h1
        · simp [Array.getElem?_eq_none h'] at h1
      have hjz : j ≠ z := by
        intro hjz
        subst hjz
        obtain ⟨e, he, hb, hon⟩ := hz oj hoj
        exact hnot e he hb hon
      have h2 := wpOp_putIf hoj (hfree j oj hoj hji hjun hnot) (fun cs b => hsel i oi cs b hi) (fun cs b => hsel j oj cs b hoj) hQ hy h1
      have hfree' : ∀ k ok, ops[k]? = some ok → k ≠ i → (listed.setIfInBounds j true).getD k true = false →
          (∀ e ∈ ok.after, Region.binds .any e = true → e.on ≠ i) → oi.apart ops ok = true := fun k ok hk hki hun hno => by
        refine hfree k ok hk hki ?_ hno
        by_cases hjk : j = k
        · subst hjk; exact hjun
        · rw [getD_set_ne true hjk] at hun; exact hun
      refine wpOp_mono (fun a' w' h3 => ⟨fun _ => h3.2.1 hjz, ih (listed.setIfInBounds j true) a' w' hfree' (ready_mono hr (Ne.symm hji)) h3.1 (h3.2.1 hjz) ?_⟩) h2
      rw [Array.setIfInBounds_comm _ _ hji]
      exact h3.2.2

/-- An order that is handed in. q: an operation that only reads, and may be taken first; f: it alone can come up; b: one of two comes up; e: the end. -/
inductive Sch where
  | e
  | q (i : Nat) (s : Sch)
  | f (i : Nat) (s : Sch)
  | b (i : Nat) (s : Sch) (j : Nat) (s' : Sch)
def sq : List Nat → Sch → Sch
  | [], s => s
  | i :: l, s => .q i (sq l s)

/-- One operation of the order, carried out here; z: the last one, behind all others (or none). -/
def stepK (P : Program) (S : Nat → Prop) (z : Nat) (H0 : Heap) (all : List Oper) (i : Nat) (fr : Fr) (H : Heap) (next : Fr → Heap → Prop) : Prop :=
  match all[i]? with
  | none => False
  | some o => match o.guard with
    | some _ => False
    | none => match Nat.beq i z with
      | true => opK P false (fun _ => True) o fr H fun v H' => putK o.dst fr v fun fr' => next fr' H'
      | false => opK P false (fun _ => True) o fr H fun v H' => Agr S H0 H' ∧ putK o.dst fr v fun fr' => next fr' H'
def heldK (P : Program) (S : Nat → Prop) (z : Nat) (H0 : Heap) (all : List Oper) (s : Sch) : Fr → Heap → (Fr → Heap → Prop) → Prop :=
  Sch.rec (motive := fun _ => Fr → Heap → (Fr → Heap → Prop) → Prop) (fun fr H K => K fr H)
    (fun i _ ih fr H K => match all[i]? with
      | none => False
      | some o => match o.guard with
        | some _ => False
        | none => match isDet o && convDet P o with
          | true => detK P S o fr H fun v => putK o.dst fr v fun fr' => ih fr' H K
          | false => False)
    (fun i _ ih fr H K => stepK P S z H0 all i fr H fun fr' H' => ih fr' H' K)
    (fun i _ j _ ih ih' fr H K => (stepK P S z H0 all i fr H fun fr' H' => ih fr' H' K) ∧ stepK P S z H0 all j fr H fun fr' H' => ih' fr' H' K) s
theorem heldK_q (P : Program) (S : Nat → Prop) (z : Nat) (H0 : Heap) (all : List Oper) (i : Nat) (s : Sch) (fr : Fr) (H : Heap) (K : Fr → Heap → Prop) : heldK P S z H0 all (.q i s) fr H K =
    (match all[i]? with
      | none => False
      | some o => match o.guard with
        | some _ => False
        | none => match isDet o && convDet P o with
          | true => detK P S o fr H fun v => putK o.dst fr v fun fr' => heldK P S z H0 all s fr' H K
          | false => False) := rfl

def heldB (ops : Array Oper) (z : Nat) : Sch → Array Bool → Bool
  | .e, listed => (Region.ready .any ops listed).isEmpty
  | .q i s, listed => (Region.ready .any ops listed).contains i && Region.free .any ops listed i && !(Nat.beq i z) && (decide (ops.size ≤ z) || Region.waitsFor .any ops z i) && heldB ops z s (listed.setIfInBounds i true)
  | .f i s, listed => Region.ready .any ops listed == [i] && (!(Nat.beq i z) || (match s with | .e => true | _ => false)) && heldB ops z s (listed.setIfInBounds i true)
  | .b i s j s', listed => Region.ready .any ops listed == [i, j] && !(Nat.beq i z) && !(Nat.beq j z) && heldB ops z s (listed.setIfInBounds i true) && heldB ops z s' (listed.setIfInBounds j true)
def Sch.len : Sch → Nat
  | .e => 0
  | .q _ s => s.len + 1
  | .f _ s => s.len + 1
  | .b _ s _ _ => s.len + 1
def Sch.even : Sch → Bool
  | .e => true
  | .q _ s => s.even
  | .f _ s => s.even
  | .b _ s _ s' => s.even && s'.even && s.len == s'.len

theorem stepK_sound {P : Program} {S : Nat → Prop} {z : Nat} {w0 : World} {all : List Oper} {Q : Exit → Act → World → Prop} {i : Nat} {fr : Fr} {a : Act} {w : World} {next : Fr → Heap → Prop} {N : Act → World → Prop}
    (hat : At fr a) (hc : Env w0 w) (h : stepK P S z w0.heap all i fr w.heap next)
    (hn : ∀ fr' a' w', At fr' a' → Env w0 w' → (i ≠ z → Cls w0 S w') → next fr' w'.heap → N a' w') : wpOp P all.toArray Q i N a w := by
  unfold stepK at h
  split at h
  · exact h.elim
  · rename_i o ho
    have ho' : all.toArray[i]? = some o := by simpa using ho
    split at h
    · exact h.elim
    · rename_i hg
      have hwant : Region.wanted o (yielded all.toArray a.tmps) = true := by simp [Region.wanted, hg]
      unfold wpOp
      rw [ho']
      dsimp only
      rw [if_pos hwant]
      split at h
      · rename_i hz
        refine .inl (Oper.wp_mono ?_ (opK_sound hat h _))
        rintro a' w' ⟨v, rfl, henv, hk⟩
        rw [putK_eq] at hk
        exact hn _ _ _ (hat.put o.dst v) (hc.trans henv) (fun hne => absurd (Nat.eq_of_beq_eq_true hz) hne) hk
      · refine .inl (Oper.wp_mono ?_ (opK_sound hat h _))
        rintro a' w' ⟨v, rfl, henv, hagr, hk⟩
        rw [putK_eq] at hk
        exact hn _ _ _ (hat.put o.dst v) (hc.trans henv) (fun _ => ⟨hc.trans henv, hagr⟩) hk

theorem heldK_sound {P : Program} {S : Nat → Prop} {z : Nat} {w0 : World} {all : List Oper} {Q : Exit → Act → World → Prop} (hs : Region.noSelect all.toArray = true)
    (hp : ∀ c a w, ¬ Q (.panic c) a w) : ∀ (l : Sch) (listed : Array Bool) (fr : Fr) (a : Act) (w : World) (K : Fr → Heap → Prop), At fr a → (l = .e → Env w0 w) → (l ≠ .e → Cls w0 S w) →
    (∀ fr' a' w', At fr' a' → Env w0 w' → K fr' w'.heap → Q .normal a' w') → heldB all.toArray z l listed = true → l.even = true →
    heldK P S z w0.heap all l fr w.heap K → wpAnyT P all.toArray Q (Cls w0 S) z l.len listed a w
  | .e, listed, fr, a, w, K, hat, he, _, hq, hB, _, h => ⟨by simpa [heldB] using hB, hq fr a w hat (he rfl) h⟩
  | .q i s, listed, fr, a, w, K, hat, _, hc, hq, hB, hev, h => by
    have hc := hc (by simp)
    simp only [heldB, Bool.and_eq_true, Bool.or_eq_true, decide_eq_true_eq, Bool.not_eq_true'] at hB
    obtain ⟨⟨⟨⟨b1, b2⟩, b3⟩, b4⟩, hB2⟩ := hB
    rw [heldK_q] at h
    split at h
    · exact h.elim
    · rename_i o ho
      have ho' : all.toArray[i]? = some o := by simpa using ho
      split at h
      · exact h.elim
      · rename_i hg
        have hwant : Region.wanted o (yielded all.toArray a.tmps) = true := by simp [Region.wanted, hg]
        split at h
        · obtain ⟨v, hv, hk⟩ := detK_sound h
          rw [putK_eq] at hk
          refine wpAnyT_first (v := v) ho' (Region.noSelect_spec hs) (fun c a' w' hh => (hp _ _ _ hh).elim) (Nat.ne_of_beq_eq_false b3) ?_ s.len listed a w (Region.free_spec ho' b2) (by simpa using b1)
            (.inl ⟨hwant, fun w' hw' => ?_⟩) hc ?_
          · intro oz hoz
            rcases b4 with b4 | b4
            · rw [Array.getElem?_eq_none b4] at hoz; cases hoz
            · obtain ⟨oj, hoj, e, he, hb, hon⟩ := Region.waitsFor_spec b4
              have : oj = oz := Option.some.inj (hoj.symm.trans hoz)
              subst this
              exact ⟨e, he, hb, hon⟩
          · rw [hat.evalF]
            exact hv w' fun k hk => (hw'.2 k hk).trans (hc.2 k hk).symm
          · exact heldK_sound hs hp s _ _ _ w K (hat.put o.dst v) (fun _ => hc.1) (fun _ => hc) hq hB2 hev hk
        · exact h.elim
  | .f i s, listed, fr, a, w, K, hat, _, hc, hq, hB, hev, h => by
    have hcl := hc (by simp)
    simp only [heldB, Bool.and_eq_true, Bool.or_eq_true, Bool.not_eq_true', beq_iff_eq] at hB
    obtain ⟨⟨b1, b2⟩, hB2⟩ := hB
    refine ⟨(fun h0 => by rw [b1] at h0; cases h0), fun j hj => ?_⟩
    rw [b1] at hj
    obtain rfl : j = i := by simpa using hj
    refine stepK_sound hat hcl.1 h fun fr' a' w' h1 h2 h3 h4 => ⟨h3, heldK_sound hs hp s _ _ _ w' K h1 (fun _ => h2) (fun hne => h3 fun hjz => ?_) hq hB2 hev h4⟩
    rcases b2 with b2 | b2
    · exact Nat.ne_of_beq_eq_false b2 hjz
    · cases s <;> first | exact hne rfl | cases b2
  | .b i s j s', listed, fr, a, w, K, hat, _, hc, hq, hB, hev, h => by
    have hcl := hc (by simp)
    simp only [heldB, Bool.and_eq_true, Bool.not_eq_true', beq_iff_eq] at hB
    obtain ⟨⟨⟨⟨b1, b2⟩, b3⟩, hB2⟩, hB3⟩ := hB
    simp only [Sch.even, Bool.and_eq_true, beq_iff_eq] at hev
    obtain ⟨⟨e1, e2⟩, e3⟩ := hev
    refine ⟨(fun h0 => by rw [b1] at h0; cases h0), fun k hk => ?_⟩
    rw [b1] at hk
    rcases List.mem_cons.1 hk with rfl | hk
    · exact stepK_sound hat hcl.1 h.1 fun fr' a' w' h1 h2 h3 h4 => ⟨h3, heldK_sound hs hp s _ _ _ w' K h1 (fun _ => h2) (fun _ => h3 (Nat.ne_of_beq_eq_false b2)) hq hB2 e1 h4⟩
    · obtain rfl : k = j := by simpa using hk
      rw [e3]
      exact stepK_sound hat hcl.1 h.2 fun fr' a' w' h1 h2 h3 h4 => ⟨h3, heldK_sound hs hp s' _ _ _ w' K h1 (fun _ => h2) (fun _ => h3 (Nat.ne_of_beq_eq_false b3)) hq hB3 e2 h4⟩

theorem VDraw.held {P : Program} {l : List Oper} {fr : Fr} {H : Heap} {K : Fr → Heap → Prop} (S : Nat → Prop) (z : Nat) (sched : Sch) (hm : P.follows .mixedOrders = true)
    (hB : (Region.noSelect l.toArray && (sched.len == l.length) && sched.even && heldB l.toArray z sched (Array.replicate l.length false)) = true)
    (h : heldK P S z H l sched fr H K) : VDraw P l fr H K := by
  refine ⟨?_⟩
  intro id Q a w hat hw hp hq
  subst hw
  simp only [Bool.and_eq_true, beq_iff_eq] at hB
  refine wp_region_any hm (wpAny_of_T (S := Cls w S) (z := z) _ _ _ _ ?_)
  have := heldK_sound (P := P) (S := S) (z := z) (w0 := w) (Q := Q) hB.1.1.1 hp sched (Array.replicate l.length false) fr a { w with drawn := w.drawn + 1 } K hat (fun _ => ⟨rfl, rfl, rfl⟩) (fun _ => ⟨⟨rfl, rfl, rfl⟩, Agr.refl _ _⟩) hq hB.2 hB.1.2 h
  rw [hB.1.1.2] at this
  simpa using this
/-- All but the last only read. -/
theorem VDraw.tail {P : Program} {l : List Oper} {fr : Fr} {H : Heap} {K : Fr → Heap → Prop} (z : Nat) (sched : Sch) (hm : P.follows .mixedOrders = true)
    (hB : (Region.noSelect l.toArray && (sched.len == l.length) && sched.even && heldB l.toArray z sched (Array.replicate l.length false)) = true)
    (h : heldK P (fun _ => True) z H l sched fr H K) : VDraw P l fr H K := VDraw.held _ z sched hm hB h

theorem VDraw.out {P : Program} {l : List Oper} {fr : Fr} {H : Heap} {K : Fr → Heap → Prop} (h : VDraw P l fr H K) :
    ∀ (id : Nat) (Q : Exit → Act → World → Prop) (a : Act) (w : World), At fr a → w.heap = H → (∀ c a w, ¬ Q (.panic c) a w) →
    (∀ fr' a' w', At fr' a' → Env w w' → K fr' w'.heap → Q .normal a' w') → (Code.region id l.toArray true).wp P Q a w := by
  exact h.out_

/-! ### code -/
/-- What is asked at an exit, in terms of frames and heaps. -/
def Lift (w0 : World) (Q : Exit → Fr → Heap → Prop) : Exit → Act → World → Prop
  | .panic _, _, _ => False
  | .outgrown, _, _ => False
  | e, a, w => ∃ fr, At fr a ∧ Env w0 w ∧ Q e fr w.heap

theorem Lift.mk {w0 w : World} {Q : Exit → Fr → Heap → Prop} {fr : Fr} {a : Act} (hat : At fr a) (henv : Env w0 w) :
    ∀ {e : Exit}, (∀ c, e ≠ .panic c) → e ≠ .outgrown → Q e fr w.heap → Lift w0 Q e a w
  | .normal, _, _, h | .exit _, _, _, h | .goto _, _, _, h | .ret, _, _, h => ⟨fr, hat, henv, h⟩
  | .panic c, h, _, _ => absurd rfl (h c)
  | .outgrown, _, h, _ => absurd rfl h

/-- What is asked at the exits: kn behind the code, X behind its blocks, kr where the function returns. -/
def exitK (X : List (Nat × (Fr → Heap → Prop))) (id : Nat) (fr : Fr) (H : Heap) : Prop :=
  match X with
  | [] => False
  | (j, k) :: X => match Nat.beq j id with
    | true => k fr H
    | false => exitK X id fr H
def Qx (kn : Fr → Heap → Prop) (X : List (Nat × (Fr → Heap → Prop))) (kr : Fr → Heap → Prop) (e : Exit) (fr : Fr) (H : Heap) : Prop :=
  match e with
  | .normal => kn fr H
  | .exit id => exitK X id fr H
  | .ret => kr fr H
  | _ => False

/-- A loop. -/
structure VLoop (P : Program) (c : Code) (fr : Fr) (H : Heap) (X : List (Nat × (Fr → Heap → Prop))) (kr : Fr → Heap → Prop) : Prop where
  in_ ::
  out_ : ∀ (a : Act) (w : World), At fr a → w.heap = H → (Code.loop c).wp P (Lift w (Qx (fun _ _ => False) X kr)) a w

def fallsC : Code → Bool
  | .ret | .exit _ | .goto _ => false
  | .seq a b => fallsC a && fallsC b
  | .cond _ a b => fallsC a || fallsC b
  | _ => true
/-- How often a block is left by an exit. -/
def exitsC (id : Nat) : Code → Nat
  | .exit j => match Nat.beq j id with
    | true => 1
    | false => 0
  | .seq a b => exitsC id a + exitsC id b
  | .cond _ a b => exitsC id a + exitsC id b
  | .block _ c => exitsC id c
  | .loop c => exitsC id c
  | _ => 0
/-- Does the code part and meet again? -/
def joinsC : Code → Bool
  | .seq _ b => joinsC b
  | .cond _ a b => fallsC a && fallsC b
  | .block id (.loop c) => Nat.blt 1 (exitsC id c)
  | .block id c => (fallsC c && Nat.blt 0 (exitsC id c)) || Nat.blt 1 (exitsC id c) || joinsC c
  | _ => false

/-- Two pieces of code of which the first parts and meets again. -/
structure VSeq (P : Program) (x y : Code) (fr : Fr) (H : Heap) (kn : Fr → Heap → Prop) (X : List (Nat × (Fr → Heap → Prop))) (kr : Fr → Heap → Prop) : Prop where
  in_ ::
  out_ : ∀ (a : Act) (w : World), At fr a → w.heap = H → (Code.seq x y).wp P (Lift w (Qx kn X kr)) a w

def vc (P : Program) (c : Code) : Fr → Heap → (Fr → Heap → Prop) → List (Nat × (Fr → Heap → Prop)) → (Fr → Heap → Prop) → Prop :=
  Code.rec (motive := fun _ => Fr → Heap → (Fr → Heap → Prop) → List (Nat × (Fr → Heap → Prop)) → (Fr → Heap → Prop) → Prop)
    (fun fr H kn _ _ => kn fr H)
    (fun _ ops draw fr H kn _ _ => match draw with
      | false => opsK P false (fun _ => True) ops.toList ops.toList fr H kn
      | true => VDraw P ops.toList fr H kn)
    (fun a b iha ihb fr H kn X kr => match joinsC a with
      | true => VSeq P a b fr H kn X kr
      | false => iha fr H (fun fr' H' => ihb fr' H' kn X kr) X kr)
    (fun c _ _ ihx ihy fr H kn X kr => match c with
      | .tmp t => rdK fr t fun v => match v with
        | .bool b => VIte b (wrK fr t (.bool true) fun fr1 => ihx fr1 H kn X kr) (wrK fr t (.bool false) fun fr1 => ihy fr1 H kn X kr)
        | _ => False
      | .const (.bool b) => VIte b (ihx fr H kn X kr) (ihy fr H kn X kr)
      | _ => False)
    (fun id _ ih fr H kn X kr => ih fr H kn ((id, kn) :: X) kr)
    (fun c _ fr H _ X kr => VLoop P c fr H X kr)
    (fun _ _ _ _ _ _ _ _ _ _ _ => False)
    (fun id fr H _ X _ => exitK X id fr H)
    (fun _ _ _ _ _ _ _ => False)
    (fun _ _ _ _ _ _ => False)
    (fun _ _ _ _ _ _ => False)
    (fun fr H _ _ kr => kr fr H)
    (fun _ _ _ _ _ _ => False) c
section
variable (P : Program) (a b : Code) (fr : Fr) (H : Heap) (kn : Fr → Heap → Prop) (X : List (Nat × (Fr → Heap → Prop))) (kr : Fr → Heap → Prop)
theorem vc_region (id : Nat) (ops : Array Oper) (draw : Bool) : vc P (.region id ops draw) fr H kn X kr = (match draw with
      | false => opsK P false (fun _ => True) ops.toList ops.toList fr H kn
      | true => VDraw P ops.toList fr H kn) := rfl
theorem vc_seq : vc P (.seq a b) fr H kn X kr = (match joinsC a with
      | true => VSeq P a b fr H kn X kr
      | false => vc P a fr H (fun fr' H' => vc P b fr' H' kn X kr) X kr) := rfl
theorem vc_cond (c : Operand) : vc P (.cond c a b) fr H kn X kr = (match c with
      | .tmp t => rdK fr t fun v => match v with
        | .bool x => VIte x (wrK fr t (.bool true) fun fr1 => vc P a fr1 H kn X kr) (wrK fr t (.bool false) fun fr1 => vc P b fr1 H kn X kr)
        | _ => False
      | .const (.bool x) => VIte x (vc P a fr H kn X kr) (vc P b fr H kn X kr)
      | _ => False) := rfl
theorem vc_block (id : Nat) : vc P (.block id a) fr H kn X kr = vc P a fr H kn ((id, kn) :: X) kr := rfl
end

theorem VLoop.out {P : Program} {c : Code} {fr : Fr} {H : Heap} {X : List (Nat × (Fr → Heap → Prop))} {kr : Fr → Heap → Prop} (h : VLoop P c fr H X kr) :
    ∀ (a : Act) (w : World), At fr a → w.heap = H → (Code.loop c).wp P (Lift w (Qx (fun _ _ => False) X kr)) a w := by exact h.out_
theorem VSeq.out {P : Program} {x y : Code} {fr : Fr} {H : Heap} {kn : Fr → Heap → Prop} {X : List (Nat × (Fr → Heap → Prop))} {kr : Fr → Heap → Prop} (h : VSeq P x y fr H kn X kr) :
    ∀ (a : Act) (w : World), At fr a → w.heap = H → (Code.seq x y).wp P (Lift w (Qx kn X kr)) a w := by exact h.out_

theorem Lift.env {w0 w1 : World} {Q : Exit → Fr → Heap → Prop} (henv : Env w0 w1) : ∀ {e : Exit} {a : Act} {w : World}, Lift w1 Q e a w → Lift w0 Q e a w
  | .normal, _, _, ⟨fr, h1, h2, h3⟩ | .exit _, _, _, ⟨fr, h1, h2, h3⟩ | .goto _, _, _, ⟨fr, h1, h2, h3⟩ | .ret, _, _, ⟨fr, h1, h2, h3⟩ => ⟨fr, h1, henv.trans h2, h3⟩
theorem Lift.mono {w0 : World} {Q Q' : Exit → Fr → Heap → Prop} (hq : ∀ e fr H, Q e fr H → Q' e fr H) : ∀ {e : Exit} {a : Act} {w : World}, Lift w0 Q e a w → Lift w0 Q' e a w
  | .normal, _, _, ⟨fr, h1, h2, h3⟩ | .exit _, _, _, ⟨fr, h1, h2, h3⟩ | .goto _, _, _, ⟨fr, h1, h2, h3⟩ | .ret, _, _, ⟨fr, h1, h2, h3⟩ => ⟨fr, h1, h2, hq _ _ _ h3⟩

theorem seq_lift {P : Program} {x y : Code} {kn k1 : Fr → Heap → Prop} {X : List (Nat × (Fr → Heap → Prop))} {kr : Fr → Heap → Prop} {a : Act} {w : World}
    (hx : x.wp P (Lift w (Qx k1 X kr)) a w)
    (hy : ∀ fr a' w', At fr a' → Env w w' → k1 fr w'.heap → y.wp P (Lift w' (Qx kn X kr)) a' w') : (Code.seq x y).wp P (Lift w (Qx kn X kr)) a w := by
  refine wp_seq (Code.wp_mono ?_ hx)
  intro e a' w' h
  cases e with
  | normal =>
    obtain ⟨fr, h1, h2, h3⟩ := h
    exact Code.wp_mono (fun e a w h => Lift.env h2 h) (hy fr a' w' h1 h2 h3)
  | exit id => exact h
  | goto l => exact h
  | ret => exact h
  | panic c => exact h
  | outgrown => exact h

theorem vc_sound {P : Program} : ∀ (c : Code) (fr : Fr) (kn : Fr → Heap → Prop) (X : List (Nat × (Fr → Heap → Prop))) (kr : Fr → Heap → Prop) (a : Act) (w : World), At fr a →
    vc P c fr w.heap kn X kr → c.wp P (Lift w (Qx kn X kr)) a w
  | .skip, fr, kn, X, kr, a, w, hat, h => wp_skip ⟨fr, hat, Env.refl w, h⟩
  | .region id ops draw, fr, kn, X, kr, a, w, hat, h => by
    rw [vc_region] at h
    cases draw with
    | false =>
      have := wp_opsK (P := P) (id := id) (l := ops.toList) (Q := Lift w (Qx kn X kr)) hat (fun fr' a' w' h1 h2 h3 => ⟨fr', h1, h2, h3⟩) h
      simpa using this
    | true =>
      have := h.out id (Lift w (Qx kn X kr)) a w hat rfl (fun _ _ _ h => h) (fun fr' a' w' h1 h2 h3 => ⟨fr', h1, h2, h3⟩)
      simpa using this
  | .seq x y, fr, kn, X, kr, a, w, hat, h => by
    rw [vc_seq] at h
    split at h
    · exact h.out a w hat rfl
    · exact seq_lift (vc_sound x fr _ X kr a w hat h) fun fr' a' w' h1 _ h3 => vc_sound y fr' kn X kr a' w' h1 h3
  | .cond c x y, fr, kn, X, kr, a, w, hat, h => by
    rw [vc_cond] at h
    split at h
    · rename_i t
      rw [rdK_eq] at h
      split at h
      · rename_i b hb
        have hs : fr.set t (.bool b) = fr := rd_set_self hb (by simp [undef])
        have he : a.eval (.tmp t) = .bool b := by rw [hat.eval]; exact hb
        cases b <;> simp only [VIte, wrK_eq, hs] at h
        · exact wp_cond_false he (vc_sound y fr kn X kr a w hat h)
        · exact wp_cond_true he (vc_sound x fr kn X kr a w hat h)
      · exact h.elim
    · rename_i b
      cases b <;> simp only [VIte] at h
      · exact wp_cond_false rfl (vc_sound y fr kn X kr a w hat h)
      · exact wp_cond_true rfl (vc_sound x fr kn X kr a w hat h)
    · exact h.elim
  | .block id c, fr, kn, X, kr, a, w, hat, h => by
    rw [vc_block] at h
    refine wp_block (Code.wp_mono ?_ (vc_sound c fr kn _ kr a w hat h))
    intro e a' w' h
    cases e with
    | exit id' =>
      obtain ⟨fr', h1, h2, h3⟩ := h
      simp only [Qx, exitK] at h3
      simp only [Exit.inBlock]
      split at h3
      · rename_i hid
        have := Nat.eq_of_beq_eq_true hid
        rw [if_pos this.symm]
        exact ⟨fr', h1, h2, h3⟩
      · rename_i hid
        have : id ≠ id' := Nat.ne_of_beq_eq_false hid
        rw [if_neg (Ne.symm this)]
        exact ⟨fr', h1, h2, h3⟩
    | normal => exact h
    | goto l => exact h
    | ret => exact h
    | panic c => exact h
    | outgrown => exact h
  | .loop c, fr, kn, X, kr, a, w, hat, h => Code.wp_mono (fun e a w => Lift.mono fun e fr H hq => by
      cases e <;> first | exact hq | exact hq.elim) (h.out a w hat rfl)
  | .exit id, fr, kn, X, kr, a, w, hat, h => wp_exit ⟨fr, hat, Env.refl w, h⟩
  | .ret, fr, kn, X, kr, a, w, hat, h => wp_ret ⟨fr, hat, Env.refl w, h⟩
  | .rangeFunc .., _, _, _, _, _, _, _, h => h.elim
  | .scope _, _, _, _, _, _, _, _, h => h.elim
  | .label _, _, _, _, _, _, _, _, h => h.elim
  | .goto _, _, _, _, _, _, _, _, h => h.elim
  | .refuse _, _, _, _, _, _, _, _, h => h.elim

/-! ### loops -/
noncomputable def rdsK {R : Type} (fr : Fr) (ts : List Nat) : (List Value → R) → R :=
  List.rec (motive := fun _ => (List Value → R) → R) (fun K => K []) (fun t _ ih K => rdK fr t fun v => ih fun vs => K (v :: vs)) ts
noncomputable def wrsK {R : Type} (fr : Fr) (ts : List Nat) (vs : List Value) (K : Fr → R) : R :=
  List.rec (motive := fun _ => List Value → Fr → R) (fun _ fr => K fr) (fun t _ ih vs fr => List.casesOn vs (K fr) fun v vs => wrK fr t v fun fr' => ih vs fr') ts vs fr
/-- The slots of ws hold whatever. -/
noncomputable def havocK {R : Type} (f : Nat → Value) (fr : Fr) (ts : List Nat) (K : Fr → R) : R :=
  List.rec (motive := fun _ => Fr → R) (fun fr => K fr) (fun t _ ih fr => wrK fr t (f t) fun fr' => ih fr') ts fr

def wrs (fr : Fr) : List Nat → List Value → Fr
  | t :: ts, v :: vs => wrs (fr.set t v) ts vs
  | _, _ => fr
def havoc (f : Nat → Value) (fr : Fr) : List Nat → Fr
  | [] => fr
  | t :: ts => havoc f (fr.set t (f t)) ts
theorem rdsK_eq {R : Type} (fr : Fr) : ∀ (ts : List Nat) (K : List Value → R), rdsK fr ts K = K (ts.map (rd fr))
  | [], _ => rfl
  | t :: ts, K => by show rdK fr t (fun v => rdsK fr ts fun vs => K (v :: vs)) = _; simp only [rdK_eq, rdsK_eq fr ts, List.map_cons]
theorem wrsK_eq {R : Type} : ∀ (ts : List Nat) (vs : List Value) (fr : Fr) (K : Fr → R), wrsK fr ts vs K = K (wrs fr ts vs)
  | [], vs, fr, K => by cases vs <;> rfl
  | _ :: _, [], _, _ => rfl
  | t :: ts, v :: vs, fr, K => by show wrK fr t v (fun fr' => wrsK fr' ts vs K) = _; simp only [wrK_eq, wrs]; exact wrsK_eq ts vs _ K
theorem havocK_eq {R : Type} (f : Nat → Value) : ∀ (ts : List Nat) (fr : Fr) (K : Fr → R), havocK f fr ts K = K (havoc f fr ts)
  | [], _, _ => rfl
  | t :: ts, fr, K => by show wrK fr t (f t) (fun fr' => havocK f fr' ts K) = _; simp only [wrK_eq, havoc]; exact havocK_eq f ts _ K
theorem havoc_get (f : Nat → Value) : ∀ (ts : List Nat) (fr : Fr) (i : Nat), (havoc f fr ts)[i]? = if i ∈ ts ∧ i < fr.length then some (f i) else fr[i]?
  | [], fr, i => by simp [havoc]
  | t :: ts, fr, i => by
    simp only [havoc, havoc_get f ts, List.length_set, List.mem_cons, List.getElem?_set]
    by_cases h1 : i ∈ ts <;> by_cases h2 : i < fr.length <;> by_cases h3 : t = i
    all_goals simp [h1, h2, h3]
    all_goals first | (subst h3; simp [h2]; done) | (rw [if_neg (by omega)]; done) | (have : ¬ i = t := fun h => h3 h.symm; simp [this]; done) | skip
theorem havoc_length (f : Nat → Value) : ∀ (ts : List Nat) (fr : Fr), (havoc f fr ts).length = fr.length
  | [], _ => rfl
  | t :: ts, fr => by simp only [havoc, havoc_length f ts, List.length_set]
/-- A frame that is fr outside ws can be made from fr: the junk is what it holds there. -/
theorem havoc_of_blank {ws : List Nat} {fr fr' : Fr} (h : havoc (fun _ => undef) fr' ws = havoc (fun _ => undef) fr ws) : havoc (rd fr') fr ws = fr' := by
  have hl : fr'.length = fr.length := by have := congrArg List.length h; simpa [havoc_length] using this
  apply List.ext_getElem?
  intro i
  rw [havoc_get]
  have hi := congrArg (fun l : List Value => l[i]?) h
  simp only [havoc_get, hl] at hi
  by_cases h1 : i ∈ ws ∧ i < fr.length
  · rw [if_pos h1]
    simp [rd, List.getElem?_eq_getElem (hl ▸ h1.2)]
  · rw [if_neg h1] at hi ⊢
    rw [if_neg h1] at hi
    exact hi.symm
theorem wrs_self : ∀ (ts : List Nat) (fr : Fr), wrs fr ts (ts.map (rd fr)) = fr
  | [], _ => rfl
  | t :: ts, fr => by
    have hs : fr.set t (rd fr t) = fr := by
      unfold rd
      rcases Nat.lt_or_ge t fr.length with hl | hl
      · rw [List.getD_eq_getElem?_getD, List.getElem?_eq_getElem hl]; exact List.set_getElem_self hl
      · exact List.set_eq_of_length_le hl
    simp only [List.map_cons, wrs, hs]
    exact wrs_self ts fr

/-- The frame is as it was outside ws. -/
def keptK (ws : List Nat) (fr fr' : Fr) (p : Prop) : Prop :=
  havocK (fun _ => undef) fr' ws fun a => havocK (fun _ => undef) fr ws fun b => a = b ∧ p

theorem wp_loop_rel {P : Program} {c : Code} {Q : Exit → Act → World → Prop} (J : Nat → Act → World → Prop)
    (round : ∀ n a w, J n a w → c.wp P (Exit.then (fun a' w' => ∃ n', n' < n ∧ J n' a' w') Q) a w) : ∀ n a w, J n a w → (Code.loop c).wp P Q a w := by
  intro n0 a0 w0 h0 b k cs
  have key : ∀ n a w, J n a w → ∃ e a' w', Q e a' w' ∧ Arrives P (lone (b.at a (.code c :: .inLoop c :: k)) cs w) b k cs e a' w' := by
    intro n
    induction n using Nat.strongRecOn with
    | _ n ih =>
      intro a w hI
      obtain ⟨e, a₁, w₁, hq, harr⟩ := round n a w hI b (.inLoop c :: k) cs
      cases e with
      | normal =>
        obtain ⟨n', hlt, hI₁⟩ := hq
        obtain ⟨e₂, a₂, w₂, hq₂, harr₂⟩ := ih n' hlt a₁ w₁ hI₁
        exact ⟨e₂, a₂, w₂, hq₂, .of_steps (Steps.trans harr (.one step_inLoop)) harr₂⟩
      | exit id => exact ⟨_, a₁, w₁, hq, .pass (x := .inLoop c) rfl (fun _ _ => .inl (by simp)) harr⟩
      | goto l => exact ⟨_, a₁, w₁, hq, .pass (x := .inLoop c) rfl (fun _ _ => .inl (by simp)) harr⟩
      | ret => exact ⟨_, a₁, w₁, hq, .pass (x := .inLoop c) rfl (fun _ _ => .inl (by simp)) harr⟩
      | panic ch => exact ⟨_, a₁, w₁, hq, .pass (x := .inLoop c) rfl (fun _ _ => .inl (by simp)) harr⟩
      | outgrown => exact ⟨_, a₁, w₁, hq, .pass (x := .inLoop c) rfl (fun _ _ => .inl (by simp)) harr⟩
  obtain ⟨e, a', w', hq, harr⟩ := key n0 a0 w0 h0
  exact ⟨e, a', w', hq, .of_steps (.one step_loop) harr⟩

/-- The slots that a piece of code writes. -/
def wsOps : List Oper → List Nat → List Nat
  | [], acc => acc
  | o :: l, acc => match o.dst with
    | some d => d :: wsOps l acc
    | none => wsOps l acc
def wset : Code → List Nat → List Nat
  | .region _ ops _, acc => wsOps ops.toList acc
  | .seq a b, acc => wset a (wset b acc)
  | .cond _ a b, acc => wset a (wset b acc)
  | .block _ c, acc => wset c acc
  | .loop c, acc => wset c acc
  | .scope c, acc => wset c acc
  | _, acc => acc

/-- The rule of a loop: ts: those of the slots that it writes that are read from round to round, or behind it; enc: what they hold, by a state; I: what holds of the state and the heap at each round's head; m: what every round lowers. -/
theorem VLoop.mk {P : Program} {c : Code} {fr : Fr} {H : Heap} {X : List (Nat × (Fr → Heap → Prop))} {kr : Fr → Heap → Prop} {α : Type} (ts : List Nat) (enc : α → List Value) (I : α → Heap → Prop) (m : α → Heap → Nat)
    (h0 : rdsK fr ts fun vs => ∃ x, vs = enc x ∧ I x H)
    (hr : ∀ (x : α) (H1 : Heap) (junk : Nat → Value), I x H1 → havocK junk fr (wset c []) fun fr0 => wrsK fr0 ts (enc x) fun fr1 =>
      vc P c fr1 H1 (fun fr' H' => keptK (wset c []) fr fr' (rdsK fr' ts fun vs => ∃ y, vs = enc y ∧ I y H' ∧ m y H' < m x H1)) X kr) : VLoop P c fr H X kr := by
  generalize wset c [] = ws at hr
  refine ⟨?_⟩
  intro a w hat hw
  subst hw
  have h0' := h0
  rw [rdsK_eq] at h0'
  obtain ⟨x0, hx0, hi0⟩ := h0'
  let J (n : Nat) (a' : Act) (w' : World) : Prop := ∃ fr' x, At fr' a' ∧ Env w w' ∧ havoc (fun _ => undef) fr' ws = havoc (fun _ => undef) fr ws ∧ ts.map (rd fr') = enc x ∧ I x w'.heap ∧ m x w'.heap = n
  refine wp_loop_rel J ?_ _ a w ⟨fr, x0, hat, Env.refl w, rfl, hx0, hi0, rfl⟩
  rintro n a1 w1 ⟨fr1, x1, hat1, henv1, hk1, hx1, hi1, rfl⟩
  have h := hr x1 w1.heap (rd fr1) hi1
  rw [havocK_eq, wrsK_eq, havoc_of_blank hk1, ← hx1, wrs_self ts fr1] at h
  refine Code.wp_mono ?_ (vc_sound c fr1 _ X kr a1 w1 hat1 h)
  intro e a2 w2 h2
  cases e with
  | normal =>
    obtain ⟨fr2, hat2, henv2, h2⟩ := h2
    simp only [Qx, keptK, havocK_eq, rdsK_eq] at h2
    obtain ⟨hk2, y, hy, hiy, hm⟩ := h2
    exact ⟨m y w2.heap, hm, fr2, y, hat2, henv1.trans henv2, hk2, hy, hiy, rfl⟩
  | exit id => exact Lift.env henv1 h2
  | goto l => exact Lift.env henv1 h2
  | ret => exact Lift.env henv1 h2
  | panic c => exact h2
  | outgrown => exact h2

theorem VSeq.run {P : Program} {x y : Code} {fr : Fr} {H : Heap} {kn : Fr → Heap → Prop} {X : List (Nat × (Fr → Heap → Prop))} {kr : Fr → Heap → Prop}
    (h : vc P x fr H (fun fr' H' => vc P y fr' H' kn X kr) X kr) : VSeq P x y fr H kn X kr := by
  refine ⟨?_⟩
  intro a w hat hw
  subst hw
  exact seq_lift (vc_sound x fr _ X kr a w hat h) fun fr' a' w' h1 _ h3 => vc_sound y fr' kn X kr a' w' h1 h3
/-- A cut where ways meet: as at a loop's head. -/
theorem VSeq.cut {P : Program} {x y : Code} {fr : Fr} {H : Heap} {kn : Fr → Heap → Prop} {X : List (Nat × (Fr → Heap → Prop))} {kr : Fr → Heap → Prop} {α : Type} (ts : List Nat) (enc : α → List Value) (I : α → Heap → Prop)
    (h : vc P x fr H (fun fr' H' => keptK (wset x []) fr fr' (rdsK fr' ts fun vs => ∃ y, vs = enc y ∧ I y H')) X kr)
    (k : ∀ (z : α) (H1 : Heap) (junk : Nat → Value), I z H1 → havocK junk fr (wset x []) fun fr0 => wrsK fr0 ts (enc z) fun fr1 => vc P y fr1 H1 kn X kr) : VSeq P x y fr H kn X kr := by
  generalize wset x [] = ws at h k
  refine ⟨?_⟩
  intro a w hat hw
  subst hw
  refine seq_lift (vc_sound x fr _ X kr a w hat h) fun fr1 a1 w1 h1 _ h3 => ?_
  simp only [keptK, havocK_eq, rdsK_eq] at h3
  obtain ⟨hk, z, hz, hi⟩ := h3
  have h := k z w1.heap (rd fr1) hi
  rw [havocK_eq, wrsK_eq, havoc_of_blank hk, ← hz, wrs_self ts fr1] at h
  exact vc_sound y fr1 kn X kr a1 w1 h1 h

/-! ### functions -/
def ldK (P : Program) (t : TypeId) (p : Value) (H : Heap) (K : Value → Prop) : Prop :=
  match p with
  | .pointer (some a) => VDet P (Instr.loadAt t (.pointer (some a))) (fun _ => True) H K
  | _ => False
def resK (P : Program) (rs : List ResultVar) (fr : Fr) (H : Heap) (R : Value → Heap → Prop) : Prop :=
  match rs with
  | [.tmp t] => rdK fr t fun v => R v H
  | [] => R (.tuple #[]) H
  | [.tmp t, .tmp u] => rdK fr t fun v => rdK fr u fun x => R (.tuple #[v, x]) H
  | [.tmp t, .tmp u, .tmp y] => rdK fr t fun v => rdK fr u fun x => rdK fr y fun z => R (.tuple #[v, x, z]) H
  | [.cell a t] => rdK fr a fun p => ldK P t p H fun v => R v H
  | [.cell a t, .tmp u] => rdK fr a fun p => ldK P t p H fun v => rdK fr u fun x => R (.tuple #[v, x]) H
  | [.tmp u, .cell a t] => rdK fr a fun p => ldK P t p H fun v => rdK fr u fun x => R (.tuple #[x, v]) H
  | [.cell a t, .cell b u] => rdK fr a fun p => ldK P t p H fun v => rdK fr b fun q => ldK P u q H fun x => R (.tuple #[v, x]) H
  | _ => False

theorem ldK_sound {P : Program} {t : TypeId} {p : Value} {w : World} {K : Value → Prop} (h : ldK P t p w.heap K) :
    ∃ a v, p = .pointer (some a) ∧ (loadVar t a).run P w = .ok v w ∧ K v := by
  unfold ldK at h
  split at h
  · rename_i a
    obtain ⟨v, hv, k⟩ := h.out
    have h1 := hv w (Agr.refl _ _)
    simp [Instr.loadAt, Instr.sureAddr] at h1
    exact ⟨a, v, rfl, h1, k⟩
  · exact h.elim

theorem resK_sound {P : Program} {fn : Func} {fr : Fr} {a : Act} {w : World} {R : Value → Heap → Prop} (hat : At fr a) (h : resK P fn.results.toList fr w.heap R) :
    ∃ v, (results fn a.tmps).run P w = .ok v w ∧ R v w.heap := by
  have hrd : ∀ t, a.tmps.getD t undef = rd fr t := fun t => hat.eval (.tmp t)
  have mk : ∀ l : List ResultVar, fn.results.toList = l → fn.results = l.toArray := fun l hl => Array.ext' (by simpa using hl)
  unfold resK at h
  split at h <;> rename_i hr <;> (try simp only [rdK_eq] at h) <;> have hr' := mk _ hr
  · exact ⟨_, by simp [results, hr', hrd], h⟩
  · exact ⟨_, by simp [results, hr'], h⟩
  · exact ⟨_, by simp [results, hr', hrd], h⟩
  · exact ⟨_, by simp [results, hr', hrd], h⟩
  · obtain ⟨p, v, hp, hv, hR⟩ := ldK_sound h
    exact ⟨v, by simp [results, hr', hrd, hp, asAddr, hv], hR⟩
  · obtain ⟨p, v, hp, hv, hR⟩ := ldK_sound h
    exact ⟨_, by simp [results, hr', hrd, hp, asAddr, hv], hR⟩
  · obtain ⟨p, v, hp, hv, hR⟩ := ldK_sound h
    exact ⟨_, by simp [results, hr', hrd, hp, asAddr, hv], hR⟩
  · obtain ⟨p, v, hp, hv, hR⟩ := ldK_sound h
    obtain ⟨p', v', hp', hv', hR⟩ := ldK_sound hR
    exact ⟨_, by simp [results, hr', hrd, hp, hp', asAddr, hv, hv'], hR⟩

noncomputable def normK {R : Type} (l : Fr) : (Fr → R) → R :=
  List.rec (motive := fun _ => (Fr → R) → R) (fun K => K []) (fun v _ ih K => ih fun l' => K (v :: l')) l
theorem normK_eq {R : Type} : ∀ (l : Fr) (K : Fr → R), normK l K = K l
  | [], _ => rfl
  | v :: l, K => by show normK l (fun l' => K (v :: l')) = _; exact normK_eq l _

/-- A function keeps its contract if its code does. -/
theorem FnOk.of_vc {P : Program} {f : FuncId} {fn : Func} {c : Code} {args : Array Value} {H : Heap} {R : Value → Heap → Prop} (hf : P.funcs[f]? = some fn) (hb : fn.body = some c)
    (hcall : ∀ w : World, (callFunc f args).run P w = .ok (.enter f args) w)
    (h : normK (args.toList ++ List.replicate (fn.ntmps - args.size) undef) fun fr => vc P c fr H (fun fr' H' => resK P fn.results.toList fr' H' R) [] (fun fr' H' => resK P fn.results.toList fr' H' R)) :
    FnOk P f args H R := by
  intro w hw
  subst hw
  refine ⟨hcall w, ?_⟩
  refine calls_of_wp hf hb ?_
  rw [normK_eq] at h
  have hat : At (args.toList ++ List.replicate (fn.ntmps - args.size) undef) { tmps := args ++ Array.replicate (fn.ntmps - args.size) undef, defers := [] } := ⟨by simp, rfl⟩
  refine Code.wp_mono ?_ (vc_sound c _ _ _ _ _ w hat h)
  intro e a' w' h2
  have fin : ∀ fr, At fr a' → Env w w' → resK P fn.results.toList fr w'.heap R → a'.defers = [] ∧ ∃ v, (results fn a'.tmps).run P w' = .ok v w' ∧ ∃ v', Ending.returned v = .returned v' ∧ Env w w' ∧ R v' w'.heap := by
    intro fr h1 h2 h3
    obtain ⟨v, hv, hR⟩ := resK_sound h1 h3
    exact ⟨h1.defers, v, hv, v, rfl, h2, hR⟩
  cases e with
  | normal => obtain ⟨fr, h1, h2, h3⟩ := h2; exact fin fr h1 h2 h3
  | ret => obtain ⟨fr, h1, h2, h3⟩ := h2; exact fin fr h1 h2 h3
  | exit id => obtain ⟨fr, h1, h2, h3⟩ := h2; exact h3.elim
  | goto l => obtain ⟨fr, h1, h2, h3⟩ := h2; exact h3.elim
  | panic c => exact h2.elim
  | outgrown => exact h2.elim

end Go.VC
