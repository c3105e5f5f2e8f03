/- A range over a function: its rounds, and the code around it (the calculus once more, within a fence that holds everything). -/
import Derived.Test.YtfdlhakfmbdamaaDoorVMore
import Derived.TacticsIn
import Derived.RangeFuncRecord
set_option linter.unusedVariables false
set_option linter.unusedSimpArgs false
namespace Go.VC
/-- The fence that holds everything; ro: the round that the frame is of. -/
def FW (ro : Option Nat) : Fence := { Fence.wide with round := ro }
theorem roomW (ro : Option Nat) (n : Nat) : (FW ro).room n := fun _ h => by cases h
theorem callsW {ro : Option Nat} {n : Nat} {P : Program} {f : FuncId} {args : Array Value} {w : World} {R : Ending → World → Prop} (h : Calls P f args w R) : CallsIn (FW ro) n P f args w R :=
  ⟨trivial, fun cs _ => (callsIn_wide (n := n).2 h).2 cs (room_wide _)⟩
theorem rowsW {ro : Option Nat} {n : Nat} {P : Program} {row : String} {args : Array Value} {w : World} {R : Value → World → Prop} (h : Rows P row args w R) : RowsIn (FW ro) n P row args w R :=
  fun c cs _ => let ⟨v, w', r, s⟩ := h c cs; ⟨v, w', r, stepsIn_wide.2 s⟩
theorem roundW {ro ro' : Option Nat} {n n' : Nat} {P : Program} {l : Nat} {f : FuncId} {tmps : Array Value} {assign body : Code} {w : World} {R : Ending → World → Prop} (h : RoundIn (FW ro) n P l f tmps assign body w R) : RoundIn (FW ro') n' P l f tmps assign body w R :=
  ⟨trivial, fun c cs _ => h.2 c cs (roomW ro _)⟩
/-- The marks that loops over functions have left. -/
def marks (ds : List Nat) : List Deferred := ds.map fun D => { target := .collected D, args := #[] }
structure AtD (ds : List Nat) (fr : Fr) (a : Act) : Prop where
  tmps : a.tmps.toList = fr
  defers : a.defers = marks ds
theorem AtD.bare {ds : List Nat} {fr : Fr} {a : Act} (h : AtD ds fr a) : At fr { tmps := a.tmps, defers := [] } := ⟨h.tmps, rfl⟩
theorem AtD.evalF {ds : List Nat} {fr : Fr} {a : Act} (h : AtD ds fr a) : a.eval = evF fr := by
  rw [← h.bare.evalF]
  funext x
  cases x <;> rfl
theorem AtD.put {ds : List Nat} {fr : Fr} {a : Act} (h : AtD ds fr a) (dst : Option Tmp) (v : Value) : AtD ds (match dst with | none => fr | some d => fr.set d v) (a.put dst v) := by
  obtain ⟨rfl, h2⟩ := h
  cases dst with
  | none => exact ⟨rfl, h2⟩
  | some d => exact ⟨by simp [Act.put], h2⟩
theorem put_same {a : Act} {dst : Option Tmp} {v v' : Value} (h : ({ tmps := a.tmps, defers := [] } : Act).put dst v = ({ tmps := a.tmps, defers := [] } : Act).put dst v') : a.put dst v = a.put dst v' := by
  cases dst with
  | none => rfl
  | some d =>
    have := congrArg Act.tmps h
    simp only [Act.put] at this ⊢
    rw [this]
theorem op_in {ro : Option Nat} {n : Nat} {P : Program} {o : Oper} {a : Act} {w : World} {K : Value → Heap → Prop} (h : OpOk P o { tmps := a.tmps, defers := [] } w K) (hd : ∀ c, o.op ≠ .defer c) (Q : Exit → Act → World → Prop) :
    o.wpIn (FW ro) n P a w (fun a' w' => ∃ v, a' = a.put o.dst v ∧ Env w w' ∧ K v w'.heap) Q := by
  refine ⟨fun _ _ => trivial, ?_⟩
  rw [Oper.semAt_eq _ _ _ hd]
  have h1 := h (fun e _ w => Q e a w)
  unfold Oper.wp at h1
  have ev : ({ tmps := a.tmps, defers := [] } : Act).eval = a.eval := by funext x; cases x <;> rfl
  rw [ev] at h1
  revert h1
  generalize (execOp a.eval o).run P w = r
  intro h1
  cases r with
  | ok nx w' =>
    cases nx with
    | value v =>
      obtain ⟨v', e, h2, h3⟩ := h1
      exact ⟨v', put_same e, h2, h3⟩
    | skip =>
      obtain ⟨v', e, h2, h3⟩ := h1
      exact ⟨v', put_same e, h2, h3⟩
    | defer d =>
      obtain ⟨v', e, h2, h3⟩ := h1
      have := congrArg Act.defers e
      cases hdst : o.dst <;> rw [hdst] at this <;> simp [Act.put] at this
    | enter f args =>
      refine ⟨(fun h => by cases h), callsW (Calls.mono h1 ?_)⟩
      intro e w'' h2
      cases e with
      | returned v =>
        obtain ⟨v', e, h3, h4⟩ := h2
        exact ⟨v', put_same e, h3, h4⟩
      | panicked c => exact h2
      | outgrown => obtain ⟨_, w, h3⟩ := h2; exact ⟨a, w, h3⟩
    | row row args =>
      refine ⟨(fun h => by cases h), rowsW (Rows.mono h1 ?_)⟩
      intro v w'' h2
      obtain ⟨v', e, h3, h4⟩ := h2
      exact ⟨v', put_same e, h3, h4⟩
    | _ => exact h1.elim
  | halt s w' =>
    cases s <;> first | exact h1 | exact h1.elim
theorem oper_mono {F : Fence} {n : Nat} {P : Program} {o : Oper} {a : Act} {w : World} {N N' : Act → World → Prop} {Q : Exit → Act → World → Prop} (hn : ∀ a w, N a w → N' a w) (h : o.wpIn F n P a w N Q) : o.wpIn F n P a w N' Q := by
  refine ⟨h.1, ?_⟩
  have h1 := h.2
  revert h1
  generalize (o.semAt F.round a.eval).run P w = r
  intro h1
  cases r with
  | ok nx w' =>
    cases nx with
    | value v => exact hn _ _ h1
    | skip => exact hn _ _ h1
    | defer d => exact hn _ _ h1
    | enter f args =>
      refine ⟨h1.1, h1.2.1, fun cs hr => ?_⟩
      obtain ⟨e, w'', fr, h2, h3⟩ := h1.2.2 cs hr
      refine ⟨e, w'', fr, ?_, h3⟩
      cases e with
      | returned v => exact hn _ _ h2
      | panicked c => exact h2
      | outgrown => exact h2
    | row row args => exact ⟨h1.1, h1.2.mono fun v w'' h2 => hn _ _ h2⟩
    | round l f tmps assign body =>
      refine ⟨h1.1, h1.2.mono fun e w'' h2 => ?_⟩
      cases e with
      | returned v => exact hn _ _ h2
      | panicked c => exact h2
      | outgrown => exact h2
    | _ => exact h1.elim
  | halt s w' =>
    cases s <;> first | exact h1 | exact h1.elim
/-! ### yield -/
/-- A call of yield. -/
structure VRound (P : Program) (l : Nat) (args : Array Value) (H : Heap) (K : Value → Heap → Prop) : Prop where
  in_ ::
  out_ : ∀ w : World, w.heap = H → ∃ f tmps assign body, (Instr.yield l args).run P w = .ok (.round l f tmps assign body) w ∧ RoundIn (FW none) 0 P l f tmps assign body w fun e w' => ∃ v, e = .returned v ∧ Env w w' ∧ K v w'.heap
/-- One operation; a call of yield is taken in, a deferred call is not. -/
def yK (P : Program) (o : Oper) (fr : Fr) (H : Heap) (K : Value → Heap → Prop) : Prop :=
  match o.op with
  | .call { callee := .value f, args, .. } => evK fr f fun g => match g with
    | .func (.yield l) first cap => evsK fr args.toList fun vs => VRound P l (first.toList ++ vs).toArray H K
    | _ => opK P false (fun _ => True) o fr H K
  | .defer _ => False
  | _ => opK P false (fun _ => True) o fr H K
theorem VRound.out {P : Program} {l : Nat} {args : Array Value} {H : Heap} {K : Value → Heap → Prop} (h : VRound P l args H K) :
    ∀ w : World, w.heap = H → ∃ f tmps assign body, (Instr.yield l args).run P w = .ok (.round l f tmps assign body) w ∧ RoundIn (FW none) 0 P l f tmps assign body w fun e w' => ∃ v, e = .returned v ∧ Env w w' ∧ K v w'.heap := by exact h.out_
theorem yK_sound {ro : Option Nat} {n : Nat} {P : Program} {o : Oper} {ds : List Nat} {fr : Fr} {a : Act} {w : World} {K : Value → Heap → Prop} (hat : AtD ds fr a) (h : yK P o fr w.heap K) (Q : Exit → Act → World → Prop) :
    o.wpIn (FW ro) n P a w (fun a' w' => ∃ v, a' = a.put o.dst v ∧ Env w w' ∧ K v w'.heap) Q := by
  unfold yK at h
  split at h
  · rename_i f args argTypes ho
    rw [evK_eq] at h
    split at h
    · rename_i l first cap hg
      rw [evsK_eq, ← Array.toList_map] at h
      refine ⟨fun _ _ => trivial, ?_⟩
      rw [Oper.semAt_eq _ _ _ (fun c e => by rw [ho] at e; cases e)]
      obtain ⟨fn, tmps, assign, body, hy, hrnd⟩ := h.out w rfl
      have e : (first.toList ++ (Array.map (evF fr) args).toList).toArray = first ++ Array.map (evF fr) args := Array.ext' (by simp)
      have h3 : (execOp a.eval o).run P w = .ok (.round l fn tmps assign body) w := by
        rw [hat.evalF, ← hy, e]
        simp only [execOp, ho, resolve, hg, Deferred.ofValue]
        simp [invoke, callFunc]
      rw [h3]
      refine ⟨(fun h => by cases h), (roundW hrnd).mono ?_⟩
      rintro e w' ⟨v, rfl, henv, hk⟩
      exact ⟨v, rfl, henv, hk⟩
    · exact op_in (opK_sound hat.bare h) (fun c e => by rw [ho] at e; cases e) Q
  · exact h.elim
  · rename_i h1 h2
    exact op_in (opK_sound hat.bare h) (fun c e => h2 c e) Q
/-- An operation under a condition. -/
def guardYK (P : Program) (o : Oper) (want : Bool) (t : Nat) (fr : Fr) (H : Heap) (K : Fr → Heap → Prop) : Prop :=
  rdK fr t fun v => match v with
    | .bool b => VIte b
      (wrK fr t (.bool true) fun fr1 => match want with
        | true => yK P o fr1 H fun v H' => putK o.dst fr1 v fun fr' => apK K fr' H'
        | false => putK o.dst fr1 undef fun fr' => apK K fr' H)
      (wrK fr t (.bool false) fun fr1 => match want with
        | false => yK P o fr1 H fun v H' => putK o.dst fr1 v fun fr' => apK K fr' H'
        | true => putK o.dst fr1 undef fun fr' => apK K fr' H)
    | .tuple _ => putK o.dst fr undef fun fr' => apK K fr' H
    | _ => False
/-- Operations in the text's order. -/
def opsYK (P : Program) (all : List Oper) (l : List Oper) : Fr → Heap → (Fr → Heap → Prop) → Prop :=
  List.rec (motive := fun _ => Fr → Heap → (Fr → Heap → Prop) → Prop) (fun fr H K => K fr H) (fun o _ ih fr H K =>
    match o.guard with
    | none => yK P o fr H fun v H' => putK o.dst fr v fun fr' => ih fr' H' K
    | some (j, want) => match (all[j]?).bind (·.dst) with
      | none => False
      | some t => guardYK P o want t fr H fun fr' H' => ih fr' H' K) l
theorem opsYK_cons (P : Program) (all rest : List Oper) (o : Oper) (fr : Fr) (H : Heap) (K : Fr → Heap → Prop) : opsYK P all (o :: rest) fr H K =
    (match o.guard with
    | none => yK P o fr H fun v H' => putK o.dst fr v fun fr' => opsYK P all rest fr' H' K
    | some (j, want) => match (all[j]?).bind (·.dst) with
      | none => False
      | some t => guardYK P o want t fr H fun fr' H' => opsYK P all rest fr' H' K) := rfl
theorem opsYK_sound {ro : Option Nat} {n : Nat} {P : Program} {ds : List Nat} {all : List Oper} {Q : Exit → Act → World → Prop} : ∀ (l : List Oper) (fr : Fr) (a : Act) (w : World) (K : Fr → Heap → Prop), AtD ds fr a →
    (∀ fr' a' w', AtD ds fr' a' → Env w w' → K fr' w'.heap → Q .normal a' w') → opsYK P all l fr w.heap K → wpListIn (FW ro) n P all.toArray Q l a w
  | [], fr, a, w, K, hat, hq, h => hq fr a w hat (Env.refl w) h
  | o :: l, fr, a, w, K, hat, hq, h => by
    have go : ∀ (want : Bool), (want = true → yK P o fr w.heap fun v H' => putK o.dst fr v fun fr' => opsYK P all l fr' H' K) →
        (want = false → putK o.dst fr undef fun fr' => opsYK P all l fr' w.heap K) →
        Region.wanted o (yielded all.toArray a.tmps) = want → wpListIn (FW ro) n P all.toArray Q (o :: l) a w := by
      intro want h1 h2 hw
      unfold wpListIn
      rw [hw]
      cases want with
      | true =>
        rw [if_pos rfl]
        refine oper_mono ?_ (yK_sound hat (h1 rfl) Q)
        rintro a' w' ⟨v, rfl, henv, hk⟩
        rw [putK_eq] at hk
        exact opsYK_sound l _ _ _ K (hat.put o.dst v) (fun fr' a' w'' h1 h2 h3 => hq fr' a' w'' h1 (henv.trans h2) h3) hk
      | false =>
        rw [if_neg Bool.false_ne_true]
        have h3 := h2 rfl
        rw [putK_eq] at h3
        exact ⟨fun _ _ => trivial, opsYK_sound l _ _ _ K (hat.put o.dst undef) hq h3⟩
    rw [opsYK_cons] at h
    split at h
    · rename_i hg
      exact go true (fun _ => h) (fun h => by cases h) (by simp [Region.wanted, hg])
    · rename_i j want hg
      split at h
      · exact h.elim
      · rename_i t ht
        unfold guardYK at h
        simp only [apK] at h
        rw [rdK_eq] at h
        split at h
        · rename_i b hb
          have hy := yielded_at hat.bare ht hb
          have hs : fr.set t (.bool b) = fr := rd_set_self hb (by simp [undef])
          cases b <;> cases want <;> simp only [VIte, wrK_eq, hs] at h
          · exact go true (fun _ => h) (fun h => by cases h) (by simp [Region.wanted, hg, hy])
          · exact go false (fun h => by cases h) (fun _ => h) (by simp [Region.wanted, hg, hy])
          · exact go false (fun h => by cases h) (fun _ => h) (by simp [Region.wanted, hg, hy])
          · exact go true (fun _ => h) (fun h => by cases h) (by simp [Region.wanted, hg, hy])
        · rename_i vs hb
          exact go false (fun h => by cases h) (fun _ => h) (by simp [Region.wanted, hg, yielded_no hat.bare ht hb])
        · exact h.elim

/-! ### code -/
abbrev KD := Fr → List Nat → Heap → Prop
def LiftD (w0 : World) (Q : Exit → Fr → List Nat → Heap → Prop) : Exit → Act → World → Prop
  | .panic _, _, _ => False
  | .outgrown, _, _ => False
  | e, a, w => ∃ fr ds, AtD ds fr a ∧ Env w0 w ∧ Q e fr ds w.heap
def exitKD (X : List (Nat × KD)) (id : Nat) (fr : Fr) (ds : List Nat) (H : Heap) : Prop :=
  match X with
  | [] => False
  | (j, k) :: X => match Nat.beq j id with
    | true => k fr ds H
    | false => exitKD X id fr ds H
def QxD (kn : KD) (X : List (Nat × KD)) (kr : KD) (e : Exit) (fr : Fr) (ds : List Nat) (H : Heap) : Prop :=
  match e with
  | .normal => kn fr ds H
  | .exit id => exitKD X id fr ds H
  | .ret => kr fr ds H
  | _ => False
structure VLoopD (P : Program) (ro : Option Nat) (c : Code) (fr : Fr) (ds : List Nat) (H : Heap) (X : List (Nat × KD)) (kr : KD) : Prop where
  in_ ::
  out_ : ∀ (n : Nat) (a : Act) (w : World), AtD ds fr a → w.heap = H → (Code.loop c).wpIn (FW ro) n P (LiftD w (QxD (fun _ _ _ => False) X kr)) a w
/-- A range over a function. -/
structure VRF (P : Program) (g : Operand) (ps : Array Tmp) (assign body : Code) (fr : Fr) (ds : List Nat) (H : Heap) (kn : KD) (X : List (Nat × KD)) (kr : KD) : Prop where
  in_ ::
  out_ : ∀ (n : Nat) (a : Act) (w : World), AtD ds fr a → w.heap = H → (Code.rangeFunc g ps assign body).wpIn (FW none) n P (LiftD w (QxD kn X kr)) a w
def vcI (P : Program) (ro : Option Nat) (c : Code) : Fr → List Nat → Heap → KD → List (Nat × KD) → KD → Prop :=
  Code.rec (motive := fun _ => Fr → List Nat → Heap → KD → List (Nat × KD) → KD → Prop)
    (fun fr ds H kn _ _ => kn fr ds H)
    (fun _ ops draw fr ds H kn _ _ => match draw with
      | false => opsYK P ops.toList ops.toList fr H fun fr' H' => kn fr' ds H'
      | true => False)
    (fun _ _ iha ihb fr ds H kn X kr => iha fr ds H (fun fr' ds' H' => ihb fr' ds' H' kn X kr) X kr)
    (fun c _ _ ihx ihy fr ds H kn X kr => match c with
      | .tmp t => rdK fr t fun v => match v with
        | .bool b => VIte b (wrK fr t (.bool true) fun fr1 => ihx fr1 ds H kn X kr) (wrK fr t (.bool false) fun fr1 => ihy fr1 ds H kn X kr)
        | _ => False
      | _ => False)
    (fun id _ ih fr ds H kn X kr => ih fr ds H kn ((id, kn) :: X) kr)
    (fun c _ fr ds H _ X kr => VLoopD P ro c fr ds H X kr)
    (fun g ps a b _ _ fr ds H kn X kr => match ro with
      | none => VRF P g ps a b fr ds H kn X kr
      | some _ => False)
    (fun id fr ds H _ X _ => exitKD X id fr ds H)
    (fun _ _ _ _ _ _ _ _ => False)
    (fun _ _ _ _ _ _ _ => False)
    (fun _ _ _ _ _ _ _ => False)
    (fun fr ds H _ _ kr => kr fr ds H)
    (fun _ _ _ _ _ _ _ => False) c
section
variable (P : Program) (ro : Option Nat) (a b : Code) (fr : Fr) (ds : List Nat) (H : Heap) (kn : KD) (X : List (Nat × KD)) (kr : KD)
theorem vcI_region (id : Nat) (ops : Array Oper) (draw : Bool) : vcI P ro (.region id ops draw) fr ds H kn X kr = (match draw with
      | false => opsYK P ops.toList ops.toList fr H fun fr' H' => kn fr' ds H'
      | true => False) := rfl
theorem vcI_seq : vcI P ro (.seq a b) fr ds H kn X kr = vcI P ro a fr ds H (fun fr' ds' H' => vcI P ro b fr' ds' H' kn X kr) X kr := rfl
theorem vcI_cond (c : Operand) : vcI P ro (.cond c a b) fr ds H kn X kr = (match c with
      | .tmp t => rdK fr t fun v => match v with
        | .bool x => VIte x (wrK fr t (.bool true) fun fr1 => vcI P ro a fr1 ds H kn X kr) (wrK fr t (.bool false) fun fr1 => vcI P ro b fr1 ds H kn X kr)
        | _ => False
      | _ => False) := rfl
theorem vcI_block (id : Nat) : vcI P ro (.block id a) fr ds H kn X kr = vcI P ro a fr ds H kn ((id, kn) :: X) kr := rfl
theorem vcI_range (g : Operand) (ps : Array Tmp) : vcI P ro (.rangeFunc g ps a b) fr ds H kn X kr = (match ro with
      | none => VRF P g ps a b fr ds H kn X kr
      | some _ => False) := rfl
end
theorem VLoopD.out {P : Program} {ro : Option Nat} {c : Code} {fr : Fr} {ds : List Nat} {H : Heap} {X : List (Nat × KD)} {kr : KD} (h : VLoopD P ro c fr ds H X kr) :
    ∀ (n : Nat) (a : Act) (w : World), AtD ds fr a → w.heap = H → (Code.loop c).wpIn (FW ro) n P (LiftD w (QxD (fun _ _ _ => False) X kr)) a w := by exact h.out_
theorem VRF.out {P : Program} {g : Operand} {ps : Array Tmp} {assign body : Code} {fr : Fr} {ds : List Nat} {H : Heap} {kn : KD} {X : List (Nat × KD)} {kr : KD} (h : VRF P g ps assign body fr ds H kn X kr) :
    ∀ (n : Nat) (a : Act) (w : World), AtD ds fr a → w.heap = H → (Code.rangeFunc g ps assign body).wpIn (FW none) n P (LiftD w (QxD kn X kr)) a w := by exact h.out_
theorem LiftD.env {w0 w1 : World} {Q : Exit → Fr → List Nat → Heap → Prop} (henv : Env w0 w1) : ∀ {e : Exit} {a : Act} {w : World}, LiftD w1 Q e a w → LiftD w0 Q e a w
  | .normal, _, _, ⟨fr, ds, h1, h2, h3⟩ | .exit _, _, _, ⟨fr, ds, h1, h2, h3⟩ | .goto _, _, _, ⟨fr, ds, h1, h2, h3⟩ | .ret, _, _, ⟨fr, ds, h1, h2, h3⟩ => ⟨fr, ds, h1, henv.trans h2, h3⟩
theorem LiftD.mono {w0 : World} {Q Q' : Exit → Fr → List Nat → Heap → Prop} (hq : ∀ e fr ds H, Q e fr ds H → Q' e fr ds H) : ∀ {e : Exit} {a : Act} {w : World}, LiftD w0 Q e a w → LiftD w0 Q' e a w
  | .normal, _, _, ⟨fr, ds, h1, h2, h3⟩ | .exit _, _, _, ⟨fr, ds, h1, h2, h3⟩ | .goto _, _, _, ⟨fr, ds, h1, h2, h3⟩ | .ret, _, _, ⟨fr, ds, h1, h2, h3⟩ => ⟨fr, ds, h1, h2, hq _ _ _ _ h3⟩
theorem seq_liftD {P : Program} {ro : Option Nat} {n : Nat} {x y : Code} {kn k1 : KD} {X : List (Nat × KD)} {kr : KD} {a : Act} {w : World}
    (hx : x.wpIn (FW ro) n P (LiftD w (QxD k1 X kr)) a w)
    (hy : ∀ fr ds a' w', AtD ds fr a' → Env w w' → k1 fr ds w'.heap → y.wpIn (FW ro) n P (LiftD w' (QxD kn X kr)) a' w') : (Code.seq x y).wpIn (FW ro) n P (LiftD w (QxD kn X kr)) a w := by
  refine wpIn_seq (Code.wpIn_mono ?_ hx)
  intro e a' w' h
  cases e with
  | normal =>
    obtain ⟨fr, ds, h1, h2, h3⟩ := h
    exact Code.wpIn_mono (fun e a w h => LiftD.env h2 h) (hy fr ds a' w' h1 h2 h3)
  | exit id => exact h
  | goto l => exact h
  | ret => exact h
  | panic c => exact h
  | outgrown => exact h
theorem vcI_sound {P : Program} {ro : Option Nat} {n : Nat} : ∀ (c : Code) (fr : Fr) (ds : List Nat) (kn : KD) (X : List (Nat × KD)) (kr : KD) (a : Act) (w : World), AtD ds fr a →
    vcI P ro c fr ds w.heap kn X kr → c.wpIn (FW ro) n P (LiftD w (QxD kn X kr)) a w
  | .skip, fr, ds, kn, X, kr, a, w, hat, h => wpIn_skip ⟨fr, ds, hat, Env.refl w, h⟩
  | .region id ops draw, fr, ds, kn, X, kr, a, w, hat, h => by
    rw [vcI_region] at h
    cases draw with
    | false =>
      have := wpIn_region_lit (id := id) (opsYK_sound (ro := ro) (n := n) (all := ops.toList) (Q := LiftD w (QxD kn X kr)) ops.toList fr a w _ hat (fun fr' a' w' h1 h2 h3 => ⟨fr', ds, h1, h2, h3⟩) h)
      simpa using this
    | true => exact h.elim
  | .seq x y, fr, ds, kn, X, kr, a, w, hat, h => by
    rw [vcI_seq] at h
    exact seq_liftD (vcI_sound x fr ds _ X kr a w hat h) fun fr' ds' a' w' h1 _ h3 => vcI_sound y fr' ds' kn X kr a' w' h1 h3
  | .cond c x y, fr, ds, kn, X, kr, a, w, hat, h => by
    rw [vcI_cond] at h
    split at h
    · rename_i t
      rw [rdK_eq] at h
      split at h
      · rename_i b hb
        have hs : fr.set t (.bool b) = fr := rd_set_self hb (by simp [undef])
        have he : a.eval (.tmp t) = .bool b := by rw [hat.evalF]; exact hb
        cases b <;> simp only [VIte, wrK_eq, hs] at h
        · exact wpIn_cond_false he (vcI_sound y fr ds kn X kr a w hat h)
        · exact wpIn_cond_true he (vcI_sound x fr ds kn X kr a w hat h)
      · exact h.elim
    · exact h.elim
  | .block id c, fr, ds, kn, X, kr, a, w, hat, h => by
    rw [vcI_block] at h
    refine wpIn_block (Code.wpIn_mono ?_ (vcI_sound c fr ds kn _ kr a w hat h))
    intro e a' w' h
    cases e with
    | exit id' =>
      obtain ⟨fr', ds', h1, h2, h3⟩ := h
      simp only [QxD, exitKD] at h3
      simp only [Exit.inBlock]
      split at h3
      · rename_i hid
        have := Nat.eq_of_beq_eq_true hid
        rw [if_pos this.symm]
        exact ⟨fr', ds', h1, h2, h3⟩
      · rename_i hid
        have : id ≠ id' := Nat.ne_of_beq_eq_false hid
        rw [if_neg (Ne.symm this)]
        exact ⟨fr', ds', h1, h2, h3⟩
    | normal => exact h
    | goto l => exact h
    | ret => exact h
    | panic c => exact h
    | outgrown => exact h
  | .loop c, fr, ds, kn, X, kr, a, w, hat, h => Code.wpIn_mono (fun e a w => LiftD.mono fun e fr ds H hq => by
      cases e <;> first | exact hq | exact hq.elim) (h.out n a w hat rfl)
  | .exit id, fr, ds, kn, X, kr, a, w, hat, h => wpIn_exit ⟨fr, ds, hat, Env.refl w, h⟩
  | .ret, fr, ds, kn, X, kr, a, w, hat, h => wpIn_ret ⟨fr, ds, hat, Env.refl w, h⟩
  | .rangeFunc g ps x y, fr, ds, kn, X, kr, a, w, hat, h => by
    rw [vcI_range] at h
    cases ro with
    | none => exact h.out n a w hat rfl
    | some l => exact h.elim
  | .scope _, _, _, _, _, _, _, _, _, h => h.elim
  | .label _, _, _, _, _, _, _, _, _, h => h.elim
  | .goto _, _, _, _, _, _, _, _, _, h => h.elim
  | .refuse _, _, _, _, _, _, _, _, _, h => h.elim
/-! ### loops -/
theorem wpIn_loop_rel {P : Program} {ro : Option Nat} {n : Nat} {c : Code} {Q : Exit → Act → World → Prop} (J : Nat → Act → World → Prop)
    (round : ∀ m a w, J m a w → c.wpIn (FW ro) n P (Exit.then (fun a' w' => ∃ m', m' < m ∧ J m' a' w') Q) a w) : ∀ m a w, J m a w → (Code.loop c).wpIn (FW ro) n P Q a w := by
  intro m0 a0 w0 h0 b k cs hro hb hr
  have key : ∀ m a w, J m a w → ∃ e a' w', Q e a' w' ∧ ArrivesIn (Machine.fenced P (FW ro)) P (lone (b.atR a (.code c :: .inLoop c :: k)) cs w) b k cs e a' w' := by
    intro m
    induction m using Nat.strongRecOn with
    | _ m ih =>
      intro a w hI
      obtain ⟨e, a₁, w₁, hq, harr⟩ := round m a w hI b (.inLoop c :: k) cs hro hb hr
      cases e with
      | normal =>
        obtain ⟨m', hlt, hI₁⟩ := hq
        obtain ⟨e₂, a₂, w₂, hq₂, harr₂⟩ := ih m' hlt a₁ w₁ hI₁
        exact ⟨e₂, a₂, w₂, hq₂, .of_steps (StepsIn.trans harr (.one (fenced_calm hb hr rfl) stepR_inLoop)) harr₂⟩
      | exit id => exact ⟨_, a₁, w₁, hq, .pass (x := .inLoop c) rfl (fun _ _ => .inl (by simp)) harr⟩
      | goto l => exact ⟨_, a₁, w₁, hq, .pass (x := .inLoop c) rfl (fun _ _ => .inl (by simp)) harr⟩
      | ret => exact ⟨_, a₁, w₁, hq, .pass (x := .inLoop c) rfl (fun _ _ => .inl (by simp)) harr⟩
      | panic ch => exact ⟨_, a₁, w₁, hq, .pass (x := .inLoop c) rfl (fun _ _ => .inl (by simp)) harr⟩
      | outgrown => exact ⟨_, a₁, w₁, hq, .pass (x := .inLoop c) rfl (fun _ _ => .inl (by simp)) harr⟩
  obtain ⟨e, a', w', hq, harr⟩ := key m0 a0 w0 h0
  exact ⟨e, a', w', hq, .of_steps (.one (fenced_calm hb hr rfl) stepR_loop) harr⟩
theorem VLoopD.mk {P : Program} {ro : Option Nat} {c : Code} {fr : Fr} {ds : List Nat} {H : Heap} {X : List (Nat × KD)} {kr : KD} {α : Type} (ts : List Nat) (enc : α → List Value) (I : α → List Nat → Heap → Prop) (m : α → Heap → Nat)
    (h0 : rdsK fr ts fun vs => ∃ x, vs = enc x ∧ I x ds H)
    (hr : ∀ (x : α) (ds1 : List Nat) (H1 : Heap) (junk : Nat → Value), I x ds1 H1 → havocK junk fr (wset c []) fun fr0 => wrsK fr0 ts (enc x) fun fr1 =>
      vcI P ro c fr1 ds1 H1 (fun fr' ds' H' => keptK (wset c []) fr fr' (rdsK fr' ts fun vs => ∃ y, vs = enc y ∧ I y ds' H' ∧ m y H' < m x H1)) X kr) : VLoopD P ro c fr ds H X kr := by
  generalize wset c [] = ws at hr
  refine ⟨?_⟩
  intro n a w hat hw
  subst hw
  have h0' := h0
  rw [rdsK_eq] at h0'
  obtain ⟨x0, hx0, hi0⟩ := h0'
  let J (k : Nat) (a' : Act) (w' : World) : Prop := ∃ fr' ds' x, AtD ds' fr' a' ∧ Env w w' ∧ havoc (fun _ => undef) fr' ws = havoc (fun _ => undef) fr ws ∧ ts.map (rd fr') = enc x ∧ I x ds' w'.heap ∧ m x w'.heap = k
  refine wpIn_loop_rel J ?_ _ a w ⟨fr, ds, x0, hat, Env.refl w, rfl, hx0, hi0, rfl⟩
  rintro k a1 w1 ⟨fr1, ds1, x1, hat1, henv1, hk1, hx1, hi1, rfl⟩
  have h := hr x1 ds1 w1.heap (rd fr1) hi1
  rw [havocK_eq, wrsK_eq, havoc_of_blank hk1, ← hx1, wrs_self ts fr1] at h
  refine Code.wpIn_mono ?_ (vcI_sound c fr1 ds1 _ X kr a1 w1 hat1 h)
  intro e a2 w2 h2
  cases e with
  | normal =>
    obtain ⟨fr2, ds2, hat2, henv2, h2⟩ := h2
    simp only [QxD, keptK, havocK_eq, rdsK_eq] at h2
    obtain ⟨hk2, y, hy, hiy, hm⟩ := h2
    exact ⟨m y w2.heap, hm, fr2, ds2, y, hat2, henv1.trans henv2, hk2, hy, hiy, rfl⟩
  | exit id => exact LiftD.env henv1 h2
  | goto l => exact LiftD.env henv1 h2
  | ret => exact LiftD.env henv1 h2
  | panic c => exact h2
  | outgrown => exact h2
/-! ### functions -/
/-- A function's end: the marks are taken, then the results are read. -/
structure VRet (P : Program) (rs : List ResultVar) (R : Value → Heap → Prop) (fr : Fr) (ds : List Nat) (H : Heap) : Prop where
  in_ ::
  nd : ds.Nodup
  open_ : ∀ D ∈ ds, H[D]? = some (.deferred (some []))
  res : ∀ H', Agr (fun k => k ∉ ds) H H' → H'.size = H.size → resK P rs fr H' R
theorem VRet.nil {P : Program} {rs : List ResultVar} {R : Value → Heap → Prop} {fr : Fr} {H : Heap} (h : resK P rs fr H R) : VRet P rs R fr [] H :=
  ⟨List.Pairwise.nil, (fun _ h => by cases h), fun H' ha _ => by rw [agr_all (ha.mono fun k _ => by simp)]; exact h⟩
theorem envPut (w : World) (r : Nat) (o : Obj) : Env w (w.putObj r o) := ⟨rfl, rfl, rfl⟩
theorem hwide : FW none = Fence.wide := rfl
theorem leaves_marks {P : Program} {fn : Func} {tmps : Array Value} {R : Ending → World → Prop} : ∀ (ds : List Nat) (w : World), ds.Nodup → (∀ D ∈ ds, w.heap[D]? = some (.deferred (some []))) →
    (∀ w', Env w w' → Agr (fun k => k ∉ ds) w.heap w'.heap → w'.heap.size = w.heap.size → ∃ v, (results fn tmps).run P w' = .ok v w' ∧ R (.returned v) w') → LeavesInM (FW none) 0 P fn tmps R (marks ds) .returning w
  | [], w, _, _, h => by
    obtain ⟨v, h1, h2⟩ := h w (Env.refl w) (Agr.refl _ _) rfl
    exact ⟨v, h1, h2⟩
  | D :: ds, w, hn, ho, h => by
    obtain ⟨hn1, hn2⟩ := List.nodup_cons.1 hn
    have hD := ho D (by simp)
    have hlt := (Array.getElem?_eq_some_iff.1 hD).1
    have ha : Agr (fun k => k ≠ D) w.heap (w.putObj D (.deferred none)).heap := fun k hk => World.putObj_heap_other hk
    refine ⟨by simp, .inl ⟨D, w.putObj D (.deferred none), rfl, run_takeDeferred hD, leaves_marks ds _ hn2 (fun E hE => ?_) fun w' h1 h2 h3 => ?_⟩⟩
    · rw [World.putObj_heap_other (by rintro rfl; exact hn1 hE)]; exact ho E (by simp [hE])
    · refine h w' ((envPut w D _).trans h1) ((ha.mono fun k hk => ?_).trans (h2.mono fun k hk => ?_)) (by rw [h3]; simp)
      · intro e; exact hk (by simp [e])
      · intro e; exact hk (by simp [e])
theorem FnOk.of_vcI {P : Program} {f : FuncId} {fn : Func} {c : Code} {args : Array Value} {H : Heap} {R : Value → Heap → Prop} (hf : P.funcs[f]? = some fn) (hb : fn.body = some c)
    (hcall : ∀ w : World, (callFunc f args).run P w = .ok (.enter f args) w)
    (h : normK (args.toList ++ List.replicate (fn.ntmps - args.size) undef) fun fr => vcI P none c fr [] H (VRet P fn.results.toList R) [] (VRet P fn.results.toList R)) :
    FnOk P f args H R := by
  intro w hw
  subst hw
  refine ⟨hcall w, ?_⟩
  refine (callsIn_wide (n := 0)).1 ?_
  rw [← hwide]
  refine callsIn_of_wp_marks (F := FW none) (n := 0) hf hb trivial ?_
  rw [normK_eq] at h
  have hat : AtD [] (args.toList ++ List.replicate (fn.ntmps - args.size) undef) { tmps := args ++ Array.replicate (fn.ntmps - args.size) undef, defers := [] } := ⟨by simp, rfl⟩
  refine Code.wpIn_mono ?_ (vcI_sound c _ _ _ _ _ _ w hat h)
  intro e a' w' h2
  have fin : ∀ fr ds, AtD ds fr a' → Env w w' → VRet P fn.results.toList R fr ds w'.heap → LeavesInM (FW none) 0 P fn a'.tmps (fun e w'' => ∃ v, e = .returned v ∧ Env w w'' ∧ R v w''.heap) a'.defers .returning w' := by
    intro fr ds h1 h2 h3
    rw [h1.defers]
    refine leaves_marks ds w' h3.nd h3.open_ fun w'' h4 h5 h6 => ?_
    obtain ⟨v, hv, hR⟩ := resK_sound h1.bare (h3.res w''.heap h5 h6)
    exact ⟨v, hv, v, rfl, h2.trans h4, hR⟩
  cases e with
  | normal => obtain ⟨fr, ds, h1, h2, h3⟩ := h2; exact fin fr ds h1 h2 h3
  | ret => obtain ⟨fr, ds, h1, h2, h3⟩ := h2; exact fin fr ds h1 h2 h3
  | exit id => obtain ⟨fr, ds, h1, h2, h3⟩ := h2; exact h3.elim
  | goto l => obtain ⟨fr, ds, h1, h2, h3⟩ := h2; exact h3.elim
  | panic c => exact h2.elim
  | outgrown => exact h2.elim
/-! ### the statement, and its rounds -/
theorem VRF.mk {P : Program} {g : Operand} {ps : Array Tmp} {assign body : Code} {fr : Fr} {ds : List Nat} {H : Heap} {kn : KD} {X : List (Nat × KD)} {kr : KD} (gf : Nat) (lb : Array Value) (hg : evF fr g = .func (.func gf) #[] lb)
    (h : ∀ (rec : LoopState → Option Code → Loop), (∃ fn, rec = fun st pe => { state := st, pending := pe, fn := fn, tmps := fr.toArray, params := ps, assign := assign, body := body, defers := H.size }) →
      FnOk P gf (#[.func (.yield (H.size + 1)) #[] #[]] ++ lb) ((H.push (.deferred (some []))).push (.loop (rec .ready none))) fun _ H2 => ∃ st pe, st ≠ .busy ∧ H2[H.size + 1]? = some (.loop (rec st pe)) ∧
        ((pe = none ∧ kn fr (H.size :: ds) (H2.setIfInBounds (H.size + 1) (.loop (rec .exhausted pe)))) ∨
          (pe = some .ret ∧ kr fr (H.size :: ds) (H2.setIfInBounds (H.size + 1) (.loop (rec .exhausted pe)))))) : VRF P g ps assign body fr ds H kn X kr := by
  refine ⟨?_⟩
  intro n a w hat hw
  subst hw
  refine wpIn_rangeFunc ?_
  intro fn _
  obtain ⟨rec, hrec⟩ : ∃ rec : LoopState → Option Code → Loop, rec = fun st pe => { state := st, pending := pe, fn, tmps := fr.toArray, params := ps, assign, body, defers := w.heap.size } := ⟨_, rfl⟩
  have hk := h rec ⟨fn, hrec⟩
  have hta : a.tmps = fr.toArray := by rw [← hat.tmps]
  obtain ⟨W1, hW1⟩ : ∃ W1, (w.alloc (.deferred (some []))).alloc (.loop (rec .ready none)) = W1 := ⟨_, rfl⟩
  have hW1h : W1.heap = (w.heap.push (.deferred (some []))).push (.loop (rec .ready none)) := by rw [← hW1]; rfl
  have hW1e : Env w W1 := by rw [← hW1]; exact ⟨rfl, rfl, rfl⟩
  obtain ⟨hc1, hc2⟩ := hk W1 hW1h
  refine ⟨w.heap.size + 1, [{ target := .collected w.heap.size, args := #[] }], W1, { target := .fn (.func gf) lb, args := #[.func (.yield (w.heap.size + 1)) #[] #[]] }, W1, gf,
    #[.func (.yield (w.heap.size + 1)) #[] #[]] ++ lb, W1, ?_, ?_, ?_, ?_, ?_, ?_⟩
  · rw [← hW1, hrec, hta]; exact run_enterLoop_outer _ _ _ _ _
  · have hga : a.eval g = .func (.func gf) #[] lb := by rw [hat.evalF]; exact hg
    simp only [resolve, hga]
    simp [go_sem]
  · exact fun _ _ => trivial
  · have e1 : (invoke (.fn (.func gf) lb) #[.func (.yield (w.heap.size + 1)) #[] #[]]).run P W1 = (callFunc gf (#[.func (.yield (w.heap.size + 1)) #[] #[]] ++ lb)).run P W1 := by simp [invoke]
    exact e1.trans hc1
  · intro h; cases h
  · refine callsW (Calls.mono hc2 ?_)
    rintro e W2 ⟨v, rfl, henv2, st, pe, hst, hl, hpe⟩
    refine ⟨pe, W2.putObj (w.heap.size + 1) (.loop { rec st pe with state := .exhausted }), ?_, ?_⟩
    · have := run_endLoop (P := P) hl (by rw [hrec]; exact hst)
      rw [hrec] at this ⊢
      exact this
    · have hat2 : AtD (w.heap.size :: ds) fr { a with defers := [{ target := .collected w.heap.size, args := #[] }] ++ a.defers } := ⟨hat.tmps, by rw [hat.defers]; rfl⟩
      have he2 : Env w (W2.putObj (w.heap.size + 1) (.loop { rec st pe with state := .exhausted })) := (hW1e.trans henv2).trans (envPut W2 _ _)
      have hrx : ({ rec st pe with state := .exhausted } : Loop) = rec .exhausted pe := by rw [hrec]
      have hhp : (W2.putObj (w.heap.size + 1) (.loop { rec st pe with state := .exhausted })).heap = W2.heap.setIfInBounds (w.heap.size + 1) (.loop (rec .exhausted pe)) := by rw [hrx]; rfl
      rcases hpe with ⟨rfl, hpe⟩ | ⟨rfl, hpe⟩
      · exact ⟨fr, _, hat2, he2, by rw [hhp]; exact hpe⟩
      · exact wpIn_ret ⟨fr, _, hat2, he2, by rw [hhp]; exact hpe⟩
theorem fold_wrs : ∀ (l : List (Tmp × Value)) (t : Array Value), ((l.foldl (fun t (x : Tmp × Value) => t.setIfInBounds x.1 x.2) t)).toList = wrs t.toList (l.map (·.1)) (l.map (·.2))
  | [], t => by cases t; rfl
  | (p, v) :: l, t => by
    rw [List.foldl_cons, fold_wrs l]
    simp [wrs]
/-- One round. -/
theorem VRound.mk {P : Program} {l : Nat} {args : Array Value} {H : Heap} {K : Value → Heap → Prop} (r : Loop) (hr : H[l]? = some (.loop r)) (hst : r.state = .ready) (hs : args.size = r.params.size)
    (h : normK (wrs r.tmps.toList r.params.toList args.toList) fun fr => vcI P (some l) r.assign fr [] H (fun fr1 ds1 H1 => ds1 = [] ∧ H1[l]? = some (.loop r) ∧
      vcI P (some l) r.body fr1 [] (H1.setIfInBounds l (.loop { r with state := .busy })) (fun _ _ H2 => H2[l]? = some (.loop { r with state := .busy }) ∧ K (.bool true) (H2.setIfInBounds l (.loop { r with state := .ready, pending := none }))) []
        (fun _ _ H2 => H2[l]? = some (.loop { r with state := .busy }) ∧ K (.bool false) (H2.setIfInBounds l (.loop { r with state := .done, pending := some .ret })))) [] (fun _ _ _ => False)) : VRound P l args H K := by
  refine ⟨?_⟩
  intro w hw
  subst hw
  rw [normK_eq] at h
  refine ⟨_, _, _, _, run_yield hr hs, ?_⟩
  have hfold : ((r.params.zip args).foldl (fun tmps (t, a) => tmps.setIfInBounds t a) r.tmps).toList = wrs r.tmps.toList r.params.toList args.toList := by
    rw [← Array.foldl_toList]
    have := fold_wrs (r.params.zip args).toList r.tmps
    rw [Array.toList_zip] at this ⊢
    rw [show (fun (tmps : Array Value) (x : Tmp × Value) => tmps.setIfInBounds x.1 x.2) = (fun tmps (x : Tmp × Value) => match x with | (t, a) => tmps.setIfInBounds t a) from rfl] at this
    rw [List.map_fst_zip (by simp [hs]), List.map_snd_zip (by simp [hs])] at this
    exact this
  have hro : FW (some l) = (FW none).inRound l := rfl
  refine roundW (ro := none) (n := 0) (roundIn_of_wpIn (F := FW none) trivial ?_)
  rw [← hro]
  have hat : AtD [] (wrs r.tmps.toList r.params.toList args.toList) { tmps := (r.params.zip args).foldl (fun tmps (t, a) => tmps.setIfInBounds t a) r.tmps, defers := [] } := ⟨hfold, rfl⟩
  refine Code.wpIn_mono ?_ (vcI_sound r.assign _ [] _ [] _ _ w hat h)
  intro e a1 w1 h1
  cases e with
  | normal =>
    obtain ⟨fr1, ds1, hat1, henv1, rfl, hl1, h1⟩ := h1
    refine ⟨_, run_beginRound hl1 hst, ?_⟩
    have hb := vcI_sound (n := 0) r.body fr1 [] _ [] _ a1 (w1.putObj l (.loop { r with state := .busy })) hat1 h1
    refine Code.wpIn_mono ?_ hb
    intro e a2 w2 h2
    cases e with
    | normal =>
      obtain ⟨fr2, ds2, hat2, henv2, hl2, hk2⟩ := h2
      exact ⟨_, _, run_endRound none hl2, _, rfl, (henv1.trans (envPut w1 l _)).trans (henv2.trans (envPut w2 l _)), hk2⟩
    | ret =>
      obtain ⟨fr2, ds2, hat2, henv2, hl2, hk2⟩ := h2
      exact ⟨_, _, run_endRound (some .ret) hl2, _, rfl, (henv1.trans (envPut w1 l _)).trans (henv2.trans (envPut w2 l _)), hk2⟩
    | exit id => obtain ⟨_, _, _, _, h3⟩ := h2; exact h3.elim
    | goto l => obtain ⟨_, _, _, _, h3⟩ := h2; exact h3.elim
    | panic c => exact h2.elim
    | outgrown => exact h2.elim
  | exit id => obtain ⟨_, _, _, _, h3⟩ := h1; exact h3.elim
  | goto l => obtain ⟨_, _, _, _, h3⟩ := h1; exact h3.elim
  | ret => obtain ⟨_, _, _, _, h3⟩ := h1; exact h3.elim
  | panic c => exact h1.elim
  | outgrown => exact h1.elim
end Go.VC
