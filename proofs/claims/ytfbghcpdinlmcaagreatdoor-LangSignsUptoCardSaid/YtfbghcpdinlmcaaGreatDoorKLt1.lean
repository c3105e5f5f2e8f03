/- Parts of the proof: VBase, VHeap, VTy, VOps, VMem -/
import Derived.OrdersHeld
import Derived.Deep.Quiet
import Derived.StillTail
import Derived.Tactics
import Derived.NoCompiler
import Derived.WalkKit
import Derived.Deep.MidRow
import Derived.Deep.AppendSrc
import Derived.DeepKeys
import Derived.Laws.Pointers
set_option maxHeartbeats 64000000
open Array renaming getElem?_eq_some_iff → AcN, toArray_toList → AcO, toList_map → AcV, map → AcZ, ext' → Ad1, replicate → Ad6, getElem?_eq_getElem → AdB, getElem?_eq_none → AdJ, getElem?_modify → AdN
open BitVec renaming ofInt → AdE, ofInt_natCast → AdP, toNat_ofNat → AdS
open Bool renaming false_eq_true → AbX, and_eq_true → AcP, not_eq_true' → AdA, or_eq_true → AdG
open Int renaming reducePow → Ad5
open List renaming getElem?_eq_some_iff → AaS, getElem?_eq_getElem → AaT, mem_of_getElem? → AaU, pairwise_iff_getElem → AaV, replicate → Ab8, getElem?_set_self → AbD, length_append → AbH, getElem?_set_ne → AbM, getD_eq_getElem?_getD → AbW, mem_singleton → AbY, ext_getElem? → Ac4, eq_nil_of_length_eq_zero → Ac5, length_cons → Ac8, getElem?_eq_none → AcK, length_set → AcL, length_singleton → AcM, getElem?_replicate → AcQ, getElem?_take → AcS, append_assoc → AcU, getElem?_append_right → AcW, getElem?_append_left → AcX, rec → AcY, getElem?_set → Ad2, map_cons → Ad3, getElem?_of_mem → Ad7, take_length_add_append → Ad8, length_take → AdD, getElem?_cons_succ → AdF, mem_append → AdH, append_nil → AdI, set_getElem_self → AdL, range → AdO, getElem?_range → AdQ, getElem?_map → AdT, getElem_set → AdW, take_left' → AdX, mem_cons → AdZ
open Nat renaming mod_eq_of_lt → AbK, or_lt_two_pow → AbV, mul_le_mul_right → Ac3, ne_of_beq_eq_false → AcF, min_eq_left → AcR, le_refl → AcT, succ_mul → Ad0, reduceSub → Ad4, lt_or_gt_of_ne → Ad9, beq → AdC, zero_le → AdK, eq_of_beq_eq_true → AdM, lt_or_ge → AdR, add_mul → AdU, mul_le_mul → AdY, reducePow → Ae0
open Option renaming bind_some → AdV
set_option linter.unusedSimpArgs false
set_option linter.unusedVariables false
namespace Go.VC
abbrev Aa:=Array Obj
abbrev Fr:=List Value
structure Env(w w':World):Prop where
 os:w'.os=w.os
 tape:w'.tape=w.tape
 output:w'.output=w.output
theorem Env.refl(w:World):Env w w:=⟨rfl,rfl,rfl⟩
theorem Env.trans{a b c:World}(h:Env a b)(k:Env b c):Env a c:=
 ⟨k.os.trans h.os,k.tape.trans h.tape,k.output.trans h.output⟩
def Al(P:Program)(f:FuncId)(args:Array Value)(H:Aa)(R:Value→Aa→Prop):Prop:=
 ∀w:World,w.heap=H→(callFunc f args).run P w= .ok (.enter f args) w∧
  Calls P f args w fun e w'=>∃v,e= .returned v∧Env w w'∧R v w'.heap
theorem Al.mono{P:Program}{f:FuncId}{args:Array Value}{H:Aa}{R R':Value→Aa→Prop}
  (h:Al P f args H R) (hr:∀v H',R v H'→R' v H'):Al P f args H R':=fun w hw=>
 ⟨(h w hw).1,(h w hw).2.mono fun _ _ ⟨v,he,hv,r⟩=>⟨v,he,hv,hr _ _ r⟩⟩
def Agr(S:Nat→Prop)(H H':Aa):Prop:=∀k,S k→H'[k]? =H[k]?
theorem Agr.refl(S:Nat→Prop)(H:Aa):Agr S H H:=fun _ _=>rfl
theorem Agr.trans{S:Nat→Prop}{a b c:Aa}(h:Agr S a b)(k:Agr S b c):Agr S a c:=
 fun i hi=>(k i hi).trans (h i hi)
theorem Agr.mono{S S':Nat→Prop}{a b:Aa}(h:Agr S a b)(hs:∀k,S' k→S k):Agr S' a b:=
 fun i hi=>h i (hs i hi)
structure AJ(P:Program)(m:Sem Value)(S:Nat→Prop)(H:Aa)(K:Value→Prop):Prop where
 in_::
 out_:∃v,(∀w:World,Agr S H w.heap→m.run P w= .ok v w)∧K v
structure BN(P:Program)(m:Sem Value)(H:Aa)(K:Value→Aa→Prop):Prop where
 in_::
 out_:∀w:World,w.heap=H→∃v w',m.run P w= .ok v w'∧Env w w'∧K v w'.heap
structure CY(P:Program)(m:Sem Unit)(H:Aa)(K:Aa→Prop):Prop where
 in_::
 out_:∀w:World,w.heap=H→∃w',m.run P w= .ok () w'∧Env w w'∧K w'.heap
structure Ad(P:Program)(f:FuncId)(args:Array Value)(H:Aa)(K:Value→Aa→Prop):Prop where
 in_::
 out_:Al P f args H K
structure IW(P:Program)(f:FuncId)(args:Array Value)(S:Nat→Prop)(H:Aa)(K:Value→Prop):Prop where
 in_::
 out_:∃v,(∀H',Agr S H H'→Al P f args H' fun v' H''=>v'=v∧Agr S H' H'')∧K v
theorem AJ.mk{P:Program}{m:Sem Value}{S:Nat→Prop}{H:Aa}{K:Value→Prop}(v:Value)
  (h:∀w:World,Agr S H w.heap→m.run P w= .ok v w) (k:K v):AJ P m S H K:=by
 exact⟨⟨v,h,k⟩⟩
theorem BN.mk{P:Program}{m:Sem Value}{H:Aa}{K:Value→Aa→Prop}
  (h:∀w:World,w.heap=H→∃v w',m.run P w= .ok v w'∧Env w w'∧K v w'.heap):BN P m H K:=by
 exact⟨h⟩
theorem CY.mk{P:Program}{m:Sem Unit}{H:Aa}{K:Aa→Prop}
  (h:∀w:World,w.heap=H→∃w',m.run P w= .ok () w'∧Env w w'∧K w'.heap):CY P m H K:=by
 exact⟨h⟩
theorem Ad.mk{P:Program}{f:FuncId}{args:Array Value}{H:Aa}{K R:Value→Aa→Prop}
  (h:Al P f args H R) (k:∀v H',R v H'→K v H'):Ad P f args H K:=by
 exact⟨h.mono k⟩
theorem IW.mk{P:Program}{f:FuncId}{args:Array Value}{S:Nat→Prop}{H:Aa}{K:Value→Prop}(v:Value)
  (h:∀H',Agr S H H'→Al P f args H' fun v' H''=>v'=v∧Agr S H' H'') (k:K v):IW P f args S H K:=by
 exact⟨⟨v,h,k⟩⟩
def AN(b:Bool)(p q:Prop):Prop:=match b with | true=>p | false=>q
theorem AN.mk{b:Bool}{p q:Prop}(h:b=true→p)(k:b=false→q):AN b p q:=by
 cases b;exact k rfl;exact h rfl
noncomputable def rdK{R:Type}(l:Fr):Nat→(Value→R)→R:=
 AcY (motive:=fun _=>Nat→(Value→R)→R) (fun _ K=>K undef) (fun v _ ih n K=>Nat.casesOn n (K v) fun m=>ih m K) l
noncomputable def wrK{R:Type}(l:Fr):Nat→Value→(Fr→R)→R:=
 AcY (motive:=fun _=>Nat→Value→(Fr→R)→R) (fun _ _ K=>K []) (fun x l ih n v K=>Nat.casesOn n (K (v::l)) fun m=>ih m v fun l'=>K (x::l')) l
noncomputable def evK{R:Type}(fr:Fr)(x:Operand)(K:Value→R):R:=
 match x with
 | .tmp t=>rdK fr t K
 | .const v=>K v
 | .global g=>K (.pointer (some ⟨g,0,none⟩))
 | .func f=>K (.func (.func f) #[] #[])
noncomputable def Hb{R:Type}(fr:Fr)(l:List Operand):(List Value→R)→R:=
 AcY (motive:=fun _=>(List Value→R)→R) (fun K=>K []) (fun x _ ih K=>evK fr x fun v=>ih fun vs=>K (v::vs)) l
noncomputable def CL{R:Type}(dst:Option Tmp)(fr:Fr)(v:Value)(K:Fr→R):R:=
 match dst with
 | none=>K fr
 | some d=>wrK fr d v K
def rd(fr:Fr)(i:Nat):Value:=fr.getD i undef
def evF(fr:Fr):Operand→Value
 | .tmp t=>rd fr t
 | .const v=>v
 | .global g=>.pointer (some ⟨g,0,none⟩)
 | .func f=>.func (.func f) #[] #[]
theorem DP{R:Type}(K:Value→R):∀(fr:Fr) (i:Nat),rdK fr i K=K (rd fr i)
 | [],_=>rfl
 | _::_,0=>rfl
 | _::l,n+1=>by show rdK l n K=_;rw [DP K l n];simp [rd]
theorem Fv{R:Type}:∀(fr:Fr) (i:Nat) (v:Value) (K:Fr→R),wrK fr i v K=K (fr.set i v)
 | [],_,_,_=>rfl
 | _::_,0,_,_=>rfl
 | x::l,n+1,v,K=>by show wrK l n v (fun l'=>K (x::l'))=_;rw [Fv l n v];rfl
theorem HT{R:Type}(fr:Fr)(x:Operand)(K:Value→R):evK fr x K=K (evF fr x):=by
 cases x<;>first | rfl | exact DP K fr _
theorem I4{R:Type}(fr:Fr):∀(l:List Operand) (K:List Value→R),Hb fr l K=K (l.map (evF fr))
 | [],_=>rfl
 | x::l,K=>by show evK fr x (fun v=>Hb fr l fun vs=>K (v::vs))=_;simp only [HT,I4 fr l,Ad3]
theorem Cm{R:Type}(dst:Option Tmp)(fr:Fr)(v:Value)(K:Fr→R):
  CL dst fr v K=K (match dst with | none=>fr | some d=>fr.set d v):=by
 cases dst with
 | none=>rfl
 | some d=>exact Fv fr d v K
structure At(fr:Fr)(a:Act):Prop where
 tmps:a.tmps.toList=fr
 defers:a.defers=[]
theorem At.eval{fr:Fr}{a:Act}(h:At fr a)(x:Operand):a.eval x=evF fr x:=by
 cases x with
 | tmp t=>obtain⟨rfl,_⟩:=h;simp [Act.eval,evF,rd]
 | const v=>rfl
 | global g=>rfl
 | func f=>rfl
theorem At.evalF{fr:Fr}{a:Act}(h:At fr a):a.eval=evF fr:=funext h.eval
theorem At.put{fr:Fr}{a:Act}(h:At fr a)(dst:Option Tmp)(v:Value):
  At (match dst with | none=>fr | some d=>fr.set d v) (a.put dst v):=by
 obtain⟨rfl,h2⟩:=h;cases dst with
 | none=>exact⟨rfl,h2⟩
 | some d=>exact⟨by simp [Act.put],h2⟩
def kEq:IntKind→IntKind→Bool
 | .i8,.i8 | .i16,.i16 | .i32,.i32 | .i64,.i64 | .u8,.u8 | .u16,.u16 | .u32,.u32 | .u64,.u64=>true
 | _,_=>false
theorem ZM{a b:IntKind}(h:kEq a b=true):a=b:=by cases a<;>cases b<;>first | rfl | simp [kEq]at h
def OH:BinOp→Value→Value→Option Value
 | .add,.int k a,.int k' b=>match kEq k k' with | true=>some (.int k (k.wrap (a+b))) | false=>none
 | .sub,.int k a,.int k' b=>match kEq k k' with | true=>some (.int k (k.wrap (a - b))) | false=>none
 | .mul,.int k a,.int k' b=>match kEq k k' with | true=>some (.int k (k.wrap (a*b))) | false=>none
 | .eql,.int k a,.int k' b=>match kEq k k' with | true=>some (.bool (a==b)) | false=>none
 | .neq,.int k a,.int k' b=>match kEq k k' with | true=>some (.bool (a != b)) | false=>none
 | .lss,.int k a,.int k' b=>match kEq k k' with | true=>some (.bool (decide (a<b))) | false=>none
 | .leq,.int k a,.int k' b=>match kEq k k' with | true=>some (.bool (decide (a≤b))) | false=>none
 | .gtr,.int k a,.int k' b=>match kEq k k' with | true=>some (.bool (decide (b<a))) | false=>none
 | .geq,.int k a,.int k' b=>match kEq k k' with | true=>some (.bool (decide (b≤a))) | false=>none
 | .eql,.string a,.string b=>some (.bool (a.toList==b.toList))
 | .neq,.string a,.string b=>some (.bool (!(a.toList==b.toList)))
 | _,_,_=>none
theorem Dk{P:Program}(op:BinOp)(t:TypeId)(x y:Operand)(k k':IntKind)(a b:Int)(w:World):
  (eqGuard op t x y (.int k a) (.int k' b)).run P w= .ok () w:=by
 cases op<;>simp [eqGuard]
theorem Jy{P:Program}(op:BinOp)(t:TypeId)(x y:Operand)(a b:ByteArray)(w:World):
  (eqGuard op t x y (.string a) (.string b)).run P w= .ok () w:=by
 cases op<;>simp [eqGuard]
theorem Qc{P:Program}{op:BinOp}{t:TypeId}{x y:Operand}{a b v:Value}(h:OH op a b=some v)(w:World):
  (do eqGuard op t x y a b;binOp op t a b:Sem Value).run P w= .ok v w:=by
 unfold OH at h;split at h
 all_goals try (split at h)
 all_goals first
  | (cases h;done)
  | (rename_i hk;obtain rfl:=ZM hk;cases h;simp [Dk,binOp,Op.intArith,Op.intCmp];done)
  | (cases h;simp [Jy,binOp,Op.stringOp];done)
def S8:UnOp→Value→Option Value
 | .not,.bool b=>some (.bool (!b))
 | .neg,.int k n=>some (.int k (k.wrap (0 - n)))
 | _,_=>none
theorem S9{P:Program}{op:UnOp}{a v:Value}(h:S8 op a=some v)(w:World):(Op.unary op a).run P w= .ok v w:=by
 unfold S8 at h;split at h<;>cases h<;>simp [Op.unary,Op.intArith]
noncomputable def Uh{R:Type}(fr:Fr)(x:Option Operand)(K:Option Value→R):R:=
 match x with
 | none=>K none
 | some x=>evK fr x fun v=>K (some v)
theorem Tb{R:Type}(fr:Fr)(x:Option Operand)(K:Option Value→R):Uh fr x K=K (x.map (evF fr)):=by
 cases x<;>simp [Uh,HT]
noncomputable def XF{R:Type}(fr:Fr)(l:List (Nat×Operand)):(List (Nat×Value)→R)→R:=
 AcY (motive:=fun _=>(List (Nat×Value)→R)→R) (fun K=>K []) (fun p _ ih K=>evK fr p.2 fun v=>ih fun vs=>K ((p.1,v)::vs)) l
theorem OX{R:Type}(fr:Fr):∀(l:List (Nat×Operand)) (K:List (Nat×Value)→R),XF fr l K=K (l.map fun(i,x)=>(i,evF fr x))
 | [],_=>rfl
 | (i,x)::l,K=>by show evK fr x (fun v=>XF fr l fun vs=>K ((i,v)::vs))=_;simp only [HT,OX fr l,Ad3]
def Pp:Option TypeDesc→List Value→Option Value
 | some (.slice _),[.slice _ n _]=>some (.int .i64 n)
 | some .string,[.string s]=>some (.int .i64 s.size)
 | _,_=>none
theorem Q7{P:Program}{t ty:TypeId}{vs:List Value}{v:Value}(h:Pp (P.underlying t) vs=some v)(w:World):
  (Builtin.len_ #[t] ty vs.toArray).run P w= .ok v w:=by
 unfold Pp at h;split at h<;>cases h<;>rename_i hu<;>simp [Builtin.len_,run_underlying hu,goInt]
def Mu:Option TypeDesc→Option TypeDesc→Value→Option Value
 | some _,some (.int k),.int _ n=>some (.int k (k.wrap n))
 | some _,some .string,.string s=>some (.string s)
 | _,_,_=>none
theorem OQ{P:Program}{s d:TypeId}{x v:Value}(h:Mu (P.underlying s) (P.underlying d) x=some v)(w:World):
  (convert s d x).run P w= .ok v w:=by
 unfold Mu at h;split at h<;>cases h<;>rename_i h1 h2
 ·simp [convert,run_underlying h1,run_underlying h2,Conv.intToInt]
 ·simp [convert,run_underlying h1,run_underlying h2]
def Nw(P:Program)(S:Nat→Prop)(o:Oper)(fr:Fr)(H:Aa)(K:Value→Prop):Prop:=
 match o.op with
 | .move x=>evK fr x K
 | .assign x=>evK fr x K
 | .pick c a b=>evK fr c fun vc=>match vc with
   | .bool b'=>AN b' (evK fr a K) (evK fr b K)
   | _=>False
 | .binOp op t x y _=>evK fr x fun a=>evK fr y fun b=>match OH op a b with
   | some v=>K v
   | none=>AJ P (do eqGuard op t x y a b;binOp op t a b) S H K
 | .unOp op _ x=>evK fr x fun a=>match S8 op a with
   | some v=>K v
   | none=>AJ P (Op.unary op a) S H K
 | .convert s d x=>evK fr x fun a=>match Mu (P.underlying s) (P.underlying d) a with
   | some v=>K v
   | none=>AJ P (convert s d a) S H K
 | .extract x i=>evK fr x fun a=>match a with
   | .tuple vs=>match vs.toList[i]? with
     | some v=>K v
     | none=>False
   | _=>False
 | .nilCheck x=>evK fr x fun a=>match a with
   | .pointer (some p)=>K (.pointer (some p))
   | _=>False
 | .makeInterface t x=>evK fr x fun a=>match P.underlying t with
   | some (.interface _)=>False
   | some _=>K (.iface t a)
   | none=>False
 | .makeFunc fn first cap=>Hb fr first.toList fun vs=>Hb fr cap.toList fun us=>K (.func fn vs.toArray us.toArray)
 | .load t a=>evK fr a fun p=>AJ P (Instr.loadAt t p) S H K
 | .index t x i=>evK fr x fun a=>evK fr i fun j=>AJ P (Instr.index t a j) S H K
 | .indexAddr t x i=>evK fr x fun a=>evK fr i fun j=>AJ P (Instr.indexAt t a j) S H K
 | .fieldAddr s x f=>evK fr x fun a=>AJ P (Instr.fieldAt s a f) S H K
 | .field t x f=>evK fr x fun a=>AJ P (Instr.field t a f) S H K
 | .slice t x lo hi mx=>evK fr x fun a=>Uh fr lo fun l=>Uh fr hi fun h=>Uh fr mx fun m=>AJ P (Instr.sliceAt t a l h m) S H K
 | .lookup t x i ok=>evK fr x fun a=>evK fr i fun j=>AJ P (Instr.lookup t a j ok) S H K
 | .build t ps=>XF fr ps.toList fun vs=>AJ P (Instr.build t vs.toArray) S H K
 | .typeAssert x t a ok=>evK fr x fun v=>AJ P (Instr.typeAssert v t a ok) S H K
 | .call {callee:=.builtin .len,args,argTypes}=>Hb fr args.toList fun vs=>
   match argTypes.toList with
   | [t]=>match Pp (P.underlying t) vs with
     | some v=>K v
     | none=>AJ P (Builtin.len_ argTypes o.type vs.toArray) S H K
   | _=>AJ P (Builtin.len_ argTypes o.type vs.toArray) S H K
 | .call {callee:=.builtin .cap,args,argTypes}=>Hb fr args.toList fun vs=>AJ P (Builtin.cap_ argTypes o.type vs.toArray) S H K
 | .call {callee:=.builtin .min,args,argTypes}=>Hb fr args.toList fun vs=>AJ P (Builtin.min_ argTypes o.type vs.toArray) S H K
 | .call {callee:=.builtin .max,args,argTypes}=>Hb fr args.toList fun vs=>AJ P (Builtin.max_ argTypes o.type vs.toArray) S H K
 | _=>False
def La(o:Oper):Bool:=
 match o.op with
 | .move _ | .assign _ | .pick .. | .binOp .. | .unOp .. | .convert .. | .extract .. | .nilCheck _ | .makeInterface .. | .makeFunc .. | .load .. | .index ..
 | .indexAddr .. | .fieldAddr .. | .field .. | .slice .. | .lookup .. | .build .. | .typeAssert .. =>true
 | .call {callee:=.builtin .len, .. } | .call {callee:=.builtin .cap, .. } | .call {callee:=.builtin .min, .. } | .call {callee:=.builtin .max, .. }=>true
 | _=>false
theorem AJ.out{P:Program}{m:Sem Value}{S:Nat→Prop}{H:Aa}{K:Value→Prop}(h:AJ P m S H K):
  ∃v,(∀w:World,Agr S H w.heap→m.run P w= .ok v w)∧K v:=by exact h.out_
theorem BF{P:Program}{m:Sem Value}{v:Value}{w w':World}(h:m.run P w= .ok v w'):
  (do pure (Next.value (←m)):Sem Next).run P w= .ok (.value v) w':=by simp [h]
theorem W9{P:Program}{m:Sem Unit}{w w':World}(h:m.run P w= .ok () w'):
  (do m;pure Next.skip:Sem Next).run P w= .ok .skip w':=by simp [h]
theorem EJ{P:Program}{S:Nat→Prop}{o:Oper}{fr:Fr}{H:Aa}{K:Value→Prop}(h:Nw P S o fr H K):
  ∃v,(∀w:World,Agr S H w.heap→(execOp (evF fr) o).run P w= .ok (.value v) w)∧K v:=by
 unfold Nw at h;split at h<;>rename_i ho<;>simp only [HT,I4,Tb,OX]at h
 all_goals simp only [execOp,ho]
 case h_1=>exact⟨_,fun w _=>by simp,h⟩
 case h_2=>exact⟨_,fun w _=>by simp,h⟩
 case h_3=>
  split at h
  ·rename_i b hb;cases b
   ·exact⟨_,fun w _=>by simp [hb,asBool],h⟩
   ·exact⟨_,fun w _=>by simp [hb,asBool],h⟩
  ·exact h.elim
 case h_4=>
  split at h
  ·rename_i v hv;exact⟨v,fun w _=>BF (Qc hv w),h⟩
  ·obtain⟨v,hv,k⟩:=h.out;exact⟨v,fun w hw=>BF (hv w hw),k⟩
 case h_5=>
  split at h
  ·rename_i v hv;exact⟨v,fun w _=>BF (S9 hv w),h⟩
  ·obtain⟨v,hv,k⟩:=h.out;exact⟨v,fun w hw=>BF (hv w hw),k⟩
 case h_6=>
  split at h
  ·rename_i v hv;exact⟨v,fun w _=>BF (OQ hv w),h⟩
  ·obtain⟨v,hv,k⟩:=h.out;exact⟨v,fun w hw=>BF (hv w hw),k⟩
 case h_7=>
  split at h
  ·split at h
   ·rename_i vs hvs _ v hv;refine⟨v,fun w _=>BF ?_,h⟩;simp at hv;simp [Instr.extract,hvs,hv]
   ·exact h.elim
  ·exact h.elim
 case h_8=>
  split at h
  ·rename_i p hp;exact⟨_,fun w _=>by simp [hp],h⟩
  ·exact h.elim
 case h_9=>
  split at h
  ·exact h.elim
  ·rename_i d hn hd;refine⟨_,fun w _=>BF ?_,h⟩;cases d<;>first | (exact(hn _ rfl).elim) | simp [Instr.makeInterface,run_underlying hd]
  ·exact h.elim
 case h_10=>
  refine⟨_,fun w _=>BF ?_,h⟩;simp only [←AcV,AcO];simp [Instr.makeFunc]
 all_goals try
  obtain⟨v,hv,k⟩:=h.out;exact⟨v,fun w hw=>BF (hv w hw),k⟩
 case h_18=>
  obtain⟨v,hv,k⟩:=h.out;simp only [←AcV,AcO]at hv;exact⟨v,fun w hw=>BF (hv w hw),k⟩
 all_goals simp only [←AcV,AcO]at h
 case h_20=>
  split at h
  ·rename_i t ht;split at h
   ·rename_i v hv;refine⟨v,fun w _=>BF (m:=Builtin.len_ _ _ _) ?_,h⟩;have e:∀{A:Array TypeId},A.toList=[t]→A= #[t]:=fun h=>Ad1 (by simpa using h);obtain rfl:=e ht;have h3:=Q7 (ty:=o.type) hv w;rwa [AcO]at h3
   ·obtain⟨v,hv,k⟩:=h.out;exact⟨v,fun w hw=>BF (m:=Builtin.len_ _ _ _) (hv w hw),k⟩
  ·obtain⟨v,hv,k⟩:=h.out;exact⟨v,fun w hw=>BF (m:=Builtin.len_ _ _ _) (hv w hw),k⟩
 case h_21=>
  obtain⟨v,hv,k⟩:=h.out;exact⟨v,fun w hw=>BF (m:=Builtin.cap_ _ _ _) (hv w hw),k⟩
 case h_22=>
  obtain⟨v,hv,k⟩:=h.out;exact⟨v,fun w hw=>BF (m:=Builtin.min_ _ _ _) (hv w hw),k⟩
 case h_23=>
  obtain⟨v,hv,k⟩:=h.out;exact⟨v,fun w hw=>BF (m:=Builtin.max_ _ _ _) (hv w hw),k⟩
 all_goals exact h.elim
structure F1(P:Program)(t:TypeId)(x:Value)(name:String)(args:Array Value)(H:Aa)(K:Value→Aa→Prop):Prop where
 in_::
 out_:∃f as1,(∀w:World,w.heap=H→(callMethod (.iface t x) name args).run P w= .ok (.enter f as1) w)∧Al P f as1 H K
def SN(P:Program)(q:Bool)(S:Nat→Prop)(f:Value)(args:List Value)(H:Aa)(K:Value→Aa→Prop):Prop:=
 match f with
 | .func (.func g) first cap=>match q with
   | true=>IW P g (first.toList++args++cap.toList).toArray S H fun v=>K v H
   | false=>Ad P g (first.toList++args++cap.toList).toArray H K
 | _=>False
def ZC(P:Program)(o:Oper)(fr:Fr)(H:Aa)(K:Value→Aa→Prop):Prop:=
 match o.op with
 | .alloc t=>BN P (Instr.alloc t true (.tuple #[])) H K
 | .box t x=>evK fr x fun v=>BN P (Instr.box t v) H K
 | .buildSlice t n ps=>XF fr ps.toList fun vs=>BN P (Instr.buildSlice t n vs.toArray) H K
 | .store t a x=>evK fr a fun p=>evK fr x fun v=>CY P (Instr.storeAt t p v) H fun H'=>K undef H'
 | .makeMap t r=>Uh fr r fun v=>BN P (Instr.makeMap t v) H K
 | .makeSlice t l c=>evK fr l fun n=>evK fr c fun m=>BN P (Instr.makeSlice t n m) H K
 | .mapUpdate t m k x=>evK fr m fun r=>evK fr k fun j=>evK fr x fun v=>CY P (Instr.mapUpdate t r j v) H fun H'=>K undef H'
 | .insert t m k x=>evK fr m fun r=>evK fr k fun j=>evK fr x fun v=>CY P (Instr.mapUpdate t r j v) H fun H'=>K undef H'
 | .mapEntry t m k=>evK fr m fun r=>evK fr k fun j=>BN P (Instr.mapEntry t r j) H K
 | .entryStore t m s x=>evK fr m fun r=>evK fr s fun j=>evK fr x fun v=>CY P (Instr.entryStore t r j v) H fun H'=>K undef H'
 | .range t x=>evK fr x fun v=>BN P (Instr.range t v) H K
 | .next it s=>evK fr it fun v=>BN P (Instr.next v s o.type) H K
 | .entry it=>evK fr it fun v=>BN P (Instr.entry v) H K
 | .convert s d x=>evK fr x fun v=>BN P (convert s d v) H K
 | .call {callee:=.builtin .append,args,argTypes}=>Hb fr args.toList fun vs=>BN P (Builtin.append_ argTypes o.type vs.toArray) H K
 | .call {callee:=.builtin .copy,args,argTypes}=>Hb fr args.toList fun vs=>BN P (Builtin.copy_ argTypes o.type vs.toArray) H K
 | .call {callee:=.builtin .delete,args,argTypes}=>Hb fr args.toList fun vs=>BN P (Builtin.delete_ argTypes o.type vs.toArray) H K
 | .call {callee:=.builtin .clear,args,argTypes}=>Hb fr args.toList fun vs=>BN P (Builtin.clear_ argTypes o.type vs.toArray) H K
 | .call {callee:=.invoke r name,args, .. }=>evK fr r fun v=>Hb fr args.toList fun vs=>match v with
   | .iface t x=>F1 P t x name vs.toArray H K
   | _=>False
 | .call {callee:=.value f,args, .. }=>evK fr f fun g=>Hb fr args.toList fun vs=>SN P false (fun _=>True) g vs H K
 | _=>False
def Gd(P:Program)(o:Oper):Bool:=
 match o.op with
 | .convert s d _=>match P.underlying s,P.underlying d with
   | some (.slice _),_=>false
   | some .string,some (.slice _)=>false
   | _,_=>true
 | _=>true
def opK(P:Program)(q:Bool)(S:Nat→Prop)(o:Oper)(fr:Fr)(H:Aa)(K:Value→Aa→Prop):Prop:=
 match La o&&Gd P o with
 | true=>Nw P S o fr H fun v=>K v H
 | false=>match q with
   | true=>match o.op with
     | .call {callee:=.value f,args, .. }=>evK fr f fun g=>Hb fr args.toList fun vs=>SN P true S g vs H K
     | _=>False
   | false=>ZC P o fr H K
theorem BN.out{P:Program}{m:Sem Value}{H:Aa}{K:Value→Aa→Prop}(h:BN P m H K):
  ∀w:World,w.heap=H→∃v w',m.run P w= .ok v w'∧Env w w'∧K v w'.heap:=by exact h.out_
theorem CY.out{P:Program}{m:Sem Unit}{H:Aa}{K:Aa→Prop}(h:CY P m H K):
  ∀w:World,w.heap=H→∃w',m.run P w= .ok () w'∧Env w w'∧K w'.heap:=by exact h.out_
theorem Ad.out{P:Program}{f:FuncId}{args:Array Value}{H:Aa}{K:Value→Aa→Prop}(h:Ad P f args H K):Al P f args H K:=by
 exact h.out_
theorem IW.out{P:Program}{f:FuncId}{args:Array Value}{S:Nat→Prop}{H:Aa}{K:Value→Prop}(h:IW P f args S H K):
  ∃v,(∀H',Agr S H H'→Al P f args H' fun v' H''=>v'=v∧Agr S H' H'')∧K v:=by exact h.out_
theorem F1.out{P:Program}{t:TypeId}{x:Value}{name:String}{args:Array Value}{H:Aa}{K:Value→Aa→Prop}(h:F1 P t x name args H K):
  ∃f as1,(∀w:World,w.heap=H→(callMethod (.iface t x) name args).run P w= .ok (.enter f as1) w)∧Al P f as1 H K:=by exact h.out_
theorem F1.mk{P:Program}{t:TypeId}{x:Value}{name:String}{args:Array Value}{H:Aa}{K R:Value→Aa→Prop}(f:FuncId)(as1:Array Value)
  (hm:∀w:World,(callMethod (.iface t x) name args).run P w= .ok (.enter f as1) w) (h:Al P f as1 H R) (k:∀v H',R v H'→K v H'):F1 P t x name args H K:=by
 exact⟨⟨f,as1,fun w _=>hm w,h.mono k⟩⟩
def R0(P:Program)(o:Oper)(a:Act)(w:World)(K:Value→Aa→Prop):Prop:=
 ∀Q:Exit→Act→World→Prop,o.wp P a w (fun a' w'=>∃v,a'=a.put o.dst v∧Env w w'∧K v w'.heap) Q
theorem MJ{P:Program}{o:Oper}{a:Act}{w w':World}{K:Value→Aa→Prop}{v:Value}
  (h:(execOp a.eval o).run P w= .ok (.value v) w') (he:Env w w') (k:K v w'.heap):R0 P o a w K:=by
 intro Q;unfold Oper.wp;rw [h];exact⟨v,rfl,he,k⟩
theorem U0{P:Program}{o:Oper}{a:Act}{w w':World}{K:Value→Aa→Prop}
  (h:(execOp a.eval o).run P w= .ok .skip w') (he:Env w w') (k:K undef w'.heap):R0 P o a w K:=by
 intro Q;unfold Oper.wp;rw [h];exact⟨undef,rfl,he,k⟩
theorem MI{P:Program}{o:Oper}{a:Act}{w:World}{K:Value→Aa→Prop}{f:FuncId}{args:Array Value}
  (h:(execOp a.eval o).run P w=(callFunc f args).run P w) (k:Al P f args w.heap K):R0 P o a w K:=by
 intro Q;unfold Oper.wp;rw [h,(k w rfl).1];refine(k w rfl).2.mono ?_;rintro e w' ⟨v,rfl,he,hk⟩;exact⟨v,rfl,he,hk⟩
theorem RL{P:Program}{o:Oper}{fr:Fr}{a:Act}{w:World}{K:Value→Aa→Prop}(hat:At fr a)
  (h:ZC P o fr w.heap K):R0 P o a w K:=by
 have he:=hat.evalF;unfold ZC at h;split at h<;>rename_i ho<;>try simp only [HT,I4,Tb,OX,←AcV,AcO]at h
 all_goals try (
  obtain⟨v,w',hr,henv,hk⟩:=h.out w rfl;exact MJ (by rw [he];simp only [execOp,ho];exact BF hr) henv hk)
 all_goals try (
  obtain⟨w',hr,henv,hk⟩:=h.out w rfl;exact U0 (by rw [he];simp only [execOp,ho];exact W9 hr) henv hk)
 case h_19=>
  split at h
  ·rename_i t x hx;obtain⟨f,as1,h1,h2⟩:=h.out;refine MI ?_ h2;rw [he];simp only [execOp,ho,resolve,hx];rw [(h2 w rfl).1,←h1 w rfl];have e1:∀A:Array Value,(#[Value.iface t x]++A)[0]? =some (Value.iface t x):=fun A=>by simp [Array.getElem?_append]
   rename_i args argTypes _;have e2:(AcZ (evF fr) args).extract 0 args.size=AcZ (evF fr) args:=by
    rw [show args.size=(AcZ (evF fr) args).size by simp];exact Array.extract_size
   simp [invoke,e1,e2]
  ·exact h.elim
 case h_20=>
  unfold SN at h;rename_i f' args argTypes;split at h
  ·rename_i g first cap hg
   refine MI ?_ h.out;rw [he];have e:(first.toList++(AcZ (evF fr) args).toList++cap.toList).toArray=first++AcZ (evF fr) args++cap:=Ad1 (by simp)
   rw [e];simp only [execOp,ho,resolve,hg,Deferred.ofValue];simp [invoke]
  ·exact h.elim
 all_goals exact h.elim
theorem Dq{P:Program}{o:Oper}{fr:Fr}{a:Act}{w:World}{K:Value→Aa→Prop}(hat:At fr a)
  (h:opK P false (fun _=>True) o fr w.heap K):R0 P o a w K:=by
 unfold opK at h;split at h
 ·obtain⟨v,hr,hk⟩:=EJ h;exact MJ (by rw [hat.evalF];exact hr w (Agr.refl _ _)) (Env.refl w) hk
 ·exact RL hat h
def Cls(w0:World)(S:Nat→Prop)(w:World):Prop:=Env w0 w∧Agr S w0.heap w.heap
theorem Uz{P:Program}{S:Nat→Prop}{o:Oper}{fr:Fr}{a:Act}{w0:World}{K:Value→Aa→Prop}(hat:At fr a)
  (h:opK P true S o fr w0.heap K):∃v,(∀w,Cls w0 S w→o.quietAt P a (Cls w0 S) w v)∧K v w0.heap:=by
 unfold opK at h;split at h
 ·obtain⟨v,hr,hk⟩:=EJ h;refine⟨v,fun w hw=>?_,hk⟩;unfold Oper.quietAt;rw [hat.evalF,hr w hw.2];exact⟨rfl,rfl⟩
 ·dsimp only at h;split at h
  ·rename_i f args argTypes ho;simp only [HT,I4,←AcV]at h;unfold SN at h;split at h
   ·rename_i g first cap hg
    obtain⟨v,hv,hk⟩:=h.out;refine⟨v,fun w hw=>?_,hk⟩;obtain⟨h1,h2⟩:=hv w.heap hw.2 w rfl;have h3:(execOp a.eval o).run P w=(callFunc g (first.toList++(AcZ (evF fr) args).toList++cap.toList).toArray).run P w:=by
     rw [hat.evalF];have e:(first.toList++(AcZ (evF fr) args).toList++cap.toList).toArray=first++AcZ (evF fr) args++cap:=Ad1 (by simp)
     rw [e];simp only [execOp,ho,resolve,hg,Deferred.ofValue];simp [invoke]
    unfold Oper.quietAt;rw [h3,h1];refine⟨rfl,h2.mono ?_⟩;rintro e w' ⟨v',rfl,henv,rfl,hh⟩;exact⟨rfl,hw.1.trans henv,hw.2.trans hh⟩
   ·exact h.elim
  ·exact h.elim
def apK(K:Fr→Aa→Prop)(fr:Fr)(H:Aa):Prop:=K fr H
def Ph(P:Program)(q:Bool)(S:Nat→Prop)(o:Oper)(want:Bool)(t:Nat)(fr:Fr)(H:Aa)(K:Fr→Aa→Prop):Prop:=
 rdK fr t fun v=>match v with
  | .bool b=>AN b
    (wrK fr t (.bool true) fun fr1=>match want with
     | true=>opK P q S o fr1 H fun v H'=>CL o.dst fr1 v fun fr'=>apK K fr' H'
     | false=>CL o.dst fr1 undef fun fr'=>apK K fr' H)
    (wrK fr t (.bool false) fun fr1=>match want with
     | false=>opK P q S o fr1 H fun v H'=>CL o.dst fr1 v fun fr'=>apK K fr' H'
     | true=>CL o.dst fr1 undef fun fr'=>apK K fr' H)
  | .tuple _=>CL o.dst fr undef fun fr'=>apK K fr' H
  | _=>False
def Kb(P:Program)(q:Bool)(S:Nat→Prop)(all:List Oper)(l:List Oper):Fr→Aa→(Fr→Aa→Prop)→Prop:=
 AcY (motive:=fun _=>Fr→Aa→(Fr→Aa→Prop)→Prop) (fun fr H K=>K fr H) (fun o _ ih fr H K=>
  match o.guard with
  | none=>opK P q S o fr H fun v H'=>CL o.dst fr v fun fr'=>ih fr' H' K
  | some (j,want)=>match(all[j]?).bind (·.dst)with
    | none=>False
    | some t=>Ph P q S o want t fr H fun fr' H'=>ih fr' H' K) l
theorem Ob(P:Program)(q:Bool)(S:Nat→Prop)(all rest:List Oper)(o:Oper)(fr:Fr)(H:Aa)(K:Fr→Aa→Prop):Kb P q S all (o::rest) fr H K=
  (match o.guard with
  | none=>opK P q S o fr H fun v H'=>CL o.dst fr v fun fr'=>Kb P q S all rest fr' H' K
  | some (j,want)=>match(all[j]?).bind (·.dst)with
    | none=>False
    | some t=>Ph P q S o want t fr H fun fr' H'=>Kb P q S all rest fr' H' K):=rfl
theorem Ek{fr:Fr}{t:Nat}{v:Value}(h:rd fr t=v)(hv:v≠undef):fr.set t v=fr:=by
 unfold rd at h;rcases AdR t fr.length with hl | hl
 ·rw [AbW,AaT hl]at h;subst h;exact AdL hl
 ·rw [AbW,AcK hl]at h;exact absurd h.symm hv
theorem HB{ops:List Oper}{fr:Fr}{a:Act}(hat:At fr a){j t:Nat}(hj:(ops[j]?).bind (·.dst)=some t){b:Bool}(hv:rd fr t= .bool b):
  yielded ops.toArray a.tmps j=some b:=by
 obtain⟨rfl,_⟩:=hat;unfold yielded;have:((ops.toArray[j]?).bind (·.dst))=some t:=by simpa using hj
 rw [this];unfold rd at hv;rw [AbW]at hv;simp only [AdV];cases h:a.tmps[t]? with
 | none=>simp [h,undef]at hv
 | some v=>simp [h]at hv;simp [hv]
theorem HC{ops:List Oper}{fr:Fr}{a:Act}(hat:At fr a){j t:Nat}(hj:(ops[j]?).bind (·.dst)=some t){vs:Array Value}(hv:rd fr t= .tuple vs):
  yielded ops.toArray a.tmps j=none:=by
 obtain⟨rfl,_⟩:=hat;unfold yielded;have:((ops.toArray[j]?).bind (·.dst))=some t:=by simpa using hj
 rw [this];unfold rd at hv;rw [AbW]at hv;simp only [AdV];cases h:a.tmps[t]? with
 | none=>rfl
 | some v=>simp [h]at hv;simp [hv]
theorem Jr{P:Program}{all:List Oper}{Q:Exit→Act→World→Prop}:∀(l:List Oper) (fr:Fr) (a:Act) (w:World) (K:Fr→Aa→Prop),At fr a→
  (∀fr' a' w',At fr' a'→Env w w'→K fr' w'.heap→Q .normal a' w')→
  Kb P false (fun _=>True) all l fr w.heap K→wpList P all.toArray Q l a w
 | [],fr,a,w,K,hat,hq,h=>hq fr a w hat (Env.refl w) h
 | o::l,fr,a,w,K,hat,hq,h=>by
   have go:∀(want:Bool),(want=true→R0 P o a w fun v H'=>CL o.dst fr v fun fr'=>Kb P false (fun _=>True) all l fr' H' K)→
     (want=false→CL o.dst fr undef fun fr'=>Kb P false (fun _=>True) all l fr' w.heap K)→
     Region.wanted o (yielded all.toArray a.tmps)=want→wpList P all.toArray Q (o::l) a w:=by
    intro want h1 h2 hw;unfold wpList;rw [hw];cases want with
    | true=>
      refine .inl (Oper.wp_mono ?_ (h1 rfl _));rintro a' w' ⟨v,rfl,henv,hk⟩;rw [Cm]at hk;exact Jr l _ _ _ K (hat.put o.dst v) (fun fr' a' w'' h1 h2 h3=>hq fr' a' w'' h1 (henv.trans h2) h3) hk
    | false=>
      have h3:=h2 rfl;rw [Cm]at h3;exact Jr l _ _ _ K (hat.put o.dst undef) hq h3
   rw [Ob]at h;split at h
   ·rename_i hg;exact go true (fun _=>Dq hat h) (fun h=>by cases h) (by simp [Region.wanted,hg])
   ·rename_i j want hg;split at h
    ·exact h.elim
    ·rename_i t ht;unfold Ph at h;simp only [apK]at h;rw [DP]at h;split at h
     ·rename_i b hb;have hy:=HB hat ht hb;have hs:fr.set t (.bool b)=fr:=Ek hb (by simp [undef]);cases b<;>cases want<;>simp only [AN,Fv,hs]at h
      ·exact go true (fun _=>Dq hat h) (fun h=>by cases h) (by simp [Region.wanted,hg,hy])
      ·exact go false (fun h=>by cases h) (fun _=>h) (by simp [Region.wanted,hg,hy])
      ·exact go false (fun h=>by cases h) (fun _=>h) (by simp [Region.wanted,hg,hy])
      ·exact go true (fun _=>Dq hat h) (fun h=>by cases h) (by simp [Region.wanted,hg,hy])
     ·rename_i vs hb;exact go false (fun h=>by cases h) (fun _=>h) (by simp [Region.wanted,hg,HC hat ht hb])
     ·exact h.elim
theorem YL{P:Program}{id:Nat}{l:List Oper}{Q:Exit→Act→World→Prop}{fr:Fr}{a:Act}{w:World}{K:Fr→Aa→Prop}(hat:At fr a)
  (hq:∀fr' a' w',At fr' a'→Env w w'→K fr' w'.heap→Q .normal a' w')
  (h:Kb P false (fun _=>True) l l fr w.heap K):(Code.region id l.toArray false).wp P Q a w:=
 wp_region_lit (Jr l fr a w K hat hq h)
theorem Hn{P:Program}{S:Nat→Prop}{all:List Oper}{w0:World}:∀(l:List Oper) (fr:Fr) (a:Act) (K:Fr→Aa→Prop) (Q:Act→Prop),At fr a→
  (∀fr' a',At fr' a'→K fr' w0.heap→Q a')→
  Kb P true S all l fr w0.heap K→wpQuiet P all.toArray (Cls w0 S) Q l a
 | [],fr,a,K,Q,hat,hq,h=>hq fr a hat h
 | o::l,fr,a,K,Q,hat,hq,h=>by
   have go:∀(want:Bool),(want=true→opK P true S o fr w0.heap fun v H'=>CL o.dst fr v fun fr'=>Kb P true S all l fr' H' K)→
     (want=false→CL o.dst fr undef fun fr'=>Kb P true S all l fr' w0.heap K)→
     Region.wanted o (yielded all.toArray a.tmps)=want→wpQuiet P all.toArray (Cls w0 S) Q (o::l) a:=by
    intro want h1 h2 hw;unfold wpQuiet;rw [hw];cases want with
    | true=>
      obtain⟨v,hv,hk⟩:=Uz hat (h1 rfl);rw [Cm]at hk;exact⟨v,hv,Hn l _ _ K Q (hat.put o.dst v) hq hk⟩
    | false=>
      have h3:=h2 rfl;rw [Cm]at h3;exact Hn l _ _ K Q (hat.put o.dst undef) hq h3
   rw [Ob]at h;split at h
   ·rename_i hg;exact go true (fun _=>h) (fun h=>by cases h) (by simp [Region.wanted,hg])
   ·rename_i j want hg;split at h
    ·exact h.elim
    ·rename_i t ht;unfold Ph at h;simp only [apK]at h;rw [DP]at h;split at h
     ·rename_i b hb;have hy:=HB hat ht hb;have hs:fr.set t (.bool b)=fr:=Ek hb (by simp [undef]);cases b<;>cases want<;>simp only [AN,Fv,hs]at h
      ·exact go true (fun _=>h) (fun h=>by cases h) (by simp [Region.wanted,hg,hy])
      ·exact go false (fun h=>by cases h) (fun _=>h) (by simp [Region.wanted,hg,hy])
      ·exact go false (fun h=>by cases h) (fun _=>h) (by simp [Region.wanted,hg,hy])
      ·exact go true (fun _=>h) (fun h=>by cases h) (by simp [Region.wanted,hg,hy])
     ·rename_i vs hb;exact go false (fun h=>by cases h) (fun _=>h) (by simp [Region.wanted,hg,HC hat ht hb])
     ·exact h.elim
structure Ar(P:Program)(l:List Oper)(fr:Fr)(H:Aa)(K:Fr→Aa→Prop):Prop where
 in_::
 out_:∀(id:Nat) (Q:Exit→Act→World→Prop) (a:Act) (w:World),At fr a→w.heap=H→(∀c a w,¬Q (.panic c) a w)→
  (∀fr' a' w',At fr' a'→Env w w'→K fr' w'.heap→Q .normal a' w')→(Code.region id l.toArray true).wp P Q a w
theorem Ar.quiet{P:Program}{l:List Oper}{fr:Fr}{H:Aa}{K:Fr→Aa→Prop}(S:Nat→Prop)(hm:P.follows .mixedOrders=true)
  (hB:Region.lexB .any l.toArray=true) (h:Kb P true S l l fr H fun fr' _=>∀H',Agr S H H'→K fr' H'):Ar P l fr H K:=by
 refine⟨?_⟩;intro id Q a w hat hw _ hq;subst hw;refine wp_region_quiet (C:=Cls w S) hm hB ⟨⟨rfl,rfl,rfl⟩,Agr.refl _ _⟩ ?_;exact Hn l fr a _ _ hat (fun fr' a' hat' hk w' hw'=>hq fr' a' w' hat' hw'.1 (hk _ hw'.2)) h
theorem Xo{H H':Aa}(h:Agr (fun _=>True) H H'):H'=H:=Array.ext_getElem? fun i=>h i trivial
theorem Ar.lex{P:Program}{l:List Oper}{fr:Fr}{H:Aa}{K:Fr→Aa→Prop}(hm:P.follows .mixedOrders=true)
  (hB:Region.lexB .any l.toArray=true) (h:Kb P true (fun _=>True) l l fr H K):Ar P l fr H K:=by
 refine⟨?_⟩;intro id Q a w hat hw _ hq;subst hw;refine wp_region_quiet (C:=Cls w fun _=>True) hm hB ⟨⟨rfl,rfl,rfl⟩,Agr.refl _ _⟩ ?_;exact Hn l fr a K _ hat (fun fr' a' hat' hk w' hw'=>hq fr' a' w' hat' hw'.1 (by rw [Xo hw'.2];exact hk)) h
def Ns(P:Program)(ops:Array Oper)(Q:Exit→Act→World→Prop)(S:World→Prop)(z:Nat):Nat→Array Bool→Act→World→Prop
 | 0,listed,a,w=>Region.ready .any ops listed=[]∧Q .normal a w
 | fuel+1,listed,a,w=>
   (Region.ready .any ops listed=[]→Q .normal a w)∧
   ∀i∈Region.ready .any ops listed,wpOp P ops Q i (fun a' w'=>(i≠z→S w')∧Ns P ops Q S z fuel (listed.setIfInBounds i true) a' w') a w
theorem Nt{P:Program}{ops:Array Oper}{Q:Exit→Act→World→Prop}{S:World→Prop}{z:Nat}:∀(fuel:Nat) (listed:Array Bool) (a:Act) (w:World),
  Ns P ops Q S z fuel listed a w→wpAny P .any ops Q fuel listed a w
 | 0,_,_,_,h=>h
 | fuel+1,_,_,_,h=>⟨h.1,fun i hi=>wpOp_mono (fun a' w' h'=>Nt fuel _ a' w' h'.2) (h.2 i hi)⟩
theorem PL{P:Program}{ops:Array Oper}{Q:Exit→Act→World→Prop}{S:World→Prop}{z:Nat}{i:Nat}{oi:Oper}{v:Value}(hi:ops[i]? =some oi)
  (hsel:∀(j:Nat) (o:Oper) cs b,ops[j]? =some o→o.op≠ .select cs b)
  (hQ:∀c a w,Q (.panic c) (a.put oi.dst v) w→Q (.panic c) a w) (hiz:i≠z) (hz:∀oz,ops[z]? =some oz→∃e∈oz.after,Region.binds .any e=true∧e.on=i):
  ∀(fuel:Nat) (listed:Array Bool) (a:Act) (w:World),
   (∀j oj,ops[j]? =some oj→j≠i→listed.getD j true=false→(∀e∈oj.after,Region.binds .any e=true→e.on≠i)→oi.apart ops oj=true)→
   i∈Region.ready .any ops listed→YieldsIf P ops S oi v a→S w→
   Ns P ops Q S z fuel (listed.setIfInBounds i true) (a.put oi.dst v) w→Ns P ops Q S z (fuel+1) listed a w:=by
 intro fuel
 induction fuel with
 | zero=>
   intro listed a w _ hr hy hS H;refine⟨fun h=>(by rw [h]at hr;cases hr),fun j hj=>?_⟩;by_cases hji:j=i
   ·subst hji;exact hy.wpOp hi hS ⟨fun _=>hS,H⟩
   ·have:=ready_mono hj hji;rw [H.1]at this;cases this
 | succ fuel ih=>
   intro listed a w hfree hr hy hS H;refine⟨fun h=>(by rw [h]at hr;cases hr),fun j hj=>?_⟩;by_cases hji:j=i
   ·subst hji;exact hy.wpOp hi hS ⟨fun _=>hS,H⟩
   ·have h1:=H.2 j (ready_mono hj hji);obtain⟨hjun,oj,hoj,hall⟩:=mem_ready.1 hj;have hnot:∀e∈oj.after,Region.binds .any e=true→e.on≠i:=fun e he hb heq=>by
     have h1:=hall e he hb;have h0:=(mem_ready.1 hr).1;rw [heq]at h1;rcases AdR i listed.size with h' | h'
     ·simp [h']at h0 h1;rw [h0]at h1;cases h1
     ·simp [AdJ h']at h1
    have hjz:j≠z:=by
     intro hjz;subst hjz;obtain⟨e,he,hb,hon⟩:=hz oj hoj;exact hnot e he hb hon
    have h2:=wpOp_putIf hoj (hfree j oj hoj hji hjun hnot) (fun cs b=>hsel i oi cs b hi) (fun cs b=>hsel j oj cs b hoj) hQ hy h1;have hfree':∀k ok,ops[k]? =some ok→k≠i→(listed.setIfInBounds j true).getD k true=false→
      (∀e∈ok.after,Region.binds .any e=true→e.on≠i)→oi.apart ops ok=true:=fun k ok hk hki hun hno=>by
     refine hfree k ok hk hki ?_ hno;by_cases hjk:j=k
     ·subst hjk;exact hjun
     ·rw [getD_set_ne true hjk]at hun;exact hun
    refine wpOp_mono (fun a' w' h3=>⟨fun _=>h3.2.1 hjz,ih (listed.setIfInBounds j true) a' w' hfree' (ready_mono hr (Ne.symm hji)) h3.1 (h3.2.1 hjz) ?_⟩) h2;rw [Array.setIfInBounds_comm _ _ hji];exact h3.2.2
inductive Sch where
 | e
 | q (i:Nat) (s:Sch)
 | f (i:Nat) (s:Sch)
 | b (i:Nat) (s:Sch) (j:Nat) (s':Sch)
def sq:List Nat→Sch→Sch
 | [],s=>s
 | i::l,s=>.q i (sq l s)
def Rj(P:Program)(S:Nat→Prop)(z:Nat)(H0:Aa)(all:List Oper)(i:Nat)(fr:Fr)(H:Aa)(next:Fr→Aa→Prop):Prop:=
 match all[i]? with
 | none=>False
 | some o=>match o.guard with
   | some _=>False
   | none=>match AdC i z with
     | true=>opK P false (fun _=>True) o fr H fun v H'=>CL o.dst fr v fun fr'=>next fr' H'
     | false=>opK P false (fun _=>True) o fr H fun v H'=>Agr S H0 H'∧CL o.dst fr v fun fr'=>next fr' H'
def Qz(P:Program)(S:Nat→Prop)(z:Nat)(H0:Aa)(all:List Oper)(s:Sch):Fr→Aa→(Fr→Aa→Prop)→Prop:=
 Sch.rec (motive:=fun _=>Fr→Aa→(Fr→Aa→Prop)→Prop) (fun fr H K=>K fr H)
  (fun i _ ih fr H K=>match all[i]? with
   | none=>False
   | some o=>match o.guard with
     | some _=>False
     | none=>match La o&&Gd P o with
       | true=>Nw P S o fr H fun v=>CL o.dst fr v fun fr'=>ih fr' H K
       | false=>False)
  (fun i _ ih fr H K=>Rj P S z H0 all i fr H fun fr' H'=>ih fr' H' K)
  (fun i _ j _ ih ih' fr H K=>(Rj P S z H0 all i fr H fun fr' H'=>ih fr' H' K)∧Rj P S z H0 all j fr H fun fr' H'=>ih' fr' H' K) s
theorem XV(P:Program)(S:Nat→Prop)(z:Nat)(H0:Aa)(all:List Oper)(i:Nat)(s:Sch)(fr:Fr)(H:Aa)(K:Fr→Aa→Prop):Qz P S z H0 all (.q i s) fr H K=
  (match all[i]? with
   | none=>False
   | some o=>match o.guard with
     | some _=>False
     | none=>match La o&&Gd P o with
       | true=>Nw P S o fr H fun v=>CL o.dst fr v fun fr'=>Qz P S z H0 all s fr' H K
       | false=>False):=rfl
def HX(ops:Array Oper)(z:Nat):Sch→Array Bool→Bool
 | .e,listed=>(Region.ready .any ops listed).isEmpty
 | .q i s,listed=>(Region.ready .any ops listed).contains i&&Region.free .any ops listed i&& !(AdC i z)&&(decide (ops.size≤z)|| Region.waitsFor .any ops z i)&&HX ops z s (listed.setIfInBounds i true)
 | .f i s,listed=>Region.ready .any ops listed==[i]&&(!(AdC i z)|| (match s with | .e=>true | _=>false))&&HX ops z s (listed.setIfInBounds i true)
 | .b i s j s',listed=>Region.ready .any ops listed==[i,j]&& !(AdC i z)&& !(AdC j z)&&HX ops z s (listed.setIfInBounds i true)&&HX ops z s' (listed.setIfInBounds j true)
def Sch.len:Sch→Nat
 | .e=>0
 | .q _ s=>s.len+1
 | .f _ s=>s.len+1
 | .b _ s _ _=>s.len+1
def Sch.even:Sch→Bool
 | .e=>true
 | .q _ s=>s.even
 | .f _ s=>s.even
 | .b _ s _ s'=>s.even&&s'.even&&s.len==s'.len
theorem Io{P:Program}{S:Nat→Prop}{z:Nat}{w0:World}{all:List Oper}{Q:Exit→Act→World→Prop}{i:Nat}{fr:Fr}{a:Act}{w:World}{next:Fr→Aa→Prop}{N:Act→World→Prop}
  (hat:At fr a) (hc:Env w0 w) (h:Rj P S z w0.heap all i fr w.heap next)
  (hn:∀fr' a' w',At fr' a'→Env w0 w'→(i≠z→Cls w0 S w')→next fr' w'.heap→N a' w'):wpOp P all.toArray Q i N a w:=by
 unfold Rj at h;split at h
 ·exact h.elim
 ·rename_i o ho;have ho':all.toArray[i]? =some o:=by simpa using ho
  split at h
  ·exact h.elim
  ·rename_i hg;have hwant:Region.wanted o (yielded all.toArray a.tmps)=true:=by simp [Region.wanted,hg]
   unfold wpOp;rw [ho'];dsimp only;rw [if_pos hwant];split at h
   ·rename_i hz;refine .inl (Oper.wp_mono ?_ (Dq hat h _));rintro a' w' ⟨v,rfl,henv,hk⟩;rw [Cm]at hk;exact hn _ _ _ (hat.put o.dst v) (hc.trans henv) (fun hne=>absurd (AdM hz) hne) hk
   ·refine .inl (Oper.wp_mono ?_ (Dq hat h _));rintro a' w' ⟨v,rfl,henv,hagr,hk⟩;rw [Cm]at hk;exact hn _ _ _ (hat.put o.dst v) (hc.trans henv) (fun _=>⟨hc.trans henv,hagr⟩) hk
theorem Fe{P:Program}{S:Nat→Prop}{z:Nat}{w0:World}{all:List Oper}{Q:Exit→Act→World→Prop}(hs:Region.noSelect all.toArray=true)
  (hp:∀c a w,¬Q (.panic c) a w):∀(l:Sch) (listed:Array Bool) (fr:Fr) (a:Act) (w:World) (K:Fr→Aa→Prop),At fr a→(l= .e→Env w0 w)→(l≠ .e→Cls w0 S w)→
  (∀fr' a' w',At fr' a'→Env w0 w'→K fr' w'.heap→Q .normal a' w')→HX all.toArray z l listed=true→l.even=true→
  Qz P S z w0.heap all l fr w.heap K→Ns P all.toArray Q (Cls w0 S) z l.len listed a w
 | .e,listed,fr,a,w,K,hat,he,_,hq,hB,_,h=>⟨by simpa [HX]using hB,hq fr a w hat (he rfl) h⟩
 | .q i s,listed,fr,a,w,K,hat,_,hc,hq,hB,hev,h=>by
   have hc:=hc (by simp);simp only [HX,AcP,AdG,decide_eq_true_eq,AdA]at hB;obtain⟨⟨⟨⟨b1,b2⟩,b3⟩,b4⟩,hB2⟩:=hB;rw [XV]at h;split at h
   ·exact h.elim
   ·rename_i o ho;have ho':all.toArray[i]? =some o:=by simpa using ho
    split at h
    ·exact h.elim
    ·rename_i hg;have hwant:Region.wanted o (yielded all.toArray a.tmps)=true:=by simp [Region.wanted,hg]
     split at h
     ·obtain⟨v,hv,hk⟩:=EJ h;rw [Cm]at hk;refine PL (v:=v) ho' (Region.noSelect_spec hs) (fun c a' w' hh=>(hp _ _ _ hh).elim) (AcF b3) ?_ s.len listed a w (Region.free_spec ho' b2) (by simpa using b1)
       (.inl ⟨hwant,fun w' hw'=>?_⟩) hc ?_
      ·intro oz hoz;rcases b4 with b4 | b4
       ·rw [AdJ b4]at hoz;cases hoz
       ·obtain⟨oj,hoj,e,he,hb,hon⟩:=Region.waitsFor_spec b4;have:oj=oz:=Option.some.inj (hoj.symm.trans hoz);subst this;exact⟨e,he,hb,hon⟩
      ·rw [hat.evalF];exact hv w' fun k hk=>(hw'.2 k hk).trans (hc.2 k hk).symm
      ·exact Fe hs hp s _ _ _ w K (hat.put o.dst v) (fun _=>hc.1) (fun _=>hc) hq hB2 hev hk
     ·exact h.elim
 | .f i s,listed,fr,a,w,K,hat,_,hc,hq,hB,hev,h=>by
   have hcl:=hc (by simp);simp only [HX,AcP,AdG,AdA,beq_iff_eq]at hB;obtain⟨⟨b1,b2⟩,hB2⟩:=hB;refine⟨(fun h0=>by rw [b1]at h0;cases h0),fun j hj=>?_⟩;rw [b1]at hj;obtain rfl:j=i:=by simpa using hj
   refine Io hat hcl.1 h fun fr' a' w' h1 h2 h3 h4=>⟨h3,Fe hs hp s _ _ _ w' K h1 (fun _=>h2) (fun hne=>h3 fun hjz=>?_) hq hB2 hev h4⟩;rcases b2 with b2 | b2
   ·exact AcF b2 hjz
   ·cases s<;>first | exact hne rfl | cases b2
 | .b i s j s',listed,fr,a,w,K,hat,_,hc,hq,hB,hev,h=>by
   have hcl:=hc (by simp);simp only [HX,AcP,AdA,beq_iff_eq]at hB;obtain⟨⟨⟨⟨b1,b2⟩,b3⟩,hB2⟩,hB3⟩:=hB;simp only [Sch.even,AcP,beq_iff_eq]at hev;obtain⟨⟨e1,e2⟩,e3⟩:=hev;refine⟨(fun h0=>by rw [b1]at h0;cases h0),fun k hk=>?_⟩;rw [b1]at hk;rcases AdZ.1 hk with rfl | hk
   ·exact Io hat hcl.1 h.1 fun fr' a' w' h1 h2 h3 h4=>⟨h3,Fe hs hp s _ _ _ w' K h1 (fun _=>h2) (fun _=>h3 (AcF b2)) hq hB2 e1 h4⟩
   ·obtain rfl:k=j:=by simpa using hk
    rw [e3];exact Io hat hcl.1 h.2 fun fr' a' w' h1 h2 h3 h4=>⟨h3,Fe hs hp s' _ _ _ w' K h1 (fun _=>h2) (fun _=>h3 (AcF b3)) hq hB3 e2 h4⟩
theorem Ar.held{P:Program}{l:List Oper}{fr:Fr}{H:Aa}{K:Fr→Aa→Prop}(S:Nat→Prop)(z:Nat)(sched:Sch)(hm:P.follows .mixedOrders=true)
  (hB:(Region.noSelect l.toArray&&(sched.len==l.length)&&sched.even&&HX l.toArray z sched (Ad6 l.length false))=true)
  (h:Qz P S z H l sched fr H K):Ar P l fr H K:=by
 refine⟨?_⟩;intro id Q a w hat hw hp hq;subst hw;simp only [AcP,beq_iff_eq]at hB;refine wp_region_any hm (Nt (S:=Cls w S) (z:=z) _ _ _ _ ?_);have:=Fe (P:=P) (S:=S) (z:=z) (w0:=w) (Q:=Q) hB.1.1.1 hp sched (Ad6 l.length false) fr a {w with drawn:=w.drawn+1} K hat (fun _=>⟨rfl,rfl,rfl⟩) (fun _=>⟨⟨rfl,rfl,rfl⟩,Agr.refl _ _⟩) hq hB.2 hB.1.2 h;rw [hB.1.1.2]at this;simpa using this
theorem Ar.tail{P:Program}{l:List Oper}{fr:Fr}{H:Aa}{K:Fr→Aa→Prop}(z:Nat)(sched:Sch)(hm:P.follows .mixedOrders=true)
  (hB:(Region.noSelect l.toArray&&(sched.len==l.length)&&sched.even&&HX l.toArray z sched (Ad6 l.length false))=true)
  (h:Qz P (fun _=>True) z H l sched fr H K):Ar P l fr H K:=Ar.held _ z sched hm hB h
theorem Ar.out{P:Program}{l:List Oper}{fr:Fr}{H:Aa}{K:Fr→Aa→Prop}(h:Ar P l fr H K):
  ∀(id:Nat) (Q:Exit→Act→World→Prop) (a:Act) (w:World),At fr a→w.heap=H→(∀c a w,¬Q (.panic c) a w)→
  (∀fr' a' w',At fr' a'→Env w w'→K fr' w'.heap→Q .normal a' w')→(Code.region id l.toArray true).wp P Q a w:=by
 exact h.out_
def Gv(w0:World)(Q:Exit→Fr→Aa→Prop):Exit→Act→World→Prop
 | .panic _,_,_=>False
 | .outgrown,_,_=>False
 | e,a,w=>∃fr,At fr a∧Env w0 w∧Q e fr w.heap
def NI(X:List (Nat×(Fr→Aa→Prop)))(id:Nat)(fr:Fr)(H:Aa):Prop:=
 match X with
 | []=>False
 | (j,k)::X=>match AdC j id with
   | true=>k fr H
   | false=>NI X id fr H
def Qx(kn:Fr→Aa→Prop)(X:List (Nat×(Fr→Aa→Prop)))(kr:Fr→Aa→Prop)(e:Exit)(fr:Fr)(H:Aa):Prop:=
 match e with
 | .normal=>kn fr H
 | .exit id=>NI X id fr H
 | .ret=>kr fr H
 | _=>False
structure AK(P:Program)(c:Code)(fr:Fr)(H:Aa)(X:List (Nat×(Fr→Aa→Prop)))(kr:Fr→Aa→Prop):Prop where
 in_::
 out_:∀(a:Act) (w:World),At fr a→w.heap=H→(Code.loop c).wp P (Gv w (Qx (fun _ _=>False) X kr)) a w
def Jh:Code→Bool
 | .ret | .exit _ | .goto _=>false
 | .seq a b=>Jh a&&Jh b
 | .cond _ a b=>Jh a|| Jh b
 | _=>true
def Hc(id:Nat):Code→Nat
 | .exit j=>match AdC j id with
   | true=>1
   | false=>0
 | .seq a b=>Hc id a+Hc id b
 | .cond _ a b=>Hc id a+Hc id b
 | .block _ c=>Hc id c
 | .loop c=>Hc id c
 | _=>0
def K4:Code→Bool
 | .seq _ b=>K4 b
 | .cond _ a b=>Jh a&&Jh b
 | .block id (.loop c)=>Nat.blt 1 (Hc id c)
 | .block id c=>(Jh c&&Nat.blt 0 (Hc id c))|| Nat.blt 1 (Hc id c)|| K4 c
 | _=>false
structure Av(P:Program)(x y:Code)(fr:Fr)(H:Aa)(kn:Fr→Aa→Prop)(X:List (Nat×(Fr→Aa→Prop)))(kr:Fr→Aa→Prop):Prop where
 in_::
 out_:∀(a:Act) (w:World),At fr a→w.heap=H→(Code.seq x y).wp P (Gv w (Qx kn X kr)) a w
def vc(P:Program)(c:Code):Fr→Aa→(Fr→Aa→Prop)→List (Nat×(Fr→Aa→Prop))→(Fr→Aa→Prop)→Prop:=
 Code.rec (motive:=fun _=>Fr→Aa→(Fr→Aa→Prop)→List (Nat×(Fr→Aa→Prop))→(Fr→Aa→Prop)→Prop)
  (fun fr H kn _ _=>kn fr H)
  (fun _ ops draw fr H kn _ _=>match draw with
   | false=>Kb P false (fun _=>True) ops.toList ops.toList fr H kn
   | true=>Ar P ops.toList fr H kn)
  (fun a b iha ihb fr H kn X kr=>match K4 a with
   | true=>Av P a b fr H kn X kr
   | false=>iha fr H (fun fr' H'=>ihb fr' H' kn X kr) X kr)
  (fun c _ _ ihx ihy fr H kn X kr=>match c with
   | .tmp t=>rdK fr t fun v=>match v with
     | .bool b=>AN b (wrK fr t (.bool true) fun fr1=>ihx fr1 H kn X kr) (wrK fr t (.bool false) fun fr1=>ihy fr1 H kn X kr)
     | _=>False
   | .const (.bool b)=>AN b (ihx fr H kn X kr) (ihy fr H kn X kr)
   | _=>False)
  (fun id _ ih fr H kn X kr=>ih fr H kn ((id,kn)::X) kr)
  (fun c _ fr H _ X kr=>AK P c fr H X kr)
  (fun _ _ _ _ _ _ _ _ _ _ _=>False)
  (fun id fr H _ X _=>NI X id fr H)
  (fun _ _ _ _ _ _ _=>False)
  (fun _ _ _ _ _ _=>False)
  (fun _ _ _ _ _ _=>False)
  (fun fr H _ _ kr=>kr fr H)
  (fun _ _ _ _ _ _=>False) c
section
variable(P:Program)(a b:Code)(fr:Fr)(H:Aa)(kn:Fr→Aa→Prop)(X:List (Nat×(Fr→Aa→Prop)))(kr:Fr→Aa→Prop)
theorem UV(id:Nat)(ops:Array Oper)(draw:Bool):vc P (.region id ops draw) fr H kn X kr=(match draw with
   | false=>Kb P false (fun _=>True) ops.toList ops.toList fr H kn
   | true=>Ar P ops.toList fr H kn):=rfl
theorem AaK:vc P (.seq a b) fr H kn X kr=(match K4 a with
   | true=>Av P a b fr H kn X kr
   | false=>vc P a fr H (fun fr' H'=>vc P b fr' H' kn X kr) X kr):=rfl
theorem YK(c:Operand):vc P (.cond c a b) fr H kn X kr=(match c with
   | .tmp t=>rdK fr t fun v=>match v with
     | .bool x=>AN x (wrK fr t (.bool true) fun fr1=>vc P a fr1 H kn X kr) (wrK fr t (.bool false) fun fr1=>vc P b fr1 H kn X kr)
     | _=>False
   | .const (.bool x)=>AN x (vc P a fr H kn X kr) (vc P b fr H kn X kr)
   | _=>False):=rfl
theorem Xc(id:Nat):vc P (.block id a) fr H kn X kr=vc P a fr H kn ((id,kn)::X) kr:=rfl
end
theorem AK.out{P:Program}{c:Code}{fr:Fr}{H:Aa}{X:List (Nat×(Fr→Aa→Prop))}{kr:Fr→Aa→Prop}(h:AK P c fr H X kr):
  ∀(a:Act) (w:World),At fr a→w.heap=H→(Code.loop c).wp P (Gv w (Qx (fun _ _=>False) X kr)) a w:=by exact h.out_
theorem Av.out{P:Program}{x y:Code}{fr:Fr}{H:Aa}{kn:Fr→Aa→Prop}{X:List (Nat×(Fr→Aa→Prop))}{kr:Fr→Aa→Prop}(h:Av P x y fr H kn X kr):
  ∀(a:Act) (w:World),At fr a→w.heap=H→(Code.seq x y).wp P (Gv w (Qx kn X kr)) a w:=by exact h.out_
theorem Gv.env{w0 w1:World}{Q:Exit→Fr→Aa→Prop}(henv:Env w0 w1):∀{e:Exit} {a:Act} {w:World},Gv w1 Q e a w→Gv w0 Q e a w
 | .normal,_,_,⟨fr,h1,h2,h3⟩ | .exit _,_,_,⟨fr,h1,h2,h3⟩ | .goto _,_,_,⟨fr,h1,h2,h3⟩ | .ret,_,_,⟨fr,h1,h2,h3⟩=>⟨fr,h1,henv.trans h2,h3⟩
theorem Gv.mono{w0:World}{Q Q':Exit→Fr→Aa→Prop}(hq:∀e fr H,Q e fr H→Q' e fr H):∀{e:Exit} {a:Act} {w:World},Gv w0 Q e a w→Gv w0 Q' e a w
 | .normal,_,_,⟨fr,h1,h2,h3⟩ | .exit _,_,_,⟨fr,h1,h2,h3⟩ | .goto _,_,_,⟨fr,h1,h2,h3⟩ | .ret,_,_,⟨fr,h1,h2,h3⟩=>⟨fr,h1,h2,hq _ _ _ h3⟩
theorem Nb{P:Program}{x y:Code}{kn k1:Fr→Aa→Prop}{X:List (Nat×(Fr→Aa→Prop))}{kr:Fr→Aa→Prop}{a:Act}{w:World}
  (hx:x.wp P (Gv w (Qx k1 X kr)) a w)
  (hy:∀fr a' w',At fr a'→Env w w'→k1 fr w'.heap→y.wp P (Gv w' (Qx kn X kr)) a' w'):(Code.seq x y).wp P (Gv w (Qx kn X kr)) a w:=by
 refine wp_seq (Code.wp_mono ?_ hx);intro e a' w' h;cases e with
 | normal=>
   obtain⟨fr,h1,h2,h3⟩:=h;exact Code.wp_mono (fun e a w h=>Gv.env h2 h) (hy fr a' w' h1 h2 h3)
 | exit id=>exact h
 | goto l=>exact h
 | ret=>exact h
 | panic c=>exact h
 | outgrown=>exact h
theorem Ck{P:Program}:∀(c:Code) (fr:Fr) (kn:Fr→Aa→Prop) (X:List (Nat×(Fr→Aa→Prop))) (kr:Fr→Aa→Prop) (a:Act) (w:World),At fr a→
  vc P c fr w.heap kn X kr→c.wp P (Gv w (Qx kn X kr)) a w
 | .skip,fr,kn,X,kr,a,w,hat,h=>wp_skip ⟨fr,hat,Env.refl w,h⟩
 | .region id ops draw,fr,kn,X,kr,a,w,hat,h=>by
   rw [UV]at h;cases draw with
   | false=>
     have:=YL (P:=P) (id:=id) (l:=ops.toList) (Q:=Gv w (Qx kn X kr)) hat (fun fr' a' w' h1 h2 h3=>⟨fr',h1,h2,h3⟩) h;simpa using this
   | true=>
     have:=h.out id (Gv w (Qx kn X kr)) a w hat rfl (fun _ _ _ h=>h) (fun fr' a' w' h1 h2 h3=>⟨fr',h1,h2,h3⟩);simpa using this
 | .seq x y,fr,kn,X,kr,a,w,hat,h=>by
   rw [AaK]at h;split at h
   ·exact h.out a w hat rfl
   ·exact Nb (Ck x fr _ X kr a w hat h) fun fr' a' w' h1 _ h3=>Ck y fr' kn X kr a' w' h1 h3
 | .cond c x y,fr,kn,X,kr,a,w,hat,h=>by
   rw [YK]at h;split at h
   ·rename_i t;rw [DP]at h;split at h
    ·rename_i b hb;have hs:fr.set t (.bool b)=fr:=Ek hb (by simp [undef]);have he:a.eval (.tmp t)= .bool b:=by rw [hat.eval];exact hb
     cases b<;>simp only [AN,Fv,hs]at h
     ·exact wp_cond_false he (Ck y fr kn X kr a w hat h)
     ·exact wp_cond_true he (Ck x fr kn X kr a w hat h)
    ·exact h.elim
   ·rename_i b;cases b<;>simp only [AN]at h
    ·exact wp_cond_false rfl (Ck y fr kn X kr a w hat h)
    ·exact wp_cond_true rfl (Ck x fr kn X kr a w hat h)
   ·exact h.elim
 | .block id c,fr,kn,X,kr,a,w,hat,h=>by
   rw [Xc]at h;refine wp_block (Code.wp_mono ?_ (Ck c fr kn _ kr a w hat h));intro e a' w' h;cases e with
   | exit id'=>
     obtain⟨fr',h1,h2,h3⟩:=h;simp only [Qx,NI]at h3;simp only [Exit.inBlock];split at h3
     ·rename_i hid;have:=AdM hid;rw [if_pos this.symm];exact⟨fr',h1,h2,h3⟩
     ·rename_i hid;have:id≠id':=AcF hid;rw [if_neg (Ne.symm this)];exact⟨fr',h1,h2,h3⟩
   | normal=>exact h
   | goto l=>exact h
   | ret=>exact h
   | panic c=>exact h
   | outgrown=>exact h
 | .loop c,fr,kn,X,kr,a,w,hat,h=>Code.wp_mono (fun e a w=>Gv.mono fun e fr H hq=>by
   cases e<;>first | exact hq | exact hq.elim) (h.out a w hat rfl)
 | .exit id,fr,kn,X,kr,a,w,hat,h=>wp_exit ⟨fr,hat,Env.refl w,h⟩
 | .ret,fr,kn,X,kr,a,w,hat,h=>wp_ret ⟨fr,hat,Env.refl w,h⟩
 | .rangeFunc ..,_,_,_,_,_,_,_,h=>h.elim
 | .scope _,_,_,_,_,_,_,_,h=>h.elim
 | .label _,_,_,_,_,_,_,_,h=>h.elim
 | .goto _,_,_,_,_,_,_,_,h=>h.elim
 | .refuse _,_,_,_,_,_,_,_,h=>h.elim
noncomputable def P8{R:Type}(fr:Fr)(ts:List Nat):(List Value→R)→R:=
 AcY (motive:=fun _=>(List Value→R)→R) (fun K=>K []) (fun t _ ih K=>rdK fr t fun v=>ih fun vs=>K (v::vs)) ts
noncomputable def SB{R:Type}(fr:Fr)(ts:List Nat)(vs:List Value)(K:Fr→R):R:=
 AcY (motive:=fun _=>List Value→Fr→R) (fun _ fr=>K fr) (fun t _ ih vs fr=>List.casesOn vs (K fr) fun v vs=>wrK fr t v fun fr'=>ih vs fr') ts vs fr
noncomputable def Hh{R:Type}(f:Nat→Value)(fr:Fr)(ts:List Nat)(K:Fr→R):R:=
 AcY (motive:=fun _=>Fr→R) (fun fr=>K fr) (fun t _ ih fr=>wrK fr t (f t) fun fr'=>ih fr') ts fr
def wrs(fr:Fr):List Nat→List Value→Fr
 | t::ts,v::vs=>wrs (fr.set t v) ts vs
 | _,_=>fr
def FO(f:Nat→Value)(fr:Fr):List Nat→Fr
 | []=>fr
 | t::ts=>FO f (fr.set t (f t)) ts
theorem Gn{R:Type}(fr:Fr):∀(ts:List Nat) (K:List Value→R),P8 fr ts K=K (ts.map (rd fr))
 | [],_=>rfl
 | t::ts,K=>by show rdK fr t (fun v=>P8 fr ts fun vs=>K (v::vs))=_;simp only [DP,Gn fr ts,Ad3]
theorem IJ{R:Type}:∀(ts:List Nat) (vs:List Value) (fr:Fr) (K:Fr→R),SB fr ts vs K=K (wrs fr ts vs)
 | [],vs,fr,K=>by cases vs<;>rfl
 | _::_,[],_,_=>rfl
 | t::ts,v::vs,fr,K=>by show wrK fr t v (fun fr'=>SB fr' ts vs K)=_;simp only [Fv,wrs];exact IJ ts vs _ K
theorem CT{R:Type}(f:Nat→Value):∀(ts:List Nat) (fr:Fr) (K:Fr→R),Hh f fr ts K=K (FO f fr ts)
 | [],_,_=>rfl
 | t::ts,fr,K=>by show wrK fr t (f t) (fun fr'=>Hh f fr' ts K)=_;simp only [Fv,FO];exact CT f ts _ K
theorem K3(f:Nat→Value):∀(ts:List Nat) (fr:Fr) (i:Nat),(FO f fr ts)[i]? =if i∈ts∧i<fr.length then some (f i)else fr[i]?
 | [],fr,i=>by simp [FO]
 | t::ts,fr,i=>by
   simp only [FO,K3 f ts,AcL,AdZ,Ad2];by_cases h1:i∈ts<;>by_cases h2:i<fr.length<;>by_cases h3:t=i
   all_goals simp [h1,h2,h3]
   all_goals first | (subst h3;simp [h2];done) | (rw [if_neg (by omega)];done) | (have:¬i=t:=fun h=>h3 h.symm;simp [this];done) | skip
theorem JU(f:Nat→Value):∀(ts:List Nat) (fr:Fr),(FO f fr ts).length=fr.length
 | [],_=>rfl
 | t::ts,fr=>by simp only [FO,JU f ts,AcL]
theorem D6{ws:List Nat}{fr fr':Fr}(h:FO (fun _=>undef) fr' ws=FO (fun _=>undef) fr ws):FO (rd fr') fr ws=fr':=by
 have hl:fr'.length=fr.length:=by have:=congrArg List.length h;simpa [JU]using this
 apply Ac4;intro i;rw [K3];have hi:=congrArg (fun l:List Value=>l[i]?) h;simp only [K3,hl]at hi;by_cases h1:i∈ws∧i<fr.length
 ·rw [if_pos h1];simp [rd,AaT (hl ▸ h1.2)]
 ·rw [if_neg h1]at hi ⊢;rw [if_neg h1]at hi;exact hi.symm
theorem GW:∀(ts:List Nat) (fr:Fr),wrs fr ts (ts.map (rd fr))=fr
 | [],_=>rfl
 | t::ts,fr=>by
   have hs:fr.set t (rd fr t)=fr:=by
    unfold rd;rcases AdR t fr.length with hl | hl
    ·rw [AbW,AaT hl];exact AdL hl
    ·exact List.set_eq_of_length_le hl
   simp only [Ad3,wrs,hs];exact GW ts fr
def IT(ws:List Nat)(fr fr':Fr)(p:Prop):Prop:=
 Hh (fun _=>undef) fr' ws fun a=>Hh (fun _=>undef) fr ws fun b=>a=b∧p
theorem Lq{P:Program}{c:Code}{Q:Exit→Act→World→Prop}(J:Nat→Act→World→Prop)
  (round:∀n a w,J n a w→c.wp P (Exit.then (fun a' w'=>∃n',n'<n∧J n' a' w') Q) a w):∀n a w,J n a w→(Code.loop c).wp P Q a w:=by
 intro n0 a0 w0 h0 b k cs;have key:∀n a w,J n a w→∃e a' w',Q e a' w'∧Arrives P (lone (b.at a (.code c:: .inLoop c::k)) cs w) b k cs e a' w':=by
  intro n
  induction n using Nat.strongRecOn with
  | _ n ih=>
    intro a w hI;obtain⟨e,a₁,w₁,hq,harr⟩:=round n a w hI b (.inLoop c::k) cs;cases e with
    | normal=>
      obtain⟨n',hlt,hI₁⟩:=hq;obtain⟨e₂,a₂,w₂,hq₂,harr₂⟩:=ih n' hlt a₁ w₁ hI₁;exact⟨e₂,a₂,w₂,hq₂,.of_steps (Steps.trans harr (.one step_inLoop)) harr₂⟩
    | exit id=>exact⟨_,a₁,w₁,hq,.pass (x:=.inLoop c) rfl (fun _ _=>.inl (by simp)) harr⟩
    | goto l=>exact⟨_,a₁,w₁,hq,.pass (x:=.inLoop c) rfl (fun _ _=>.inl (by simp)) harr⟩
    | ret=>exact⟨_,a₁,w₁,hq,.pass (x:=.inLoop c) rfl (fun _ _=>.inl (by simp)) harr⟩
    | panic ch=>exact⟨_,a₁,w₁,hq,.pass (x:=.inLoop c) rfl (fun _ _=>.inl (by simp)) harr⟩
    | outgrown=>exact⟨_,a₁,w₁,hq,.pass (x:=.inLoop c) rfl (fun _ _=>.inl (by simp)) harr⟩
 obtain⟨e,a',w',hq,harr⟩:=key n0 a0 w0 h0;exact⟨e,a',w',hq,.of_steps (.one step_loop) harr⟩
def O7:List Oper→List Nat→List Nat
 | [],acc=>acc
 | o::l,acc=>match o.dst with
   | some d=>d::O7 l acc
   | none=>O7 l acc
def HA:Code→List Nat→List Nat
 | .region _ ops _,acc=>O7 ops.toList acc
 | .seq a b,acc=>HA a (HA b acc)
 | .cond _ a b,acc=>HA a (HA b acc)
 | .block _ c,acc=>HA c acc
 | .loop c,acc=>HA c acc
 | .scope c,acc=>HA c acc
 | _,acc=>acc
theorem AK.mk{P:Program}{c:Code}{fr:Fr}{H:Aa}{X:List (Nat×(Fr→Aa→Prop))}{kr:Fr→Aa→Prop}{α:Type}(ts:List Nat)(enc:α→List Value)(I:α→Aa→Prop)(m:α→Aa→Nat)
  (h0:P8 fr ts fun vs=>∃x,vs=enc x∧I x H)
  (hr:∀(x:α) (H1:Aa) (junk:Nat→Value),I x H1→Hh junk fr (HA c []) fun fr0=>SB fr0 ts (enc x) fun fr1=>
   vc P c fr1 H1 (fun fr' H'=>IT (HA c []) fr fr' (P8 fr' ts fun vs=>∃y,vs=enc y∧I y H'∧m y H'<m x H1)) X kr):AK P c fr H X kr:=by
 generalize HA c []=ws at hr;refine⟨?_⟩;intro a w hat hw;subst hw;have h0':=h0;rw [Gn]at h0';obtain⟨x0,hx0,hi0⟩:=h0'
 let J (n:Nat) (a':Act) (w':World):Prop:=∃fr' x,At fr' a'∧Env w w'∧FO (fun _=>undef) fr' ws=FO (fun _=>undef) fr ws∧ts.map (rd fr')=enc x∧I x w'.heap∧m x w'.heap=n
 refine Lq J ?_ _ a w ⟨fr,x0,hat,Env.refl w,rfl,hx0,hi0,rfl⟩;rintro n a1 w1 ⟨fr1,x1,hat1,henv1,hk1,hx1,hi1,rfl⟩;have h:=hr x1 w1.heap (rd fr1) hi1;rw [CT,IJ,D6 hk1,←hx1,GW ts fr1]at h;refine Code.wp_mono ?_ (Ck c fr1 _ X kr a1 w1 hat1 h);intro e a2 w2 h2;cases e with
 | normal=>
   obtain⟨fr2,hat2,henv2,h2⟩:=h2;simp only [Qx,IT,CT,Gn]at h2;obtain⟨hk2,y,hy,hiy,hm⟩:=h2;exact⟨m y w2.heap,hm,fr2,y,hat2,henv1.trans henv2,hk2,hy,hiy,rfl⟩
 | exit id=>exact Gv.env henv1 h2
 | goto l=>exact Gv.env henv1 h2
 | ret=>exact Gv.env henv1 h2
 | panic c=>exact h2
 | outgrown=>exact h2
theorem Av.run{P:Program}{x y:Code}{fr:Fr}{H:Aa}{kn:Fr→Aa→Prop}{X:List (Nat×(Fr→Aa→Prop))}{kr:Fr→Aa→Prop}
  (h:vc P x fr H (fun fr' H'=>vc P y fr' H' kn X kr) X kr):Av P x y fr H kn X kr:=by
 refine⟨?_⟩;intro a w hat hw;subst hw;exact Nb (Ck x fr _ X kr a w hat h) fun fr' a' w' h1 _ h3=>Ck y fr' kn X kr a' w' h1 h3
theorem Av.cut{P:Program}{x y:Code}{fr:Fr}{H:Aa}{kn:Fr→Aa→Prop}{X:List (Nat×(Fr→Aa→Prop))}{kr:Fr→Aa→Prop}{α:Type}(ts:List Nat)(enc:α→List Value)(I:α→Aa→Prop)
  (h:vc P x fr H (fun fr' H'=>IT (HA x []) fr fr' (P8 fr' ts fun vs=>∃y,vs=enc y∧I y H')) X kr)
  (k:∀(z:α) (H1:Aa) (junk:Nat→Value),I z H1→Hh junk fr (HA x []) fun fr0=>SB fr0 ts (enc z) fun fr1=>vc P y fr1 H1 kn X kr):Av P x y fr H kn X kr:=by
 generalize HA x []=ws at h k;refine⟨?_⟩;intro a w hat hw;subst hw;refine Nb (Ck x fr _ X kr a w hat h) fun fr1 a1 w1 h1 _ h3=>?_;simp only [IT,CT,Gn]at h3;obtain⟨hk,z,hz,hi⟩:=h3;have h:=k z w1.heap (rd fr1) hi;rw [CT,IJ,D6 hk,←hz,GW ts fr1]at h;exact Ck y fr1 kn X kr a1 w1 h1 h
def ldK(P:Program)(t:TypeId)(p:Value)(H:Aa)(K:Value→Prop):Prop:=
 match p with
 | .pointer (some a)=>AJ P (Instr.loadAt t (.pointer (some a))) (fun _=>True) H K
 | _=>False
def Nz(P:Program)(rs:List ResultVar)(fr:Fr)(H:Aa)(R:Value→Aa→Prop):Prop:=
 match rs with
 | [.tmp t]=>rdK fr t fun v=>R v H
 | []=>R (.tuple #[]) H
 | [.tmp t,.tmp u]=>rdK fr t fun v=>rdK fr u fun x=>R (.tuple #[v,x]) H
 | [.tmp t,.tmp u,.tmp y]=>rdK fr t fun v=>rdK fr u fun x=>rdK fr y fun z=>R (.tuple #[v,x,z]) H
 | [.cell a t]=>rdK fr a fun p=>ldK P t p H fun v=>R v H
 | [.cell a t,.tmp u]=>rdK fr a fun p=>ldK P t p H fun v=>rdK fr u fun x=>R (.tuple #[v,x]) H
 | [.tmp u,.cell a t]=>rdK fr a fun p=>ldK P t p H fun v=>rdK fr u fun x=>R (.tuple #[x,v]) H
 | [.cell a t,.cell b u]=>rdK fr a fun p=>ldK P t p H fun v=>rdK fr b fun q=>ldK P u q H fun x=>R (.tuple #[v,x]) H
 | _=>False
theorem FG{P:Program}{t:TypeId}{p:Value}{w:World}{K:Value→Prop}(h:ldK P t p w.heap K):
  ∃a v,p= .pointer (some a)∧(loadVar t a).run P w= .ok v w∧K v:=by
 unfold ldK at h;split at h
 ·rename_i a;obtain⟨v,hv,k⟩:=h.out;have h1:=hv w (Agr.refl _ _);simp [Instr.loadAt,Instr.sureAddr]at h1;exact⟨a,v,rfl,h1,k⟩
 ·exact h.elim
theorem MV{P:Program}{fn:Func}{fr:Fr}{a:Act}{w:World}{R:Value→Aa→Prop}(hat:At fr a)(h:Nz P fn.results.toList fr w.heap R):
  ∃v,(results fn a.tmps).run P w= .ok v w∧R v w.heap:=by
 have hrd:∀t,a.tmps.getD t undef=rd fr t:=fun t=>hat.eval (.tmp t);have mk:∀l:List ResultVar,fn.results.toList=l→fn.results=l.toArray:=fun l hl=>Ad1 (by simpa using hl);unfold Nz at h;split at h<;>rename_i hr<;>(try simp only [DP]at h)<;>have hr':=mk _ hr
 ·exact⟨_,by simp [results,hr',hrd],h⟩
 ·exact⟨_,by simp [results,hr'],h⟩
 ·exact⟨_,by simp [results,hr',hrd],h⟩
 ·exact⟨_,by simp [results,hr',hrd],h⟩
 ·obtain⟨p,v,hp,hv,hR⟩:=FG h;exact⟨v,by simp [results,hr',hrd,hp,asAddr,hv],hR⟩
 ·obtain⟨p,v,hp,hv,hR⟩:=FG h;exact⟨_,by simp [results,hr',hrd,hp,asAddr,hv],hR⟩
 ·obtain⟨p,v,hp,hv,hR⟩:=FG h;exact⟨_,by simp [results,hr',hrd,hp,asAddr,hv],hR⟩
 ·obtain⟨p,v,hp,hv,hR⟩:=FG h;obtain⟨p',v',hp',hv',hR⟩:=FG hR;exact⟨_,by simp [results,hr',hrd,hp,hp',asAddr,hv,hv'],hR⟩
noncomputable def MG{R:Type}(l:Fr):(Fr→R)→R:=
 AcY (motive:=fun _=>(Fr→R)→R) (fun K=>K []) (fun v _ ih K=>ih fun l'=>K (v::l')) l
theorem GR{R:Type}:∀(l:Fr) (K:Fr→R),MG l K=K l
 | [],_=>rfl
 | v::l,K=>by show MG l (fun l'=>K (v::l'))=_;exact GR l _
theorem Al.of_vc{P:Program}{f:FuncId}{fn:Func}{c:Code}{args:Array Value}{H:Aa}{R:Value→Aa→Prop}(hf:P.funcs[f]? =some fn)(hb:fn.body=some c)
  (hcall:∀w:World,(callFunc f args).run P w= .ok (.enter f args) w)
  (h:MG (args.toList++Ab8 (fn.ntmps - args.size) undef) fun fr=>vc P c fr H (fun fr' H'=>Nz P fn.results.toList fr' H' R) [] (fun fr' H'=>Nz P fn.results.toList fr' H' R)):
  Al P f args H R:=by
 intro w hw;subst hw;refine⟨hcall w,?_⟩;refine calls_of_wp hf hb ?_;rw [GR]at h;have hat:At (args.toList++Ab8 (fn.ntmps - args.size) undef) {tmps:=args++Ad6 (fn.ntmps - args.size) undef,defers:=[]}:=⟨by simp,rfl⟩;refine Code.wp_mono ?_ (Ck c _ _ _ _ _ w hat h);intro e a' w' h2;have fin:∀fr,At fr a'→Env w w'→Nz P fn.results.toList fr w'.heap R→a'.defers=[]∧∃v,(results fn a'.tmps).run P w'= .ok v w'∧∃v',Ending.returned v= .returned v'∧Env w w'∧R v' w'.heap:=by
  intro fr h1 h2 h3;obtain⟨v,hv,hR⟩:=MV h1 h3;exact⟨h1.defers,v,hv,v,rfl,h2,hR⟩
 cases e with
 | normal=>obtain⟨fr,h1,h2,h3⟩:=h2;exact fin fr h1 h2 h3
 | ret=>obtain⟨fr,h1,h2,h3⟩:=h2;exact fin fr h1 h2 h3
 | exit id=>obtain⟨fr,h1,h2,h3⟩:=h2;exact h3.elim
 | goto l=>obtain⟨fr,h1,h2,h3⟩:=h2;exact h3.elim
 | panic c=>exact h2.elim
 | outgrown=>exact h2.elim
structure SlT(P:Program)(t e:TypeId)(sz by_:Nat)(z:Value):Prop where
 under:P.underlying t=some (.slice e)
 info:∃i,P.info? e=some i∧i.size=sz∧i.bytes=by_∧i.zero=some z
 zsz:z.cells.size=sz
structure Cb(P:Program)(t:TypeId):Prop where
 under:∃d,P.underlying t=some d∧d.isRow=false
 size:(P.info? t).map (·.size)=some 1
structure GX(P:Program)(t:TypeId)(n:Nat):Prop where
 under:∃d,P.underlying t=some d∧d.isRow=true
 size:(P.info? t).map (·.size)=some n
structure AB(P:Program)(s f off ft n:Nat):Prop where
 under:∃fs fd,P.underlying s=some (.struct fs)∧fs[f]? =some fd∧fd.offset=off∧fd.type=ft
 size:(P.info? ft).map (·.size)=some n
 pos:n≠0
structure Nu(P:Program)(t len e sz:Nat):Prop where
 under:P.underlying t=some (.array len e)
 size:(P.info? e).map (·.size)=some sz
def cell(H:Aa)(b o:Nat):Option Value:=match H[b]? with
 | some (.cells c _ _)=>c[o]?
 | _=>none
def AX(H:Aa)(b o:Nat)(cs:List Value):Prop:=∀j v,cs[j]? =some v→cell H b (o+j)=some v
def Blk(H:Aa)(b:Nat)(e:TypeId)(l:List Value):Prop:=H[b]? =some (.cells l.toArray e (0,0))
theorem FK(w:World)(b o:Nat):w.cell? ⟨b,o,none⟩=cell w.heap b o:=by
 unfold World.cell? cell;cases h:w.heap[b]? with
 | none=>rfl
 | some x=>cases x<;>rfl
theorem L5{H H':Aa}{b o:Nat}(h:H'[b]? =H[b]?):cell H' b o=cell H b o:=by unfold cell;rw [h]
theorem AX.eq{H H':Aa}{b o:Nat}{cs:List Value}(hc:AX H b o cs)(h:H'[b]? =H[b]?):AX H' b o cs:=
 fun j v hv=>by rw [L5 h];exact hc j v hv
theorem Blk.cell{H:Aa}{b:Nat}{e:TypeId}{l:List Value}(h:Blk H b e l)(o:Nat):VC.cell H b o=l[o]? :=by
 unfold VC.cell;rw [h];simp
theorem Blk.cells{H:Aa}{b:Nat}{e:TypeId}{l cs:List Value}(h:Blk H b e l){o:Nat}(hc:∀j v,cs[j]? =some v→l[o+j]? =some v):AX H b o cs:=
 fun j v hv=>by rw [h.cell];exact hc j v hv
theorem Blk.lt{H:Aa}{b:Nat}{e:TypeId}{l:List Value}(h:Blk H b e l):b<H.size:=(AcN.1 h).1
theorem Blk.eq{H H':Aa}{b:Nat}{e:TypeId}{l:List Value}(h:Blk H b e l)(k:H'[b]? =H[b]?):Blk H' b e l:=k.trans h
theorem Blk.agr{S:Nat→Prop}{H H':Aa}{b:Nat}{e:TypeId}{l:List Value}(h:Blk H b e l)(k:Agr S H H')(hb:S b):Blk H' b e l:=(k b hb).trans h
theorem Vm{n:Nat}{H H':Aa}(h:Agr (fun k=>k<n) H H')(hn:n≤H.size):n≤H'.size:=by
 rcases Nat.eq_zero_or_pos n with h0 | h0
 ·omega
 ·have:=h (n - 1) (by omega);rw [AdB (show n - 1<H.size by omega)]at this;have:=(AcN.1 this).1;omega
theorem P7{w:World}{H:Aa}{b o:Nat}{cs:List Value}(hc:AX H b o cs)(h:w.heap[b]? =H[b]?):w.rangeAt b o cs:=fun j v hv=>by
 rw [FK,L5 h];exact hc j v hv
theorem ld1{P:Program}{t:TypeId}{b o:Nat}{S:Nat→Prop}{H:Aa}{K:Value→Prop}{v:Value}(ht:Cb P t)(hc:cell H b o=some v)(hS:S b)(k:K v):
  AJ P (Instr.loadAt t (.pointer (some ⟨b,o,none⟩))) S H K:=by
 refine AJ.mk v (fun w hw=>?_) k;obtain⟨d,hu,hd⟩:=ht.under;have h1:w.cell? ⟨b,o,none⟩=some v:=by rw [FK,L5 (hw b hS)];exact hc
 have hagg:(isAgg t).run P w= .ok false w:=by
  unfold isAgg;rw [Sem.run_bind,run_underlying hu w];cases d<;>simp_all
 simp [Instr.loadAt,Instr.sureAddr,loadVar,hagg,load,Sem.run,h1]
theorem ldN{P:Program}{t:TypeId}{b o:Nat}{S:Nat→Prop}{H:Aa}{K:Value→Prop}{cs:List Value}(ht:GX P t cs.length)(hc:AX H b o cs)(hS:S b)(k:K (.agg cs.toArray)):
  AJ P (Instr.loadAt t (.pointer (some ⟨b,o,none⟩))) S H K:=by
 refine AJ.mk _ (fun w hw=>?_) k;obtain⟨d,hu,hd⟩:=ht.under;exact run_loadAt_mid w b o t cs d (P7 hc (hw b hS)) hu hd ht.size
theorem ix{P:Program}{t e:TypeId}{sz by_:Nat}{z:Value}{b o n cap:Nat}{k:IntKind}{i:Int}{S:Nat→Prop}{H:Aa}{K:Value→Prop}(ht:SlT P t e sz by_ z)(h0:0≤i)(h1:i<n)
  (hk:K (.pointer (some ⟨b,o+i.toNat*sz,none⟩))):AJ P (Instr.indexAt t (.slice (some ⟨b,o,none⟩) n cap) (.int k i)) S H K:=by
 obtain⟨inf,hi,hs,_,_⟩:=ht.info;refine AJ.mk _ (fun w _=>?_) hk;have ha:(⟨b,o,none⟩:Addr).add (i.toNat*sz)=⟨b,o+i.toNat*sz,none⟩:=Addr.add_mid _ _ _;simp [Instr.indexAt,asIntOf,run_underlying ht.under,h0,h1,sizeOf,typeInfo,hi,hs,ha]
theorem DS(H:Aa)(o:Obj):Agr (fun k=>k<H.size) H (H.push o):=fun k hk=>by
 rw [Array.getElem?_push,if_neg (by omega)]
theorem FJ(w:World)(o:Obj):(w.alloc o).heap=w.heap.push o:=rfl
def New(H:Aa)(K:Nat→Aa→Prop)(e:TypeId)(l:List Value):Prop:=
 ∀b H',b=H.size→H'.size=b+1→Blk H' b e l→Agr (fun k=>k<b) H H'→K b H'
theorem New.go{H:Aa}{K:Nat→Aa→Prop}{e:TypeId}{l:List Value}(h:New H K e l):K H.size (H.push (.cells l.toArray e)):=
 h H.size _ rfl (by simp) (by unfold Blk;simp) (DS H _)
theorem Cq{P:Program}{t:TypeId}{v:Value}{H:Aa}{K:Value→Aa→Prop}(l:List Value)(hv:v.cells=l.toArray)
  (h:New H (fun b H'=>K (.pointer (some ⟨b,0,none⟩)) H') t l):BN P (Instr.box t v) H K:=by
 refine BN.mk fun w hw=>?_;subst hw;exact⟨_,w.alloc (.cells l.toArray t),by simp [Instr.box,newVar,hv,newRow],⟨rfl,rfl,rfl⟩,h.go⟩
theorem An{P:Program}{t:TypeId}{H:Aa}{K:Value→Aa→Prop}(z:Value)(l:List Value)(hz:(P.info? t).bind (·.zero)=some z)(hv:z.cells=l.toArray)
  (h:New H (fun b H'=>K (.pointer (some ⟨b,0,none⟩)) H') t l):BN P (Instr.alloc t true (.tuple #[])) H K:=by
 refine BN.mk fun w hw=>?_;subst hw;refine⟨_,w.alloc (.cells l.toArray t),?_,⟨rfl,rfl,rfl⟩,h.go⟩;cases hi:P.info? t with
 | none=>rw [hi]at hz;cases hz
 | some i=>
   have hz':i.zero=some z:=by simpa [hi]using hz
   simp [Instr.alloc,zeroValue,typeInfo,hi,hz',newVar,hv,newRow]
theorem AaJ{P:Program}{t e:TypeId}{sz by_:Nat}{z:Value}{n:Nat}{vs:Array (Nat×Value)}{H:Aa}{K:Value→Aa→Prop}(ht:SlT P t e sz by_ z)(l:List Value)(hn:n*sz≤16777216)(h0:0<n*sz)
  (hf:Instr.fill (fun i=>some (i*sz,sz)) ((Array.range (n*sz)).map (z.cells[· % z.cells.size]!)) vs.toList=some l.toArray)
  (h:New H (fun b H'=>K (.slice (some ⟨b,0,none⟩) n n) H') e l):BN P (Instr.buildSlice t n vs) H K:=by
 refine BN.mk fun w hw=>?_;subst hw;refine⟨_,w.alloc (.cells l.toArray e),?_,⟨rfl,rfl,rfl⟩,h.go⟩;obtain⟨inf,hi,hs,_,hz⟩:=ht.info;have h1:¬(16777216<n*sz):=by omega
 have h2:¬(n*sz=0):=by omega
 simp only [Instr.buildSlice,Sem.run_bind,run_underlying ht.under,Result.andThen_ok,sizeOf,typeInfo,zeroValue];simp [hi,hs,hz,h1,h2,hf,newRow]
theorem Xd{P:Program}{t e:TypeId}{sz by_:Nat}{z:Value}{kl kc:IntKind}{l c:Int}{H:Aa}{K:Value→Aa→Prop}(ht:SlT P t e sz by_ z)(h0:0≤l)(hlc:l≤c)(hb:(by_:Int)*c≤281474976710656)
  (h63:c≤9223372036854775807)
  (h:New H (fun b H'=>K (.slice (some ⟨b,0,none⟩) l.toNat c.toNat) H') e ((AdO (c.toNat*sz)).map (z.cells[· % z.cells.size]!))):BN P (Instr.makeSlice t (.int kl l) (.int kc c)) H K:=by
 refine BN.mk fun w hw=>?_;subst hw;obtain⟨inf,hi,hs,hby,hz⟩:=ht.info;have hr:=run_make (P:=P) w t e inf z ht.under hi hz kl kc l c h0 hlc (by rw [hby];exact hb) h63;have e1:madeCells z.cells (c.toNat*inf.size)=((AdO (c.toNat*sz)).map (z.cells[· % z.cells.size]!)).toArray:=by
  rw [hs];unfold madeCells;apply Ad1;simp
 rw [e1]at hr;exact⟨_,_,hr,⟨rfl,rfl,rfl⟩,h.go⟩
theorem PD(w:World)(b o:Nat)(v:Value):(w.setCell ⟨b,o,none⟩ v).heap=w.heap.modify b fun
   | .cells c elem frozen=>.cells (c.setIfInBounds o v) elem frozen
   | x=>x:=by
 unfold World.setCell;simp only [Option.isSome_none,AbX,if_false]
 congr 1
theorem Lk{w:World}{b o:Nat}{e:TypeId}{l:List Value}(hb:Blk w.heap b e l)(v:Value):
  Blk (w.setCell ⟨b,o,none⟩ v).heap b e (l.set o v)∧Agr (fun k=>k≠b) w.heap (w.setCell ⟨b,o,none⟩ v).heap∧(w.setCell ⟨b,o,none⟩ v).heap.size=w.heap.size:=by
 rw [PD];refine⟨?_,fun k hk=>?_,by simp⟩
 ·unfold Blk at hb ⊢;rw [AdN,if_pos rfl,hb];simp
 ·rw [AdN,if_neg (fun h=>hk h.symm)]
theorem Hf{w:World}{b o:Nat}{e:TypeId}{l:List Value}(hb:Blk w.heap b e l):w.frozen? ⟨b,o,none⟩=false:=by
 unfold World.frozen?;simp only;rw [hb];simp
def Turn(H:Aa)(K:Aa→Prop)(b:Nat)(e:TypeId)(l:List Value):Prop:=
 ∀H',Blk H' b e l→Agr (fun k=>k≠b) H H'→H'.size=H.size→K H'
theorem st1{P:Program}{t e:TypeId}{b o:Nat}{l:List Value}{v:Value}{H:Aa}{K:Aa→Prop}(ht:Cb P t)(hb:Blk H b e l)(ho:o<l.length)(hv:v.oneCell'=true)
  (h:Turn H K b e (l.set o v)):CY P (Instr.storeAt t (.pointer (some ⟨b,o,none⟩)) v) H K:=by
 refine CY.mk fun w hw=>?_;subst hw;have hc:w.cell? ⟨b,o,none⟩=some l[o]:=by rw [FK,hb.cell];simp [ho]
 obtain⟨h1,h2,h3⟩:=Lk (o:=o) hb v;refine⟨_,?_,?_,h _ h1 h2 h3⟩
 ·have hcs:v.cells= #[v]:=by cases v<;>simp_all [Value.cells,Value.oneCell']
  have hst:=run_storeCells_cells (P:=P) b o [v] 0 w (by simp [hc]) (by simp [Hf hb]) (by simpa using hv);cases hq:P.info? t with
  | none=>have:=ht.size;simp [hq]at this
  | some i=>
    have hs:i.size=1:=by have:=ht.size;simpa [hq]using this
    simp only [Nat.add_zero]at hst;simp [Instr.storeAt,Instr.sureAddr,storeVar,sizeOf,typeInfo,hq,hcs,hs,hst,World.setCells]
 ·exact⟨rfl,rfl,rfl⟩
def Ai(l:List Value)(o:Nat)(cs:List Value):List Value:=l.take o++cs++l.drop (o+cs.length)
theorem DX{l:List Value}{o:Nat}{cs:List Value}(h:o+cs.length≤l.length):(Ai l o cs).length=l.length:=by
 unfold Ai;simp;omega
theorem Dh{l:List Value}{o:Nat}{cs:List Value}(h:o+cs.length≤l.length)(j:Nat):
  (Ai l o cs)[j]? =if o≤j∧j<o+cs.length then cs[j - o]? else l[j]? :=by
 unfold Ai;rw [AcU];by_cases h1:j<o
 ·rw [if_neg (by omega),AcX (by simp;omega),List.getElem?_take_of_lt h1]
 ·rw [AcW (by simp;omega)];simp only [AdD,AcR (show o≤l.length by omega)];by_cases h2:j<o+cs.length
  ·rw [if_pos (by omega),AcX (by omega)]
  ·rw [if_neg (by omega),AcW (by omega),List.getElem?_drop]
   congr 1;omega
theorem FB{b:Nat}{e:TypeId}:∀(cs:List Value) (o:Nat) (l:List Value) (w:World),Blk w.heap b e l→o+cs.length≤l.length→
  Blk (w.setCells b o cs).heap b e (Ai l o cs)∧Agr (fun k=>k≠b) w.heap (w.setCells b o cs).heap∧(w.setCells b o cs).heap.size=w.heap.size∧Env w (w.setCells b o cs)
 | [],o,l,w,hb,_=>⟨by simpa [Ai,World.setCells]using hb,Agr.refl _ _,rfl,Env.refl w⟩
 | v::cs,o,l,w,hb,hl=>by
   simp only [Ac8]at hl;obtain⟨h1,h2,h3⟩:=Lk (o:=o) hb v;obtain⟨k1,k2,k3,k4⟩:=FB cs (o+1) (l.set o v) (w.setCell ⟨b,o,none⟩ v) h1 (by simp;omega);refine⟨?_,h2.trans k2,k3.trans h3,⟨k4.os,k4.tape,k4.output⟩⟩;have e1:Ai (l.set o v) (o+1) cs=Ai l o (v::cs):=by
    apply Ac4;intro j;rw [Dh (by simp;omega),Dh (by simp;omega)];simp only [Ac8];by_cases h:j=o
    ·subst h;rw [if_neg (by omega),if_pos (by omega)];simp [show j<l.length by omega]
    ·by_cases h':o+1≤j∧j<o+1+cs.length
     ·rw [if_pos h',if_pos (by omega)];rw [show j - o=(j - (o+1))+1 by omega,AdF]
     ·rw [if_neg h',if_neg (by omega),Ad2,if_neg (fun h2=>h h2.symm)]
   rw [←e1];exact k1
theorem stN{P:Program}{t e:TypeId}{b o:Nat}{l cs:List Value}{H:Aa}{K:Aa→Prop}(ht:(P.info? t).map (·.size)=some cs.length)(hb:Blk H b e l)(ho:o+cs.length≤l.length)(hv:cs.all (·.oneCell')=true)
  (h:Turn H K b e (Ai l o cs)):CY P (Instr.storeAt t (.pointer (some ⟨b,o,none⟩)) (.agg cs.toArray)) H K:=by
 refine CY.mk fun w hw=>?_;subst hw;have hthere:w.there b o cs.toArray.size:=fun j hj=>by
  simp only [List.size_toArray]at hj;refine⟨?_,Hf hb⟩;rw [FK,hb.cell];simp;omega
 obtain⟨h1,h2,h3,h4⟩:=FB cs o l w hb ho;refine⟨_,run_storeAt_mid (P:=P) w b o t cs.toArray hthere (by simpa using ht) (by simpa using hv),by simpa using h4,?_⟩;simpa using h _ h1 h2 h3
def Sl(H:Aa)(lo:Nat)(e:TypeId)(sz:Nat)(v:Value)(n:Nat)(cs:List Value):Prop:=
 cs.length=n*sz∧((v= .slice none 0 0∧n=0)∨
  ∃b cap l,v= .slice (some ⟨b,0,none⟩) n cap∧lo≤b∧Blk H b e l∧n≤cap∧cap≤maxLen∧l.length=cap*sz∧l.take (n*sz)=cs)
def slB(v:Value)(k:Nat):Prop:=∃o n c,v= .slice (some ⟨k,o,none⟩) n c
theorem Sl.nil(H:Aa)(lo:Nat)(e:TypeId)(sz:Nat):Sl H lo e sz (.slice none 0 0) 0 []:=⟨by simp,.inl ⟨rfl,rfl⟩⟩
theorem Sl.made{H:Aa}{lo:Nat}{e:TypeId}{sz b n cap:Nat}{l:List Value}(hlo:lo≤b)(hb:Blk H b e l)(hn:n≤cap)(hc:cap≤maxLen)(hl:l.length=cap*sz):
  Sl H lo e sz (.slice (some ⟨b,0,none⟩) n cap) n (l.take (n*sz)):=
 ⟨by rw [AdD,hl,AcR (Ac3 _ hn)],.inr ⟨b,cap,l,rfl,hlo,hb,hn,hc,hl,rfl⟩⟩
theorem Sl.agr{S:Nat→Prop}{H H':Aa}{lo:Nat}{e:TypeId}{sz n:Nat}{v:Value}{cs:List Value}(h:Sl H lo e sz v n cs)(k:Agr S H H')(hS:∀b,slB v b→S b):Sl H' lo e sz v n cs:=by
 obtain⟨h1,h2⟩:=h;refine⟨h1,?_⟩;rcases h2 with h2 | ⟨b,cap,l,rfl,hlo,hb,r⟩
 ·exact .inl h2
 ·exact .inr ⟨b,cap,l,rfl,hlo,hb.agr k (hS b ⟨_,_,_,rfl⟩),r⟩
theorem Sl.lt{H:Aa}{lo:Nat}{e:TypeId}{sz n:Nat}{v:Value}{cs:List Value}(h:Sl H lo e sz v n cs){b:Nat}(hb:slB v b):lo≤b∧b<H.size:=by
 obtain⟨o,n',c,rfl⟩:=hb;rcases h.2 with⟨h2,_⟩ | ⟨b',cap,l,h2,hlo,hb,r⟩
 ·cases h2
 ·cases h2;exact⟨hlo,hb.lt⟩
theorem PH{P:Program}{t tx ty e:TypeId}{sz by_:Nat}{z:Value}{H:Aa}{K:Value→Aa→Prop}(ht:SlT P t e sz by_ z){lo n m:Nat}{v x:Value}{cs news:List Value}
  (hs:Sl H lo e sz v n cs) (hlo:lo≤H.size) (hx:∀w:World,w.heap=H→Src P sz tx x m news w) (h63:n+m≤maxLen) (hby:(n+m)*by_≤140737488355328)
  (h:∀v' H',Sl H' lo e sz v' (n+m) (cs++news)→Agr (fun k=>k<H.size∧¬slB v k) H H'→H.size≤H'.size→(∀k,slB v' k→slB v k∨H.size≤k)→K v' H'):
  BN P (Builtin.append_ #[t,tx] ty [v,x].toArray) H K:=by
 refine BN.mk fun w hw=>?_;subst hw;obtain⟨inf,hi,hsi,hbi,hz⟩:=ht.info;have hsrc:=hx w rfl;have hsrc':Src P inf.size tx x m news w:=by rw [hsi];exact hsrc
 have hnl:news.length=m*sz:=hsrc.newsLen;have h63':n+m≤9223372036854775807:=by simp only [maxLen]at h63;omega
 obtain⟨hcl,hs2⟩:=hs;have hlen:(cs++news).length=(n+m)*sz:=by rw [AbH,hcl,hnl,AdU]
 have grow:∀(base:Option Addr) (cap:Nat),v= .slice base n cap→cap<n+m→(Builtin.firstCells inf.size n (.slice base n cap)).run P w.drew= .ok cs.toArray w.drew→
   ∃v' w',(Builtin.append_ #[t,tx] ty [v,x].toArray).run P w= .ok v' w'∧Env w w'∧K v' w'.heap:=by
  intro base cap hv hcap hold;subst hv;have hr:=run_append_grow_src (P:=P) w t tx ty e inf z ht.under hi hz base n cap cs hold x m news hsrc' hcap (by omega) (growslice_fits (by omega) (by rw [hbi];exact hby));refine⟨_,_,hr,⟨rfl,rfl,rfl⟩,?_⟩;have hge:=grownCap_ge w (n+m) cap e;have hle:=grownCap_le_maxLen w (n+m) cap e h63;have hblk:Blk (w.drew.alloc (.cells ((cs++news).toArray++Builtin.zeroCells z.cells (grownCap w (n+m) cap e - (n+m))) e)).heap w.heap.size e
    ((cs++news)++(Builtin.zeroCells z.cells (grownCap w (n+m) cap e - (n+m))).toList):=by
   unfold Blk;have:(w.drew.alloc (.cells ((cs++news).toArray++Builtin.zeroCells z.cells (grownCap w (n+m) cap e - (n+m))) e)).heap=w.heap.push (.cells ((cs++news).toArray++Builtin.zeroCells z.cells (grownCap w (n+m) cap e - (n+m))) e):=rfl;rw [this];simp
  refine h _ _ ⟨hlen,.inr ⟨w.heap.size,_,_,rfl,hlo,hblk,hge,hle,?_,?_⟩⟩ ?_ ?_ ?_
  ·rw [AbH,hlen,Array.length_toList,size_zeroCells,ht.zsz,←AdU]
   congr 1;omega
  ·rw [←hlen,AdX];rfl
  ·intro k hk;exact DS w.heap _ k hk.1
  ·show w.heap.size≤(w.heap.push _).size;simp
  ·rintro k ⟨o,n',c,hk⟩;cases hk;exact .inr (AcT _)
 rcases hs2 with⟨rfl,rfl⟩ | ⟨b,cap,l,rfl,hlob,hb,hnc,hcm,hll,htake⟩
 ·have hcs:cs=[]:=Ac5 (by simpa using hcl);subst hcs;by_cases hm:m=0
  ·subst hm;have hn:news=[]:=Ac5 (by simpa using hnl);subst hn;refine⟨.slice none 0 0,w,?_,Env.refl w,h _ _ (Sl.nil _ _ _ _) (Agr.refl _ _) (AcT _) (fun k hk=>.inl hk)⟩;rcases hsrc'.kind with⟨e',hk⟩ | hk<;>simp [Builtin.append_,run_underlying ht.under,run_underlying hk,sizeOf,typeInfo,hi,hsrc'.len,hsrc'.cells]
  ·exact grow none 0 rfl (by omega) (by simp [Builtin.firstCells])
 ·by_cases hroom:n+m≤cap
  ·have hfit:n*sz+news.length≤l.length:=by rw [hnl,hll,←AdU];exact Ac3 _ hroom
   have hr:=run_append_room_src (P:=P) w t tx ty e inf ht.under hi b 0 n cap x m news hsrc' hroom
    (fun j hj=>by rw [FK,hb.cell];simp [hsi];omega) (fun j hj=>Hf hb)
   obtain⟨h1,h2,h3,h4⟩:=FB news (0+n*inf.size) l w hb (by rw [hsi];omega);refine⟨_,_,hr,h4,h _ _ ⟨hlen,.inr ⟨b,cap,_,rfl,hlob,h1,hroom,hcm,?_,?_⟩⟩ (h2.mono fun k hk=>?_) (by omega) ?_⟩
   ·rw [DX (by rw [hsi];omega)];exact hll
   ·rw [hsi,Nat.zero_add];unfold Ai;rw [htake,←hlen,AdX];rfl
   ·intro hkb;subst hkb;exact hk.2 ⟨0,n,cap,rfl⟩
   ·rintro k ⟨o,n',c,hk⟩;cases hk;exact .inl ⟨0,n,cap,rfl⟩
  ·refine grow (some ⟨b,0,none⟩) cap rfl (by omega) ?_;have hc:AX w.heap b 0 cs:=hb.cells fun j v hv=>by
    rw [←htake,AcS]at hv;split at hv
    ·simpa using hv
    ·cases hv
   have:=run_firstCells_some (P:=P) w.drew inf.size n ⟨b,0,none⟩ n cap cs (by rw [hsi];exact hcl) (fun j v hv=>by
    rw [Addr.add_mid];have:=P7 (w:=w.drew) (H:=w.heap) hc rfl j v hv;exact this)
   exact this
structure Ty(α:Type) where
 size:Nat
 rep:(Nat→Prop)→Aa→List Value→α→Prop
 len:∀{S H cs x},rep S H cs x→cs.length=size
 frame:∀{S H H' cs x},rep S H cs x→Agr S H H'→rep S H' cs x
 mono:∀{S S' H cs x},rep S H cs x→(∀k,S k→S' k)→rep S' H cs x
def Ty.reps{α:Type}(T:Ty α)(S:Nat→Prop)(H:Aa):List Value→List α→Prop
 | cs,[]=>cs=[]
 | cs,x::xs=>∃c r,cs=c++r∧T.rep S H c x∧T.reps S H r xs
section
variable{α β:Type}{T:Ty α}{S S':Nat→Prop}{H H':Aa}
theorem Ty.reps_len:∀{xs:List α} {cs:List Value},T.reps S H cs xs→cs.length=xs.length*T.size
 | [],_,h=>by cases h;simp
 | x::xs,_,⟨c,r,rfl,h1,h2⟩=>by
   rw [AbH,T.len h1,Ty.reps_len h2,Ac8,Ad0];omega
theorem Ty.reps_frame(k:Agr S H H'):∀{xs:List α} {cs:List Value},T.reps S H cs xs→T.reps S H' cs xs
 | [],_,h=>h
 | x::xs,_,⟨c,r,e,h1,h2⟩=>⟨c,r,e,T.frame h1 k,Ty.reps_frame k h2⟩
theorem Ty.reps_mono(k:∀i,S i→S' i):∀{xs:List α} {cs:List Value},T.reps S H cs xs→T.reps S' H cs xs
 | [],_,h=>h
 | x::xs,_,⟨c,r,e,h1,h2⟩=>⟨c,r,e,T.mono h1 k,Ty.reps_mono k h2⟩
theorem Ty.reps_append:∀{xs ys:List α} {cs ds:List Value},T.reps S H cs xs→T.reps S H ds ys→T.reps S H (cs++ds) (xs++ys)
 | [],_,_,_,h,h'=>by cases h;simpa using h'
 | x::xs,_,_,_,⟨c,r,e,h1,h2⟩,h'=>⟨c,r++_,by rw [e,AcU],h1,Ty.reps_append h2 h'⟩
theorem Ty.reps_one{c:List Value}{x:α}(h:T.rep S H c x):T.reps S H c [x]:=⟨c,[],by simp,h,rfl⟩
theorem Ty.reps_get:∀{xs:List α} {cs:List Value} {i:Nat} {x:α},T.reps S H cs xs→xs[i]? =some x→∃l c r,cs=l++c++r∧l.length=i*T.size∧T.rep S H c x
 | x::xs,_,0,y,⟨c,r,e,h1,h2⟩,hx=>by
   simp at hx;subst hx;exact⟨[],c,r,by simp [e],by simp,h1⟩
 | x::xs,_,i+1,y,⟨c,r,e,h1,h2⟩,hx=>by
   simp at hx;obtain⟨l,c',r',e',hl,hc⟩:=Ty.reps_get h2 hx;exact⟨c++l,c',r',by simp [e,e',AcU],by rw [AbH,T.len h1,hl,Ad0];omega,hc⟩
theorem AX.mid{b o:Nat}{l c r:List Value}(h:AX H b o (l++c++r)):AX H b (o+l.length) c:=fun j v hv=>by
 have:=h (l.length+j) v (by
  rw [AcU,AcW (by omega),AcX (by
   have:=(AaS.1 hv).1;omega)]
  rw [show l.length+j - l.length=j by omega];exact hv)
 rw [←Nat.add_assoc]at this;exact this
theorem AX.one{b o:Nat}{v:Value}(h:AX H b o [v]):cell H b o=some v:=by have:=h 0 v rfl;simpa using this
end
def inK(k:IntKind)(x:Int):Prop:=k.min≤x∧x≤k.max
def Gb(k:IntKind):Ty Int where
 size:=1
 rep _ _ cs x:=cs=[.int k x]∧inK k x
 len h:=by rw [h.1];rfl
 frame h _:=h
 mono h _:=h
def Cn:Ty Bool where
 size:=1
 rep _ _ cs x:=cs=[.bool x]
 len h:=by rw [h];rfl
 frame h _:=h
 mono h _:=h
def AaC:Ty ByteArray where
 size:=1
 rep _ _ cs x:=cs=[.string x]∧x.size≤maxLen
 len h:=by rw [h.1];rfl
 frame h _:=h
 mono h _:=h
def SlD{α:Type}(T:Ty α)(S:Nat→Prop)(H:Aa)(a:Option Addr)(cap:Nat)(xs:List α):Prop:=
 match a with
 | none=>xs=[]∧cap=0
 | some ad=>xs.length≤cap∧cap≤maxLen∧(cap=0∨ad.spot=none∧S ad.block∧∃ec,AX H ad.block ad.off ec∧T.reps S H ec xs)
theorem SlD.intro{α:Type}{T:Ty α}{S:Nat→Prop}{H:Aa}{b o cap:Nat}{xs:List α}{ec:List Value}(h2:S b)(h3:xs.length≤cap)(h4:cap≤maxLen)(h5:AX H b o ec)(h6:T.reps S H ec xs):SlD T S H (some ⟨b,o,none⟩) cap xs:=
 ⟨h3,h4,.inr ⟨rfl,h2,ec,h5,h6⟩⟩
theorem SlD.frame{α:Type}{T:Ty α}{S:Nat→Prop}{H H':Aa}{a:Option Addr}{cap:Nat}{xs:List α}(h:SlD T S H a cap xs)(k:Agr S H H'):SlD T S H' a cap xs:=by
 cases a with
 | none=>exact h
 | some ad=>
   obtain⟨h3,h4,h0 | ⟨h1,h2,ec,h5,h6⟩⟩:=h
   ·exact⟨h3,h4,.inl h0⟩
   ·exact⟨h3,h4,.inr ⟨h1,h2,ec,h5.eq (k _ h2),Ty.reps_frame k h6⟩⟩
theorem SlD.mono{α:Type}{T:Ty α}{S S':Nat→Prop}{H:Aa}{a:Option Addr}{cap:Nat}{xs:List α}(h:SlD T S H a cap xs)(k:∀i,S i→S' i):SlD T S' H a cap xs:=by
 cases a with
 | none=>exact h
 | some ad=>
   obtain⟨h3,h4,h0 | ⟨h1,h2,ec,h5,h6⟩⟩:=h
   ·exact⟨h3,h4,.inl h0⟩
   ·exact⟨h3,h4,.inr ⟨h1,k _ h2,ec,h5,Ty.reps_mono k h6⟩⟩
theorem SlD.le{α:Type}{T:Ty α}{S:Nat→Prop}{H:Aa}{a:Option Addr}{cap:Nat}{xs:List α}(h:SlD T S H a cap xs):xs.length≤cap∧cap≤maxLen:=by
 cases a with
 | none=>obtain⟨rfl,rfl⟩:=h;simp
 | some ad=>exact⟨h.1,h.2.1⟩
def tSl{α:Type}(T:Ty α):Ty (List α) where
 size:=1
 rep S H cs xs:=∃a cap,cs=[.slice a xs.length cap]∧SlD T S H a cap xs
 len:=by rintro S H cs x ⟨a,cap,rfl,_⟩;rfl
 frame:=by rintro S H H' cs x ⟨a,cap,e,h⟩ k;exact⟨a,cap,e,h.frame k⟩
 mono:=by rintro S S' H cs x ⟨a,cap,e,h⟩ k;exact⟨a,cap,e,h.mono k⟩
theorem SlD.get{α:Type}{T:Ty α}{S:Nat→Prop}{H:Aa}{a:Option Addr}{cap i:Nat}{xs:List α}{x:α}(h:SlD T S H a cap xs)(hx:xs[i]? =some x):
  ∃b o c,a=some ⟨b,o,none⟩∧S b∧AX H b (o+i*T.size) c∧T.rep S H c x:=by
 cases a with
 | none=>obtain⟨rfl,_⟩:=h;simp at hx
 | some ad=>
   obtain⟨b,o,sp⟩:=ad;obtain⟨h3,h4,h0 | ⟨rfl,h2,ec,h5,h6⟩⟩:=h
   ·have:=(AaS.1 hx).1;omega
   obtain⟨l,c,r,rfl,hl,hc⟩:=Ty.reps_get h6 hx;exact⟨b,o,c,rfl,h2,by rw [←hl];exact h5.mid,hc⟩
theorem ixr{α:Type}{T:Ty α}{P:Program}{t e by_:Nat}{z:Value}{cap i:Nat}{k:IntKind}{j:Int}{S S0:Nat→Prop}{H:Aa}{K:Value→Prop}{a:Option Addr}{xs:List α}{x:α}
  (ht:SlT P t e T.size by_ z) (h:SlD T S H a cap xs) (hx:xs[i]? =some x) (hj:j=(i:Int))
  (hk:∀b o c,S b→AX H b o c→T.rep S H c x→K (.pointer (some ⟨b,o,none⟩))):AJ P (Instr.indexAt t (.slice a xs.length cap) (.int k j)) S0 H K:=by
 obtain⟨b,o,c,rfl,h1,h2,h3⟩:=h.get hx;subst hj;have hi:=(AaS.1 hx).1;exact ix ht (by omega) (by omega) (by simpa using hk b _ c h1 h2 h3)
theorem fa{P:Program}{s f off ft n b o:Nat}{S:Nat→Prop}{H:Aa}{K:Value→Prop}(ht:AB P s f off ft n)(k:K (.pointer (some ⟨b,o+off,none⟩))):
  AJ P (Instr.fieldAt s (.pointer (some ⟨b,o,none⟩)) f) S H K:=by
 obtain⟨fs,fd,h1,h2,rfl,rfl⟩:=ht.under;refine AJ.mk _ (fun w _=>?_) k;cases hi:P.info? fd.type with
 | none=>have:=ht.size;simp [hi]at this
 | some i=>
   have hs:i.size=n:=by have:=ht.size;simpa [hi]using this
   have hp:=ht.pos;have ha:(⟨b,o,none⟩:Addr).add fd.offset=⟨b,o+fd.offset,none⟩:=Addr.add_mid _ _ _;simp [Instr.fieldAt,run_underlying h1,h2,Instr.sureAddr,fieldPlace,sizeOf,typeInfo,hi,hs,hp,ha]
theorem ixa{P:Program}{t len e sz b o:Nat}{k:IntKind}{i:Int}{S:Nat→Prop}{H:Aa}{K:Value→Prop}(ht:Nu P t len e sz)(h0:0≤i)(h1:i<len)
  (hk:K (.pointer (some ⟨b,o+i.toNat*sz,none⟩))):AJ P (Instr.indexAt t (.pointer (some ⟨b,o,none⟩)) (.int k i)) S H K:=by
 refine AJ.mk _ (fun w _=>?_) hk;cases hi:P.info? e with
 | none=>have:=ht.size;simp [hi]at this
 | some inf=>
   have hs:inf.size=sz:=by have:=ht.size;simpa [hi]using this
   have ha:(⟨b,o,none⟩:Addr).add (i.toNat*sz)=⟨b,o+i.toNat*sz,none⟩:=Addr.add_mid _ _ _;simp [Instr.indexAt,asIntOf,run_underlying ht.under,Instr.sureAddr,h0,h1,sizeOf,typeInfo,hi,hs,ha]
theorem UF{P:Program}{t off:Nat}{cs:Array Value}{v:Value}(ht:Cb P t)(hv:cs[off]? =some v)(w:World):(part t cs off).run P w= .ok v w:=by
 obtain⟨d,hu,hd⟩:=ht.under;have hagg:(isAgg t).run P w= .ok false w:=by
  unfold isAgg;rw [Sem.run_bind,run_underlying hu w];cases d<;>simp_all
 simp [part,hagg,hv]
theorem UG{P:Program}{t off n:Nat}{cs:Array Value}(ht:GX P t n)(w:World):(part t cs off).run P w= .ok (.agg (cs.extract off (off+n))) w:=by
 obtain⟨d,hu,hd⟩:=ht.under;have hagg:(isAgg t).run P w= .ok true w:=by
  unfold isAgg;rw [Sem.run_bind,run_underlying hu w];cases d<;>simp_all
 cases hi:P.info? t with
 | none=>have:=ht.size;simp [hi]at this
 | some i=>
   have hs:i.size=n:=by have:=ht.size;simpa [hi]using this
   simp [part,hagg,sizeOf,typeInfo,hi,hs]
theorem ixv1{P:Program}{t len e sz:Nat}{k:IntKind}{i:Int}{cs:Array Value}{v:Value}{S:Nat→Prop}{H:Aa}{K:Value→Prop}(ht:Nu P t len e sz)(hc:Cb P e)(h0:0≤i)(h1:i<len)
  (hv:cs[i.toNat*sz]? =some v) (hk:K v):AJ P (Instr.index t (.agg cs) (.int k i)) S H K:=by
 refine AJ.mk _ (fun w _=>?_) hk;cases hi:P.info? e with
 | none=>have:=ht.size;simp [hi]at this
 | some inf=>
   have hs:inf.size=sz:=by have:=ht.size;simpa [hi]using this
   simp [Instr.index,asIntOf,run_underlying ht.under,h0,h1,sizeOf,typeInfo,hi,hs,UF hc hv]
theorem Ct{P:Program}{t len e sz:Nat}{vs:Array (Nat×Value)}{S:Nat→Prop}{H:Aa}{K:Value→Prop}(ht:Nu P t len e sz)(z:Value)(hz:(P.info? t).bind (·.zero)=some z)(l:List Value)
  (hf:Instr.fill (fun i=>some (i*sz,sz)) z.cells vs.toList=some l.toArray) (k:K (.agg l.toArray)):AJ P (Instr.build t vs) S H K:=by
 refine AJ.mk _ (fun w _=>?_) k;cases hi:P.info? e with
 | none=>have:=ht.size;simp [hi]at this
 | some inf=>
   have hs:inf.size=sz:=by have:=ht.size;simpa [hi]using this
   cases ht':P.info? t with
   | none=>rw [ht']at hz;cases hz
   | some it=>
     have hz':it.zero=some z:=by simpa [ht']using hz
     simp [Instr.build,zeroValue,typeInfo,ht',hz',run_underlying ht.under,sizeOf,hi,hs,hf]
theorem Aw{P:Program}{t:Nat}{fs:Array Field}{vs:Array (Nat×Value)}{S:Nat→Prop}{H:Aa}{K:Value→Prop}(ht:P.underlying t=some (.struct fs))(hfs:fs.toList.all (fun f=>(P.info? f.type).isSome)=true)
  (z:Value) (hz:(P.info? t).bind (·.zero)=some z) (l:List Value)
  (hf:Instr.fill (fun i=>(fs.toList.map fun f=>(f.offset,P.cellsOf f.type))[i]?) z.cells vs.toList=some l.toArray) (k:K (.agg l.toArray)):AJ P (Instr.build t vs) S H K:=by
 refine AJ.mk _ (fun w _=>?_) k;cases ht':P.info? t with
 | none=>rw [ht']at hz;cases hz
 | some it=>
   have hz':it.zero=some z:=by simpa [ht']using hz
   have hm:∀(l:List Field),l.all (fun f=>(P.info? f.type).isSome)=true→(l.mapM fun f=>(do pure (f.offset,←sizeOf f.type):Sem (Nat×Nat))).run P w= .ok (l.map fun f=>(f.offset,P.cellsOf f.type)) w:=by
    intro l
    induction l with
    | nil=>intro _;simp
    | cons f l ih=>
      intro h;simp only [List.all_cons,AcP]at h;obtain⟨inf,hi⟩:=Option.isSome_iff_exists.1 h.1;have hsz:(sizeOf f.type).run P w= .ok (P.cellsOf f.type) w:=by simp [sizeOf,typeInfo,hi,Program.cellsOf]
      simp only [List.mapM_cons,Sem.run_bind,hsz,Result.andThen_ok,Sem.run_pure,ih h.2,Ad3]
   have hm':(fs.mapM fun f=>(do pure (f.offset,←sizeOf f.type):Sem (Nat×Nat))).run P w= .ok (fs.toList.map fun f=>(f.offset,P.cellsOf f.type)).toArray w:=by
    rw [Array.mapM_eq_mapM_toList];rw [show(List.toArray <$> fs.toList.mapM fun f=>(do pure (f.offset,←sizeOf f.type):Sem (Nat×Nat)))=(do let l ←fs.toList.mapM fun f=>(do pure (f.offset,←sizeOf f.type):Sem (Nat×Nat));pure l.toArray)from rfl];rw [Sem.run_bind,hm _ hfs];simp
   have hzv:(zeroValue t).run P w= .ok z w:=by simp [zeroValue,typeInfo,ht',hz']
   simp only [Instr.build,Sem.run_bind,hzv,Result.andThen_ok,run_underlying ht];rw [hm'];simp only [Result.andThen_ok,List.getElem?_toArray,hf,Sem.run_pure]
theorem FY{P:Program}{t e:TypeId}{by_:Nat}{z:Value}{kl kc:IntKind}{l c:Int}{H:Aa}{K:Value→Aa→Prop}(ht:SlT P t e 1 by_ z)(hz:z.oneCell'=true)(h0:0≤l)(hlc:l≤c)(hb:(by_:Int)*c≤281474976710656)
  (h63:c≤9223372036854775807)
  (h:New H (fun b H'=>K (.slice (some ⟨b,0,none⟩) l.toNat c.toNat) H') e (Ab8 c.toNat z)):BN P (Instr.makeSlice t (.int kl l) (.int kc c)) H K:=by
 refine Xd ht h0 hlc hb h63 ?_;have hcs:z.cells= #[z]:=by cases z<;>simp_all [Value.cells,Value.oneCell']
 have e1:((AdO (c.toNat*1)).map (z.cells[· % z.cells.size]!))=Ab8 c.toNat z:=by
  rw [hcs,Nat.mul_one];apply Ac4;intro i;simp only [AdT,AcQ];by_cases hi:i<c.toNat
  ·rw [AdQ hi,if_pos hi];simp [Nat.mod_one]
  ·rw [AcK (by simpa using hi),if_neg hi];rfl
 rw [e1];exact h
theorem II{k:IntKind}{x:Int}(h:inK k x):k.wrap x=x:=by
 obtain⟨h1,h2⟩:=h;unfold IntKind.wrap;cases k<;>simp only [IntKind.min,IntKind.max,IntKind.signed,IntKind.bits,if_true,AbX,if_false,Ad4,Ae0,Ad5]at h1 h2 ⊢ <;>simp only [Bool.true_and,Bool.false_and,decide_eq_true_eq,AbX,if_false,ge_iff_le]<;>(try split)<;>omega
theorem w64{x:Int}(h0: -9223372036854775808≤x)(h1:x≤9223372036854775807):IntKind.wrap .i64 x=x:=II ⟨h0,h1⟩
theorem w8{x:Int}(h0:0≤x)(h1:x≤255):IntKind.wrap .u8 x=x:=II ⟨h0,h1⟩
theorem Fh{k:IntKind}{x:Nat}(h:inK k (x:Int)):x<2 ^ k.bits:=by
 obtain⟨_,h2⟩:=h;cases k<;>simp only [IntKind.max,IntKind.signed,IntKind.bits,if_true,AbX,if_false,Ad4,Ae0,Ad5]at h2 ⊢ <;>omega
theorem VW{k:IntKind}{x y:Nat}(h:inK k (x:Int))(hy:y≤x):inK k (y:Int):=by
 obtain⟨_,h2⟩:=h;refine⟨?_,by omega⟩;cases k<;>simp only [IntKind.min,IntKind.signed,IntKind.bits,if_true,AbX,if_false,Ad4,Ad5]<;>omega
theorem IS{x:Nat}(h:x<18446744073709551616):inK .u64 (x:Int):=⟨by simp [IntKind.min,IntKind.signed],by simp [IntKind.max,IntKind.signed,IntKind.bits];omega⟩
theorem BH{x:Nat}(h:x<9223372036854775808):inK .i64 (x:Int):=by
 refine⟨?_,by simp [IntKind.max,IntKind.signed,IntKind.bits];omega⟩;have:IntKind.i64.min= -9223372036854775808:=by decide
 omega
theorem RS{x:Nat}(h:x<256):inK .u8 (x:Int):=⟨by simp [IntKind.min,IntKind.signed],by simp [IntKind.max,IntKind.signed,IntKind.bits];omega⟩
theorem Kr{P:Program}{t:TypeId}{x y:Operand}{k:IntKind}{a b:Nat}{S:Nat→Prop}{H:Aa}{K:Value→Prop}(ha:inK k (a:Int))(hb:inK k (b:Int))(hk:K (.int k ((a &&& b:Nat):Int))):
  AJ P (do eqGuard .and t x y (.int k a) (.int k b);binOp .and t (.int k a) (.int k b)) S H K:=by
 refine AJ.mk _ (fun w _=>?_) hk;have e1:(AdE k.bits (a:Int) &&& AdE k.bits (b:Int)).toNat=a &&& b:=by
  simp only [AdP,BitVec.toNat_and,AdS,AbK (Fh ha),AbK (Fh hb)]
 simp [Dk,binOp,Op.intBits,AbK (Fh ha),AbK (Fh hb),II (VW ha (Nat.and_le_left))]
theorem ZW{k:IntKind}{a b:Nat}(ha:inK k (a:Int))(hb:inK k (b:Int)):inK k ((a ||| b:Nat):Int):=by
 obtain⟨h1,h2⟩:=ha;obtain⟨h3,h4⟩:=hb;refine⟨?_,?_⟩
 ·cases k<;>simp only [IntKind.min,IntKind.signed,IntKind.bits,if_true,AbX,if_false,Ad4,Ad5]<;>omega
 ·cases k<;>simp only [IntKind.max,IntKind.signed,IntKind.bits,if_true,AbX,if_false,Ad4,Ad5]at h2 h4 ⊢
  ·have:=AbV (n:=7) (x:=a) (y:=b) (by omega) (by omega);omega
  ·have:=AbV (n:=15) (x:=a) (y:=b) (by omega) (by omega);omega
  ·have:=AbV (n:=31) (x:=a) (y:=b) (by omega) (by omega);omega
  ·have:=AbV (n:=63) (x:=a) (y:=b) (by omega) (by omega);omega
  ·have:=AbV (n:=8) (x:=a) (y:=b) (by omega) (by omega);omega
  ·have:=AbV (n:=16) (x:=a) (y:=b) (by omega) (by omega);omega
  ·have:=AbV (n:=32) (x:=a) (y:=b) (by omega) (by omega);omega
  ·have:=AbV (n:=64) (x:=a) (y:=b) (by omega) (by omega);omega
theorem vor{P:Program}{t:TypeId}{x y:Operand}{k:IntKind}{a b:Nat}{S:Nat→Prop}{H:Aa}{K:Value→Prop}(ha:inK k (a:Int))(hb:inK k (b:Int))(hk:K (.int k ((a ||| b:Nat):Int))):
  AJ P (do eqGuard .or t x y (.int k a) (.int k b);binOp .or t (.int k a) (.int k b)) S H K:=by
 refine AJ.mk _ (fun w _=>?_) hk;have e1:(AdE k.bits (a:Int) ||| AdE k.bits (b:Int)).toNat=a ||| b:=by
  simp only [AdP,BitVec.toNat_or,AdS,AbK (Fh ha),AbK (Fh hb)]
 simp [Dk,binOp,Op.intBits,AbK (Fh ha),AbK (Fh hb),II (ZW ha hb)]
theorem N3{P:Program}{t:TypeId}{x y:Operand}{k k':IntKind}{a b:Nat}{S:Nat→Prop}{H:Aa}{K:Value→Prop}(hb:b≤k.bits)(hk:K (.int k ((a / 2 ^ b:Nat):Int))):
  AJ P (do eqGuard .shr t x y (.int k a) (.int k' b);binOp .shr t (.int k a) (.int k' b)) S H K:=by
 refine AJ.mk _ (fun w _=>?_) hk;have e1:((a:Int).fdiv (2 ^ b))=((a / 2 ^ b:Nat):Int):=by
  rw [Int.fdiv_eq_ediv_of_nonneg _ (by exact_mod_cast AdK _)]
  push_cast;rfl
 have e2:min b k.bits=b:=AcR hb;have e3:¬((b:Int)<0):=by omega
 simp [Dk,binOp,Op.shift,e2,e3,e1]
theorem AaL{P:Program}{t:TypeId}{x y:Operand}{k k':IntKind}{a b:Nat}{S:Nat→Prop}{H:Aa}{K:Value→Prop}(hb:b≤k.bits)(hin:inK k ((a*2 ^ b:Nat):Int))(hk:K (.int k ((a*2 ^ b:Nat):Int))):
  AJ P (do eqGuard .shl t x y (.int k a) (.int k' b);binOp .shl t (.int k a) (.int k' b)) S H K:=by
 refine AJ.mk _ (fun w _=>?_) hk;have e2:min b k.bits=b:=AcR hb;have e3:¬((b:Int)<0):=by omega
 have e4:(a:Int)*2 ^ b=((a*2 ^ b:Nat):Int):=by push_cast;rfl
 simp only [Dk,binOp,Op.shift,Sem.run_bind,Result.andThen_ok,e3,if_false,Int.toNat_natCast,e2,e4,II hin,Sem.run_pure]
theorem MY{P:Program}{t m D D':Nat}{as1 bs:Array Value}{la lb:List Lit}(hk:P.keyTypeAt m t=true)(hm:m≤10000)(hg:P.eqGuardType P.depth t=false)
  (fa:(Value.agg as1).formed P t=true) (fb:(Value.agg bs).formed P t=true) (ha:P.keyLits D t as1.toList=some la) (hb:P.keyLits D' t bs.toList=some lb) {r:Bool} (hr:r=true↔la=lb)
  {op:BinOp} (hop:op= .eql∨op= .neq) (x y:Operand) (w:World):
  (do eqGuard op t x y (.agg as1) (.agg bs);binOp op t (.agg as1) (.agg bs):Sem Value).run P w= .ok (.bool (if op matches .eql then r else !r)) w:=by
 obtain⟨r',h1,h2⟩:=run_equalIn_deep (10000 - m) m t hk w D D' (.agg as1) (.agg bs) la lb fa fb ha hb;rw [show 10000 - m+m=10000 by omega]at h1;have hrr:r'=r:=by rw [Bool.eq_iff_iff,h2,hr]
 subst hrr;have hp:program.run P w= .ok P w:=rfl;rcases hop with rfl | rfl<;>simp [eqGuard,hp,hg,binOp,Op.equal,Op.maxDepth,h1]
theorem veq{P:Program}{t m D D':Nat}{as1 bs:Array Value}{la lb:List Lit}{x y:Operand}{S:Nat→Prop}{H:Aa}{K:Value→Prop}(hk:P.keyTypeAt m t=true)(hm:m≤10000)(hg:P.eqGuardType P.depth t=false)
  (fa:(Value.agg as1).formed P t=true) (fb:(Value.agg bs).formed P t=true) (ha:P.keyLits D t as1.toList=some la) (hb:P.keyLits D' t bs.toList=some lb) {r:Bool} (hr:r=true↔la=lb) (k:K (.bool r)):
  AJ P (do eqGuard .eql t x y (.agg as1) (.agg bs);binOp .eql t (.agg as1) (.agg bs)) S H K:=
 AJ.mk _ (fun w _=>MY hk hm hg fa fb ha hb hr (.inl rfl) x y w) k
theorem vneq{P:Program}{t m D D':Nat}{as1 bs:Array Value}{la lb:List Lit}{x y:Operand}{S:Nat→Prop}{H:Aa}{K:Value→Prop}(hk:P.keyTypeAt m t=true)(hm:m≤10000)(hg:P.eqGuardType P.depth t=false)
  (fa:(Value.agg as1).formed P t=true) (fb:(Value.agg bs).formed P t=true) (ha:P.keyLits D t as1.toList=some la) (hb:P.keyLits D' t bs.toList=some lb) {r:Bool} (hr:r=true↔la=lb) (k:K (.bool (!r))):
  AJ P (do eqGuard .neq t x y (.agg as1) (.agg bs);binOp .neq t (.agg as1) (.agg bs)) S H K:=
 AJ.mk _ (fun w _=>MY hk hm hg fa fb ha hb hr (.inr rfl) x y w) k
def BX(P:Program)(f:FuncId)(args:Array Value)(H:Aa)(v:Value):Prop:=
 Al P f args H fun v' H'=>v'=v∧Agr (fun k=>k<H.size) H H'
def Old(H:Aa)(k:Nat):Prop:=k<H.size
theorem Aj{H H':Aa}(h:Agr (Old H) H H'){k:Nat}(hk:Old H k):k<H'.size:=by
 have h1:=h k hk;unfold Old at hk;rw [AdB hk]at h1;exact(AcN.1 h1).1
theorem Bl{H H':Aa}(h:Agr (Old H) H H'):H.size≤H'.size:=Vm h (AcT _)
theorem Ac2{P:Program}{f:FuncId}{args:Array Value}{H:Aa}{K:Value→Prop}{v:Value}
  (h:∀H',Agr (Old H) H H'→BX P f args H' v) (k:K v):IW P f args (Old H) H K:=
 IW.mk v (fun H' hH'=>(h H' hH').mono fun v' H'' ⟨e,ha⟩=>⟨e,ha.mono fun k hk=>Aj hH' hk⟩) k
theorem Am{P:Program}{f:FuncId}{args:Array Value}{H:Aa}{K:Value→Aa→Prop}{v:Value}
  (h:BX P f args H v) (k:∀H',Agr (Old H) H H'→K v H'):Ad P f args H K:=
 Ad.mk h fun v' H' ⟨e,ha⟩=>by subst e;exact k H' ha
def SlO{α:Type}(T:Ty α)(S:Nat→Prop)(H:Aa)(lo:Nat)(e:TypeId)(v:Value)(xs:List α):Prop:=
 ∃cs,Sl H lo e T.size v xs.length cs∧T.reps S H cs xs
section
variable{α:Type}{T:Ty α}{S S':Nat→Prop}{H H':Aa}{lo:Nat}{e:TypeId}{v:Value}{xs:List α}
theorem SlO.nil:SlO T S H lo e (.slice none 0 0) []:=⟨[],Sl.nil _ _ _ _,rfl⟩
theorem SlO.agr(h:SlO T S H lo e v xs)(k:Agr S' H H')(hb:∀b,slB v b→S' b)(hs:∀b,S b→S' b):SlO T S H' lo e v xs:=by
 obtain⟨cs,h1,h2⟩:=h;exact⟨cs,h1.agr k hb,Ty.reps_frame (k.mono hs) h2⟩
theorem SlO.mono(h:SlO T S H lo e v xs)(hs:∀b,S b→S' b):SlO T S' H lo e v xs:=by
 obtain⟨cs,h1,h2⟩:=h;exact⟨cs,h1,Ty.reps_mono hs h2⟩
theorem SlO.lt(h:SlO T S H lo e v xs){b:Nat}(hb:slB v b):lo≤b∧b<H.size:=by
 obtain⟨cs,h1,_⟩:=h;exact h1.lt hb
theorem SlO.lower{lo':Nat}(h:SlO T S H lo e v xs)(hl:lo'≤lo):SlO T S H lo' e v xs:=by
 obtain⟨cs,⟨h0,h1⟩,h2⟩:=h;refine⟨cs,⟨h0,?_⟩,h2⟩;rcases h1 with h1 | ⟨b,cap,l,h3,h4,r⟩
 ·exact .inl h1
 ·exact .inr ⟨b,cap,l,h3,by omega,r⟩
theorem SlO.one(h:SlO T S H lo e v xs):v.oneCell'=true:=by
 obtain⟨cs,⟨h0,h1⟩,h2⟩:=h;rcases h1 with⟨rfl,_⟩ | ⟨b,cap,l,rfl,r⟩<;>rfl
theorem SlO.len(h:SlO T S H lo e v xs):xs.length≤maxLen:=by
 obtain⟨cs,⟨h0,h1⟩,h2⟩:=h;rcases h1 with⟨_,h1⟩ | ⟨b,cap,l,h3,h4,h5,h6,h7,r⟩
 ·omega
 ·omega
theorem SlO.view(h:SlO T S H lo e v xs)(hb:∀b,slB v b→S' b)(hs:∀b,S b→S' b):∃a cap,v= .slice a xs.length cap∧SlD T S' H a cap xs∧(∀b,slB v b↔a.map (·.block)=some b):=by
 obtain⟨cs,⟨h0,h1⟩,h2⟩:=h;rcases h1 with⟨rfl,h1⟩ | ⟨b,cap,l,rfl,h4,h5,h6,h7,h8,h9⟩
 ·refine⟨none,0,by rw [h1],⟨Ac5 h1,rfl⟩,fun b=>⟨?_,fun h=>by cases h⟩⟩;rintro⟨o,n,c,h⟩;cases h
 ·refine⟨some ⟨b,0,none⟩,cap,rfl,SlD.intro (hb b ⟨_,_,_,rfl⟩) h6 h7 (ec:=cs) ?_ (Ty.reps_mono hs h2),fun b'=>⟨?_,fun h=>?_⟩⟩
  ·refine h5.cells fun j u hu=>?_;rw [←h9,AcS]at hu;split at hu
   ·simpa using hu
   ·cases hu
  ·rintro⟨o,n,c,h⟩;cases h;rfl
  ·cases h;exact⟨0,_,_,rfl⟩
theorem W3{cs c:List Value}{i:Nat}{x:α}(h:T.reps S H cs xs)(hc:T.rep S H c x)(hi:i<xs.length):T.reps S H (Ai cs (i*T.size) c) (xs.set i x):=by
 induction xs generalizing cs i with
 | nil=>simp at hi
 | cons y ys ih=>
   obtain⟨d,r,rfl,h1,h2⟩:=h;have hl:=T.len h1;have hlc:=T.len hc;cases i with
   | zero=>
     refine⟨c,r,?_,hc,h2⟩;unfold Ai;simp only [Nat.zero_mul,List.take_zero,List.nil_append,Nat.zero_add];rw [hlc,←hl,List.drop_left]
   | succ i=>
     simp only [Ac8]at hi;refine⟨d,Ai r (i*T.size) c,?_,h1,ih h2 (by omega)⟩;have e1:(i+1)*T.size=d.length+i*T.size:=by rw [hl,Ad0];omega
     unfold Ai;rw [e1,Ad8,show d.length+i*T.size+c.length=d.length+(i*T.size+c.length) by omega,List.drop_length_add_append];simp [AcU]
theorem SlO.place{i:Nat}(h:SlO T S H lo e v xs)(hi:i<xs.length):∃b cap l cs,v= .slice (some ⟨b,0,none⟩) xs.length cap∧lo≤b∧Blk H b e l∧i*T.size+T.size≤l.length∧
  (∀x,xs[i]? =some x→∃c,AX H b (i*T.size) c∧T.rep S H c x)∧T.reps S H cs xs∧
  ∀(H':Aa) (c:List Value) (x:α),Blk H' b e (Ai l (i*T.size) c)→Agr S H H'→T.rep S H' c x→SlO T S H' lo e v (xs.set i x):=by
 obtain⟨cs,⟨h0,h1⟩,h2⟩:=h;rcases h1 with⟨rfl,h1⟩ | ⟨b,cap,l,rfl,h4,h5,h6,h7,h8,h9⟩
 ·omega
 ·have hle:i*T.size+T.size≤xs.length*T.size:=by rw [←Ad0];exact Ac3 _ hi
  have hle2:xs.length*T.size≤l.length:=by rw [h8];exact Ac3 _ h6
  refine⟨b,cap,l,cs,rfl,h4,h5,by omega,?_,h2,?_⟩
  ·intro x hx;obtain⟨l',c,r,rfl,hl',hc⟩:=Ty.reps_get h2 hx;refine⟨c,?_,hc⟩;rw [←hl'];have hcs:AX H b 0 (l'++c++r):=h5.cells fun j u hu=>by
    rw [←h9,AcS]at hu;split at hu
    ·simpa using hu
    ·cases hu
   have:=hcs.mid;simpa using this
  intro H' c x hb' hagr hc;have hlc:=T.len hc;refine⟨Ai cs (i*T.size) c,⟨?_,.inr ⟨b,cap,_,by rw [AcL],h4,hb',by rw [AcL];exact h6,h7,?_,?_⟩⟩,W3 (Ty.reps_frame hagr h2) hc hi⟩
  ·rw [DX (by rw [hlc,h0];exact hle),h0,AcL]
  ·rw [DX (by rw [hlc];omega),h8]
  ·rw [AcL];apply Ac4;intro j;rw [AcS];by_cases hj:j<xs.length*T.size
   ·rw [if_pos hj,Dh (by rw [hlc];omega),Dh (by rw [hlc,h0];exact hle)];split
    ·rfl
    ·rw [←h9,AcS,if_pos hj]
   ·rw [if_neg hj,AcK];rw [DX (by rw [hlc,h0];exact hle),h0];omega
end
theorem CW{α:Type}{T:Ty α}{P:Program}{t ty e by_:Nat}{z:Value}{S:Nat→Prop}{H:Aa}{K:Value→Aa→Prop}(ht:SlT P t e T.size by_ z){lo q o m cap:Nat}{v:Value}{xs ys:List α}{ds:List Value}
  (hs:SlO T S H lo e v xs) (hlo:lo≤H.size) (hS:∀k,S k→k<H.size∧¬slB v k) (hd:AX H q o ds) (hy:T.reps S H ds ys) (hm:m=ys.length) (h1:∀u∈ds,u.oneCell'=true)
  (h63:xs.length+ys.length≤maxLen) (hby:(xs.length+ys.length)*by_≤140737488355328)
  (h:∀v' H',SlO T S H' lo e v' (xs++ys)→Agr (fun k=>k<H.size∧¬slB v k) H H'→H.size≤H'.size→(∀k,slB v' k→slB v k∨H.size≤k)→K v' H'):
  BN P (Builtin.append_ #[t,t] ty [v,.slice (some ⟨q,o,none⟩) m cap].toArray) H K:=by
 obtain⟨cs,hsl,hr⟩:=hs;subst hm;refine PH (m:=ys.length) (news:=ds) ht hsl hlo (fun w hw=>?_) h63 hby ?_
 ·refine Src.ofSlice w ht.under ⟨q,o,none⟩ ys.length cap ds (Ty.reps_len hy) (fun j u hu=>?_) h1;rw [Addr.add_mid];subst hw;have:=hd j u hu;rw [FK];exact this
 ·intro v' H' hsl' hagr hsz hbb;refine h v' H' ⟨_,by rw [AbH];exact hsl',Ty.reps_append (Ty.reps_frame (hagr.mono hS) hr) (Ty.reps_frame (hagr.mono hS) hy)⟩ hagr hsz hbb
theorem Lv{α:Type}{T:Ty α}{P:Program}{t e by_:Nat}{z:Value}{n cap i:Nat}{k:IntKind}{j:Int}{S S0:Nat→Prop}{H:Aa}{K:Value→Prop}{a:Option Addr}{xs:List α}{x:α}
  (ht:SlT P t e T.size by_ z) (h:SlD T S H a cap xs) (hn:n=xs.length) (hx:xs[i]? =some x) (hj:j=(i:Int))
  (hk:∀b o c,S b→AX H b o c→T.rep S H c x→K (.pointer (some ⟨b,o,none⟩))):AJ P (Instr.indexAt t (.slice a n cap) (.int k j)) S0 H K:=by
 subst hn;exact ixr ht h hx hj hk
theorem E5{α:Type}{T:Ty α}{S:Nat→Prop}{H:Aa}:∀{vs:List Value} {xs:List α},vs.length=xs.length→(∀(i:Nat) (v:Value) (x:α),vs[i]? =some v→xs[i]? =some x→T.rep S H [v] x)→T.reps S H vs xs
 | [],[],_,_=>rfl
 | v::vs,[],h,_=>by simp at h
 | [],x::xs,h,_=>by simp at h
 | v::vs,x::xs,h,k=>⟨[v],vs,rfl,k 0 v x rfl rfl,E5 (by simpa using h) fun i v' x' h1 h2=>k (i+1) v' x' (by simpa using h1) (by simpa using h2)⟩
theorem JS:∀(vs:List Value) (k:Nat) (cells:Array Value) (off:Nat),off+k+vs.length≤cells.size→
  (vs.zipIdx k).foldl (fun cs (x:Value×Nat)=>cs.setIfInBounds (off+x.2) x.1) cells=(Ai cells.toList (off+k) vs).toArray
 | [],k,cells,off,_=>by apply Ad1;simp [Ai]
 | v::vs,k,cells,off,h=>by
   simp only [Ac8]at h;rw [List.zipIdx_cons,List.foldl_cons,JS vs (k+1) _ off (by simp;omega)];apply congrArg;apply Ac4;intro j;rw [Dh (by simp;omega),Dh (by simp;omega)];simp only [Array.toList_setIfInBounds,Ac8];by_cases h1:off+(k+1)≤j∧j<off+(k+1)+vs.length
   ·rw [if_pos h1,if_pos (by omega),show j - (off+k)=(j - (off+(k+1)))+1 by omega,AdF]
   ·rw [if_neg h1];by_cases h2:j=off+k
    ·subst h2;rw [if_pos (by omega),Nat.sub_self,List.getElem?_cons_zero,AbD (by simp;omega)]
    ·rw [if_neg (by omega),Ad2,if_neg (fun h3=>h2 h3.symm)]
theorem Dp{place:Nat→Option (Nat×Nat)}{cells:Array Value}{i:Nat}{v:Value}{rest:List (Nat×Value)}{off size:Nat}(hp:place i=some (off,size))(h1:v.cells.size=size)(h2:off+size≤cells.size):
  Instr.fill place cells ((i,v)::rest)=Instr.fill place (Ai cells.toList off v.cells.toList).toArray rest:=by
 have h3:¬(v.cells.size≠size∨off+v.cells.size>cells.size):=by omega
 have h4:=JS v.cells.toList 0 cells off (by simp;omega);simp only [Nat.add_zero]at h4;rw [Instr.fill,hp];simp only [AdG,decide_eq_true_eq,h3,if_false]
 congr 1
 rw [←h4,←Array.foldl_toList,Array.toList_zipIdx]
theorem AG{P:Program}{t e:TypeId}{sz by_:Nat}{z v:Value}{H:Aa}{K:Value→Aa→Prop}(ht:SlT P t e sz by_ z)(l:List Value)(hv:v.cells=l.toArray)(hl:l.length=sz)(h0:0<sz)(h1:sz≤16777216)
  (h:New H (fun b H'=>K (.slice (some ⟨b,0,none⟩) 1 1) H') e l):BN P (Instr.buildSlice t 1 [(0,v)].toArray) H K:=by
 refine AaJ ht l (by omega) (by omega) ?_ h;rw [show([(0,v)].toArray).toList=(0,v)::[]from rfl,Dp (off:=0) (size:=sz) (by simp) (by rw [hv];simpa using hl) (by simp)];rw [Instr.fill,hv]
 congr 1
 apply Ad1;simp only [Ai];simp [hl]
structure Tab{α:Type}(T:Ty α)(S:Nat→Prop)(H:Aa)(lo:Nat)(e:TypeId)(nb:Nat)(te:TypeId)(vs:List Value)(xs:List (List α)):Prop where
 len:vs.length=xs.length
 blk:Blk H nb te vs
 nlo:nb<lo
 own:∀(i:Nat) (v:Value) (x:List α),vs[i]? =some v→xs[i]? =some x→SlO T S H lo e v x
 apart:∀(i j:Nat) (v w:Value) (k:Nat),i≠j→vs[i]? =some v→vs[j]? =some w→slB v k→¬slB w k
section
variable{α:Type}{T:Ty α}{S S':Nat→Prop}{H H1 H2:Aa}{lo nb:Nat}{e te:TypeId}{vs:List Value}{xs:List (List α)}
theorem Tab.agr(h:Tab T S H lo e nb te vs xs)(k:Agr S' H H1)(hn:S' nb)(hlo:∀b,lo≤b→b<H.size→S' b)(hs:∀b,S b→S' b):Tab T S H1 lo e nb te vs xs:=
 ⟨h.len,h.blk.agr k hn,h.nlo,fun i v x hv hx=>(h.own i v x hv hx).agr k (fun b hb=>hlo b ((h.own i v x hv hx).lt hb).1 ((h.own i v x hv hx).lt hb).2) hs,h.apart⟩
theorem Tab.new{n:Nat}(hb:Blk H nb te (Ab8 n (.slice none 0 0)))(hlo:nb<lo):Tab T S H lo e nb te (Ab8 n (.slice none 0 0)) (Ab8 n []):=by
 refine⟨by simp,hb,hlo,fun i v x hv hx=>?_,fun i j v w k hij hv hw hk=>?_⟩
 ·rw [AcQ]at hv hx;split at hv
  ·rename_i hi;rw [if_pos hi]at hx;cases hv;cases hx;exact SlO.nil
  ·cases hv
 ·rw [AcQ]at hv;split at hv
  ·cases hv;obtain⟨o,n,c,h⟩:=hk;cases h
  ·cases hv
theorem Tab.get(h:Tab T S H lo e nb te vs xs){i:Nat}(hi:i<xs.length):∃v x,vs[i]? =some v∧xs[i]? =some x∧SlO T S H lo e v x:=by
 have h1:i<vs.length:=by rw [h.len];exact hi
 exact⟨vs[i],xs[i],AaT h1,AaT hi,h.own i _ _ (AaT h1) (AaT hi)⟩
theorem Tab.push(h:Tab T S H lo e nb te vs xs){t:Nat}{v v':Value}{x':List α}(hv:vs[t]? =some v)(hown:SlO T S H1 lo e v' x')(ha:Agr (fun k=>k<H.size∧¬slB v k) H H1)
  (hfresh:∀k,slB v' k→slB v k∨H.size≤k) (hb:Blk H2 nb te (vs.set t v')) (ha2:Agr (fun k=>k≠nb) H1 H2) (hS:∀k,S k→k<H.size∧¬slB v k∧k≠nb):
  Tab T S H2 lo e nb te (vs.set t v') (xs.set t x'):=by
 have ht:t<vs.length:=(AaS.1 hv).1;refine⟨by simp [h.len],hb,h.nlo,fun i w x hw hx=>?_,fun i j u w k hij hu hw hk hk'=>?_⟩
 ·by_cases hit:i=t
  ·subst hit;rw [AbD ht]at hw;rw [AbD (by rw [←h.len];exact ht)]at hx;cases hw;cases hx;exact hown.agr ha2 (fun b hb=>by have:=(hown.lt hb).1;have:=h.nlo;omega) (fun b hb=>(hS b hb).2.2)
  ·rw [AbM (Ne.symm hit)]at hw hx;have h1:=h.own i w x hw hx;have h2:SlO T S H1 lo e w x:=h1.agr ha (fun b hb=>⟨(h1.lt hb).2,fun hb'=>h.apart i t w v b hit hw hv hb hb'⟩) (fun b hb=>⟨(hS b hb).1,(hS b hb).2.1⟩);exact h2.agr ha2 (fun b hb=>by have:=(h1.lt hb).1;have:=h.nlo;omega) (fun b hb=>(hS b hb).2.2)
 ·have old:∀(i:Nat) (w:Value),i≠t→(vs.set t v')[i]? =some w→slB w k→¬slB v' k:=by
   intro i w hi hw hk hk';rw [AbM (Ne.symm hi)]at hw;rcases hfresh k hk' with h1 | h1
   ·exact h.apart i t w v k hi hw hv hk h1
   ·have hix:i<xs.length:=by rw [←h.len];exact(AaS.1 hw).1
    have:=((h.own i w _ hw (AaT hix)).lt hk).2;omega
  by_cases hit:i=t
  ·subst hit;rw [AbD ht]at hu;cases hu;exact old j w (Ne.symm hij) hw hk' hk
  ·by_cases hjt:j=t
   ·subst hjt;rw [AbD ht]at hw;cases hw;exact old i u hit hu hk hk'
   ·rw [AbM (Ne.symm hit)]at hu;rw [AbM (Ne.symm hjt)]at hw;exact h.apart i j u w k hij hu hw hk hk'
end
theorem Tab.view{α:Type}{T:Ty α}{S S':Nat→Prop}{H:Aa}{lo nb n:Nat}{e te:TypeId}{vs:List Value}{xs:List (List α)}(h:Tab T S H lo e nb te vs xs)(hn:n=xs.length)(hm:n≤maxLen)
  (hS:∀k,nb≤k→k<H.size→S' k) (hs:∀k,S k→S' k):SlD (tSl T) S' H (some ⟨nb,0,none⟩) n xs:=by
 subst hn;refine SlD.intro (hS nb (AcT _) h.blk.lt) (AcT _) hm (h.blk.cells (cs:=vs) (fun j v hv=>by simpa using hv)) (E5 h.len fun i v x hv hx=>?_);have hd:=h.own i v x hv hx;obtain⟨a0,cap0,rfl,hv0,-⟩:=hd.view (S':=S') (fun k hk=>hS k (by have:=(hd.lt hk).1;have:=h.nlo;omega) (hd.lt hk).2) hs;exact⟨a0,cap0,rfl,hv0⟩
theorem TO{P:Program}{t e sz by_:Nat}{z:Value}{a:Option Addr}{n cap:Nat}{k:IntKind}{h:Int}{S:Nat→Prop}{H:Aa}{K:Value→Prop}(ht:SlT P t e sz by_ z)(h0:0≤h)(h1:h≤cap)
  (hk:K (.slice a h.toNat cap)):AJ P (Instr.sliceAt t (.slice a n cap) none (some (.int k h)) none) S H K:=by
 obtain⟨inf,hi,hs,_,_⟩:=ht.info;refine AJ.mk _ (fun w _=>?_) hk;have e1:(a.map fun x=>x.add 0)=a:=by cases a<;>rfl
 simp [Instr.sliceAt,Instr.slice,run_underlying ht.under,Instr.sliceBounds,Instr.sliceBound,asIntOf,h0,h1,sizeOf,typeInfo,hi,e1]
theorem SlO.pop{α:Type}{T:Ty α}{S:Nat→Prop}{H:Aa}{lo n cap:Nat}{e:TypeId}{a:Option Addr}{xs:List α}{x:α}(h:SlO T S H lo e (.slice a n cap) (xs++[x])):SlO T S H lo e (.slice a xs.length cap) xs:=by
 obtain⟨cs,⟨h0,h1⟩,h2⟩:=h;have split:∀(xs:List α) (cs:List Value),T.reps S H cs (xs++[x])→T.reps S H (cs.take (xs.length*T.size)) xs:=by
  intro xs
  induction xs with
  | nil=>intro cs _;simp [Ty.reps]
  | cons y ys ih=>
    rintro cs ⟨c,r,rfl,hc,hr⟩;refine⟨c,r.take (ys.length*T.size),?_,hc,ih r hr⟩;have:=T.len hc;rw [Ac8,Ad0,Nat.add_comm,←this,Ad8]
 rcases h1 with⟨h1,h3⟩ | ⟨b,cap',l,h1,h4,h5,h6,h7,h8,h9⟩
 ·simp at h3
 ·cases h1;simp only [AbH,AcM]at h6 h9 h0;refine⟨cs.take (xs.length*T.size),⟨?_,.inr ⟨b,cap,l,rfl,h4,h5,by omega,h7,h8,?_⟩⟩,split xs cs h2⟩
  ·rw [AdD,h0,AcR (Ac3 _ (by omega))]
  ·rw [←h9,List.take_take,AcR (Ac3 _ (by omega))]
def Ty.Ones{α:Type}(T:Ty α):Prop:=∀S H cs x,T.rep S H cs x→∀u∈cs,u.oneCell'=true
theorem Ty.Ones.reps{α:Type}{T:Ty α}(h:T.Ones){S:Nat→Prop}{H:Aa}:∀{cs:List Value} {xs:List α},T.reps S H cs xs→∀u∈cs,u.oneCell'=true:=by
 intro cs xs
 induction xs generalizing cs with
 | nil=>intro hr u hu;simp only [Ty.reps]at hr;subst hr;cases hu
 | cons x xs ih=>
   rintro⟨c,r,rfl,hc,hr⟩ u hu;rcases AdH.1 hu with hu | hu
   ·exact h S H c x hc u hu
   ·exact ih hr u hu
theorem UN:∀(k:IntKind),(Gb k).Ones:=by
 rintro k S H cs x ⟨rfl,_⟩ u hu;cases AbY.1 hu;rfl
theorem S6:Cn.Ones:=by
 rintro S H cs x rfl u hu;cases AbY.1 hu;rfl
theorem Nr{α:Type}{T:Ty α}{P:Program}{t ty e by_:Nat}{z:Value}{S:Nat→Prop}{H:Aa}{K:Value→Aa→Prop}(ht:SlT P t e T.size by_ z)(hone:T.Ones){lo cap:Nat}{v:Value}{a:Option Addr}{xs ys:List α}
  (hs:SlO T S H lo e v xs) (hlo:lo≤H.size) (hS:∀k,S k→k<H.size∧¬slB v k) (hy:SlD T S H a cap ys)
  (h63:xs.length+ys.length≤maxLen) (hby:(xs.length+ys.length)*by_≤140737488355328)
  (h:∀v' H',SlO T S H' lo e v' (xs++ys)→Agr (fun k=>k<H.size∧¬slB v k) H H'→H.size≤H'.size→(∀k,slB v' k→slB v k∨H.size≤k)→K v' H'):
  BN P (Builtin.append_ #[t,t] ty [v,.slice a ys.length cap].toArray) H K:=by
 cases a with
 | some ad=>
   obtain⟨q,o,sp⟩:=ad;obtain⟨h3,h4,h0 | ⟨rfl,h2,ec,h5,h6⟩⟩:=hy
   ·obtain rfl:ys=[]:=Ac5 (by omega);obtain⟨cs,hsl,hr⟩:=hs;refine PH (m:=0) (news:=[]) ht hsl hlo (fun w hw=>Src.ofSlice w ht.under _ 0 cap [] (by simp) (fun j u hu=>by simp at hu) (fun u hu=>by cases hu)) (by simpa using h63) (by simpa using hby) ?_;intro v' H' hsl' hagr hsz hbb;refine h v' H' ⟨cs,by simpa using hsl',?_⟩ hagr hsz hbb;rw [AdI];exact Ty.reps_frame (hagr.mono hS) hr
   exact CW ht hs hlo hS h5 h6 rfl (hone.reps h6) h63 hby h
 | none=>
   obtain⟨rfl,rfl⟩:=hy;obtain⟨cs,hsl,hr⟩:=hs;refine PH (m:=0) (news:=[]) ht hsl hlo (fun w hw=>Src.ofNil w ht.under 0) (by simpa using h63) (by simpa using hby) ?_;intro v' H' hsl' hagr hsz hbb;refine h v' H' ⟨cs,by simpa using hsl',?_⟩ hagr hsz hbb;rw [AdI];exact Ty.reps_frame (hagr.mono hS) hr
def Ty.Free{α:Type}(T:Ty α):Prop:=∀S S' H H' cs x,T.rep S H cs x→T.rep S' H' cs x
theorem UM(k:IntKind):(Gb k).Free:=fun S S' H H' cs x h=>h
theorem S5:Cn.Free:=fun S S' H H' cs x h=>h
theorem Ty.Free.reps{α:Type}{T:Ty α}(h:T.Free){S S':Nat→Prop}{H H':Aa}:∀{cs:List Value} {xs:List α},T.reps S H cs xs→T.reps S' H' cs xs:=by
 intro cs xs
 induction xs generalizing cs with
 | nil=>exact fun hr=>hr
 | cons x xs ih=>
   rintro⟨c,r,e,hc,hr⟩;exact⟨c,r,e,h S S' H H' c x hc,ih hr⟩
theorem SlO.free{α:Type}{T:Ty α}(hf:T.Free){S S':Nat→Prop}{H:Aa}{lo:Nat}{e:TypeId}{v:Value}{xs:List α}(h:SlO T S H lo e v xs):SlO T S' H lo e v xs:=by
 obtain⟨cs,h1,h2⟩:=h;exact⟨cs,h1,hf.reps h2⟩
section
variable{P:Program}{t e:TypeId}{x y:Operand}{S:Nat→Prop}{H:Aa}{K:Value→Prop}{p:Option Addr}
theorem Lj(h:P.underlying t=some (.pointer e))(p:Option Addr)(w:World):(Op.equal t (.pointer p) (.pointer none)).run P w= .ok p.isNone w:=by
 have:∀d:Nat,(Op.equalIn (d+1) t (.pointer p) (.pointer none)).run P w= .ok p.isNone w:=fun d=>by
  cases p<;>simp [Op.equalIn,run_underlying h]
 exact this 9999
theorem peq(h:P.underlying t=some (.pointer e))(k:K (.bool p.isNone)):AJ P (do eqGuard .eql t x y (.pointer p) (.pointer none);binOp .eql t (.pointer p) (.pointer none)) S H K:=by
 refine AJ.mk _ (fun w _=>?_) k;simp [eqGuard,binOp,Lj h]
theorem pneq(h:P.underlying t=some (.pointer e))(k:K (.bool (!p.isNone))):AJ P (do eqGuard .neq t x y (.pointer p) (.pointer none);binOp .neq t (.pointer p) (.pointer none)) S H K:=by
 refine AJ.mk _ (fun w _=>?_) k;simp [eqGuard,binOp,Lj h]
theorem ZY(h:P.underlying t=some (.pointer e))(k:K (.bool true)):AJ P (do eqGuard .eql t x y (.pointer none) (.pointer none);binOp .eql t (.pointer none) (.pointer none)) S H K:=peq h k
theorem ZZ{a:Addr}(h:P.underlying t=some (.pointer e))(k:K (.bool false)):AJ P (do eqGuard .eql t x y (.pointer (some a)) (.pointer none);binOp .eql t (.pointer (some a)) (.pointer none)) S H K:=peq h k
theorem AbZ(h:P.underlying t=some (.pointer e))(k:K (.bool false)):AJ P (do eqGuard .neq t x y (.pointer none) (.pointer none);binOp .neq t (.pointer none) (.pointer none)) S H K:=pneq h k
theorem Wr{a:Addr}(h:P.underlying t=some (.pointer e))(k:K (.bool true)):AJ P (do eqGuard .neq t x y (.pointer (some a)) (.pointer none);binOp .neq t (.pointer (some a)) (.pointer none)) S H K:=pneq h k
theorem Lh(h:P.underlying t=some .bool)(a b:Bool)(w:World):(Op.equal t (.bool a) (.bool b)).run P w= .ok (a==b) w:=by
 have:∀d:Nat,(Op.equalIn (d+1) t (.bool a) (.bool b)).run P w= .ok (a==b) w:=fun d=>by simp [Op.equalIn,run_underlying h]
 exact this 9999
theorem YW{a b:Bool}(h:P.underlying t=some .bool)(k:K (.bool (a==b))):AJ P (do eqGuard .eql t x y (.bool a) (.bool b);binOp .eql t (.bool a) (.bool b)) S H K:=by
 refine AJ.mk _ (fun w _=>?_) k;simp [eqGuard,binOp,Lh h]
theorem OI{a b:Bool}(h:P.underlying t=some .bool)(k:K (.bool (!(a==b)))):AJ P (do eqGuard .neq t x y (.bool a) (.bool b);binOp .neq t (.bool a) (.bool b)) S H K:=by
 refine AJ.mk _ (fun w _=>?_) k;simp [eqGuard,binOp,Lh h]
end
theorem DJ{P:Program}{t:TypeId}{S:Nat→Prop}{H:Aa}{K:Value→Prop}{s:ByteArray}{k:IntKind}{i:Nat}{j:Int}{b:UInt8}(h:P.underlying t=some .string)(hj:j=(i:Int))(hb:s.data[i]? =some b)
  (hk:K (.int .u8 (b.toNat:Int))):AJ P (Instr.index t (.string s) (.int k j)) S H K:=by
 subst hj;have hb':s[i]? =some b:=by
  obtain⟨h1,h2⟩:=AcN.1 hb;have h3:i<s.size:=h1;rw [getElem?_pos s i h3];exact congrArg some h2
 refine AJ.mk _ (fun w _=>?_) hk;simp [Instr.index,asIntOf,run_underlying h,hb']
section
variable{P:Program}{t e:TypeId}{x y:Operand}{S:Nat→Prop}{H:Aa}
theorem SlO.ofBlk{α:Type}{T:Ty α}{lo b n:Nat}{l:List Value}{xs:List α}(hlo:lo≤b)(hb:Blk H b e l)(hr:T.reps S H l xs)(hn:n=xs.length)(hm:n≤maxLen):SlO T S H lo e (.slice (some ⟨b,0,none⟩) n n) xs:=by
 subst hn;have hl:=Ty.reps_len hr;refine⟨l,?_,hr⟩;have:=Sl.made (sz:=T.size) (n:=xs.length) (cap:=xs.length) hlo hb (AcT _) hm hl;rwa [←hl,List.take_length]at this
theorem FS{α:Type}{T:Ty α}{c:List Value}{v:α}(h:T.rep S H c v):∀n,T.reps S H (Ab8 n c).flatten (Ab8 n v)
 | 0=>rfl
 | n+1=>⟨c,_,rfl,h,FS h n⟩
theorem Us(z:Array Value)(n:Nat):(AdO (n*z.size)).map (z[· % z.size]!)=(Ab8 n z.toList).flatten:=by
 induction n with
 | zero=>simp
 | succ n ih=>
   rw [Ad0,List.range_add,List.map_append,ih,List.replicate_succ',List.flatten_append]
   congr 1
   simp only [List.flatten_cons,List.flatten_nil,AdI,List.map_map];apply Ac4;intro i;by_cases hi:i<z.size
   ·rw [AdT,AdQ hi];simp only [Option.map_some,Function.comp,Array.getElem?_toList];have:(n*z.size+i) % z.size=i:=by rw [Nat.mul_comm,Nat.mul_add_mod];exact AbK hi
    rw [this,getElem!_pos z i hi,getElem?_pos z i hi]
   ·rw [AcK (by simp;omega),AcK (by simp;omega)]
theorem Xe{α:Type}{T:Ty α}{by_:Nat}{z:Value}{kl kc:IntKind}{l c:Int}{v:α}{K:Value→Aa→Prop}(ht:SlT P t e T.size by_ z)(hv:T.rep S H z.cells.toList v)(h0:0≤l)(hlc:l=c)(hb:(by_:Int)*c≤281474976710656)(h63:c≤9223372036854775807)
  (h:New H (fun b H'=>K (.slice (some ⟨b,0,none⟩) c.toNat c.toNat) H') e (Ab8 c.toNat z.cells.toList).flatten):BN P (Instr.makeSlice t (.int kl l) (.int kc c)) H K:=by
 subst hlc;refine Xd ht h0 (Int.le_refl _) hb h63 ?_;rw [←ht.zsz,Us];exact h
theorem SlO.placeS{α:Type}{T:Ty α}{lo b o n cap i:Nat}{xs:List α}(h:SlO T S H lo e (.slice (some ⟨b,o,none⟩) n cap) xs)(hi:i<xs.length):n=xs.length∧o=0∧lo≤b∧∃l,Blk H b e l∧i*T.size+T.size≤l.length∧
  (∀x,xs[i]? =some x→∃c,AX H b (i*T.size) c∧T.rep S H c x)∧
  ∀(H':Aa) (c:List Value) (x:α),Blk H' b e (Ai l (i*T.size) c)→Agr S H H'→T.rep S H' c x→SlO T S H' lo e (.slice (some ⟨b,o,none⟩) n cap) (xs.set i x):=by
 obtain⟨b',cap',l,cs,e1,h1,h2,h3,h4,h5,h6⟩:=h.place hi;have e2:=e1;injection e1 with e3 e4 e5
 injection e3 with e3
 injection e3 with e6 e7 e8
 subst e6;subst e7;subst e4;subst e5;exact⟨rfl,rfl,h1,l,h2,h3,h4,h6⟩
theorem Ar.cut{l:List Oper}{fr:Fr}{K:Fr→Aa→Prop}{α:Type}(ts:List Nat)(enc:α→List Value)(I:α→Aa→Prop)
  (h:Ar P l fr H (fun fr' H'=>IT (O7 l []) fr fr' (P8 fr' ts fun vs=>∃y,vs=enc y∧I y H')))
  (k:∀(z:α) (H1:Aa) (junk:Nat→Value),I z H1→Hh junk fr (O7 l []) fun fr0=>SB fr0 ts (enc z) fun fr1=>K fr1 H1):Ar P l fr H K:=by
 generalize O7 l []=ws at h k;have h:=h.out_;refine⟨?_⟩;intro id Q a w hat hw hp hq;refine h id Q a w hat hw hp fun fr' a' w' hat' henv h3=>hq fr' a' w' hat' henv ?_;simp only [IT,CT,Gn]at h3;obtain⟨hk,z,hz,hi⟩:=h3;have h:=k z w'.heap (rd fr') hi;rw [CT,IJ,D6 hk,←hz,GW ts fr']at h;exact h
theorem AcD{s:ByteArray}{k k':IntKind}{l h:Int}{K:Value→Prop}(ht:P.underlying t=some .string)(h0:0≤l)(h1:l≤h)(h2:h≤s.size)(hk:K (.string (s.extract l.toNat h.toNat))):
  AJ P (Instr.sliceAt t (.string s) (some (.int k l)) (some (.int k' h)) none) S H K:=by
 refine AJ.mk _ (fun w _=>?_) hk;have h3:0≤h:=by omega
 have h4:l≤max h 0:=by omega
 simp [Instr.sliceAt,Instr.slice,run_underlying ht,Instr.sliceBounds,Instr.sliceBound,asIntOf,h0,h1,h2,h3,h4]
end
theorem S4{l:List Value}{o:Nat}{v:Value}(h:o<l.length):Ai l o [v]=l.set o v:=by
 apply Ac4;intro j;rw [Dh (by simp;omega),Ad2];simp only [AcM];by_cases hj:o=j
 ·subst hj;simp [h]
 ·rw [if_neg (by omega),if_neg hj]
structure Pc where
 foot:Nat→Prop
 ok:Aa→Prop
 fr:∀{H H':Aa},Agr foot H H'→ok H→ok H'
def Dis(p q:Pc):Prop:=∀k,p.foot k→¬q.foot k
structure StB(B:Nat→Prop)(H0 H:Aa)(ps:List Pc):Prop where
 old:Agr B H0 H
 lt0:∀k,B k→k<H0.size
 size:H0.size≤H.size
 oks:∀p∈ps,p.ok H
 rng:∀p∈ps,∀k,p.foot k→¬B k∧k<H.size
 dis:ps.Pairwise Dis
abbrev St(H0 H:Aa)(ps:List Pc):Prop:=StB (Old H0) H0 H ps
section
variable{B:Nat→Prop}{H0 H H':Aa}{ps:List Pc}{p q:Pc}
theorem St.nil(H:Aa):St H H []:=⟨Agr.refl _ _,fun _ h=>h,AcT _,(fun _ h=>by cases h),(fun _ h=>by cases h),List.Pairwise.nil⟩
theorem StB.up(st:StB B H0 H ps){k:Nat}(hk:B k):k<H.size:=Nat.lt_of_lt_of_le (st.lt0 k hk) st.size
theorem StB.call(st:StB B H0 H ps)(h:Agr (Old H) H H'):StB B H0 H' ps:=
 ⟨st.old.trans (h.mono fun k hk=>st.up hk),st.lt0,Nat.le_trans st.size (Bl h),fun p hp=>p.fr (h.mono fun k hk=>(st.rng p hp k hk).2) (st.oks p hp),
  fun p hp k hk=>⟨(st.rng p hp k hk).1,Aj h (st.rng p hp k hk).2⟩,st.dis⟩
theorem StB.at_(st:StB B H0 H ps)(i:Nat)(hp:ps[i]? =some p):p.ok H:=st.oks p (AaU hp)
theorem StB.in_(st:StB B H0 H ps)(i:Nat)(hp:ps[i]? =some p){k:Nat}(hk:p.foot k):¬B k∧k<H.size:=st.rng p (AaU hp) k hk
theorem StB.add(st:StB B H0 H ps)(h:Agr (Old H) H H')(p:Pc)(hp:p.ok H')(hf:∀k,p.foot k→H.size≤k∧k<H'.size):StB B H0 H' (ps++[p]):=by
 have st':=st.call h;refine⟨st'.old,st.lt0,st'.size,fun q hq=>?_,fun q hq k hk=>?_,List.pairwise_append.2 ⟨st.dis,List.pairwise_singleton _ _,fun a ha b hb=>?_⟩⟩
 ·rcases AdH.1 hq with hq | hq
  ·exact st'.oks q hq
  ·rw [AbY]at hq;subst hq;exact hp
 ·rcases AdH.1 hq with hq | hq
  ·exact st'.rng q hq k hk
  ·rw [AbY]at hq;subst hq;exact⟨fun hB=>by have:=st.up hB;have:=hf k hk;omega,(hf k hk).2⟩
 ·rw [AbY]at hb;subst hb;intro k hk hk';have:=(st.rng a ha k hk).2;have:=(hf k hk').1;omega
theorem StB.upd(st:StB B H0 H ps)(i:Nat)(hp:ps[i]? =some p)(h:Agr (fun k=>k<H.size∧¬p.foot k) H H')(q:Pc)(hq:q.ok H')(hf:∀k,q.foot k→p.foot k∨H.size≤k)(hl:∀k,q.foot k→k<H'.size)(hs:H.size≤H'.size):StB B H0 H' (ps.set i q):=by
 have hi:=(AaS.1 hp).1;have hpi:=AaU hp;have key:∀(j:Nat) (r:Pc),ps[j]? =some r→j≠i→Dis r p:=by
  intro j r hr hj k hk hk';have hjl:=(AaS.1 hr).1;have e1:=(AaS.1 hr).2;have e2:=(AaS.1 hp).2;rcases Ad9 hj with hji | hji
  ·exact AaV.1 st.dis j i hjl hi hji k (by rw [e1];exact hk) (by rw [e2];exact hk')
  ·exact AaV.1 st.dis i j hi hjl hji k (by rw [e2];exact hk') (by rw [e1];exact hk)
 have mem:∀r,r∈ps.set i q→r=q∨∃j,j≠i∧ps[j]? =some r:=by
  intro r hr;obtain⟨j,hj⟩:=Ad7 hr;by_cases hji:i=j
  ·subst hji;rw [AbD hi]at hj;cases hj;exact .inl rfl
  ·rw [AbM hji]at hj;exact .inr ⟨j,Ne.symm hji,hj⟩
 refine⟨st.old.trans (h.mono fun k hk=>⟨st.up hk,fun hb=>(st.rng p hpi k hb).1 hk⟩),st.lt0,Nat.le_trans st.size hs,fun r hr=>?_,fun r hr k hk=>?_,?_⟩
 ·rcases mem r hr with rfl | ⟨j,hj,hr⟩
  ·exact hq
  ·exact r.fr (h.mono fun k hk=>⟨(st.rng r (AaU hr) k hk).2,fun hb=>key j r hr hj k hk hb⟩) (st.oks r (AaU hr))
 ·rcases mem r hr with rfl | ⟨j,hj,hr⟩
  ·refine⟨?_,hl k hk⟩;rcases hf k hk with h1 | h1
   ·exact(st.rng p hpi k h1).1
   ·exact fun hB=>by have:=st.up hB;omega
  ·have:=st.rng r (AaU hr) k hk;exact⟨this.1,by omega⟩
 ·have old:∀(j:Nat) (r:Pc),ps[j]? =some r→j≠i→Dis r q:=by
   intro j r hr hj k hk hk';rcases hf k hk' with h1 | h1
   ·exact key j r hr hj k hk h1
   ·have:=(st.rng r (AaU hr) k hk).2;omega
  rw [AaV];intro a b ha hb hab;simp only [AcL]at ha hb;rw [AdW,AdW];by_cases h1:i=a
  ·subst h1;rw [if_pos rfl,if_neg (by omega)];exact fun k hk hk'=>old b _ (AaT hb) (by omega) k hk' hk
  ·rw [if_neg h1];by_cases h2:i=b
   ·subst h2;rw [if_pos rfl];exact old a _ (AaT ha) (by omega)
   ·rw [if_neg h2];exact AaV.1 st.dis a b ha hb hab
theorem StB.pick(st:StB B H0 H ps)(is:List Nat)(hn:is.Nodup):StB B H0 H (is.filterMap fun i=>ps[i]?):=by
 have hm:∀r,r∈is.filterMap (fun i=>ps[i]?)→r∈ps:=fun r hr=>by
  obtain⟨i,_,hi⟩:=List.mem_filterMap.1 hr;exact AaU hi
 refine⟨st.old,st.lt0,st.size,fun r hr=>st.oks r (hm r hr),fun r hr=>st.rng r (hm r hr),?_⟩;rw [List.pairwise_filterMap];refine hn.imp ?_;intro i j hij a ha b hb k hk hk';have hil:=(AaS.1 ha).1;have hjl:=(AaS.1 hb).1;have e1:=(AaS.1 ha).2;have e2:=(AaS.1 hb).2;rcases Ad9 hij with h | h
 ·exact AaV.1 st.dis i j hil hjl h k (by rw [e1];exact hk) (by rw [e2];exact hk')
 ·exact AaV.1 st.dis j i hjl hil h k (by rw [e2];exact hk') (by rw [e1];exact hk)
theorem StB.say(st:StB B H0 H ps)(i:Nat)(hp:ps[i]? =some p)(q:Pc)(hq:q.ok H)(hf:∀k,q.foot k→p.foot k):StB B H0 H (ps.set i q):=
 st.upd i hp (Agr.refl _ _) q hq (fun k hk=>.inl (hf k hk)) (fun k hk=>(st.in_ i hp (hf k hk)).2) (AcT _)
theorem St.ge(st:St H0 H ps)(i:Nat)(hp:ps[i]? =some p){k:Nat}(hk:p.foot k):H0.size≤k:=by
 have:=(st.in_ i hp hk).1;unfold Old at this;omega
def pJ(p q:Pc):Pc:=⟨fun k=>p.foot k∨q.foot k,fun H=>p.ok H∧q.ok H,fun h hp=>⟨p.fr (h.mono fun _ hk=>.inl hk) hp.1,q.fr (h.mono fun _ hk=>.inr hk) hp.2⟩⟩
theorem StB.join(st:StB B H0 H ps)(i j:Nat)(hp:ps[i]? =some p)(hq:ps[j]? =some q)(hij:i<j):StB B H0 H ((ps.eraseIdx j).set i (pJ p q)):=by
 have hil:=(AaS.1 hp).1;have hjl:=(AaS.1 hq).1;have hmp:=AaU hp;have hmq:=AaU hq;have from_:∀(a:Nat) (r:Pc),((ps.eraseIdx j).set i (pJ p q))[a]? =some r→(a=i∧r=pJ p q)∨(a≠i∧∃b,b≠i∧b≠j∧ps[b]? =some r∧b=if a<j then a else a+1):=by
  intro a r hr;by_cases ha:i=a
  ·subst ha;rw [AbD (by rw [List.length_eraseIdx];split<;>omega)]at hr;cases hr;exact .inl ⟨rfl,rfl⟩
  ·rw [AbM ha,List.getElem?_eraseIdx]at hr;refine .inr ⟨Ne.symm ha,if a<j then a else a+1,?_,?_,?_,rfl⟩
   ·split<;>omega
   ·split<;>omega
   ·split at hr
    ·rename_i h;rw [if_pos h];exact hr
    ·rename_i h;rw [if_neg h];exact hr
 have dis:∀(a b:Nat) (r s:Pc),a≠b→ps[a]? =some r→ps[b]? =some s→Dis r s:=by
  intro a b r s hab hr hs k hk hk';have hal:=(AaS.1 hr).1;have hbl:=(AaS.1 hs).1;have e1:=(AaS.1 hr).2;have e2:=(AaS.1 hs).2;rcases Ad9 hab with h | h
  ·exact AaV.1 st.dis a b hal hbl h k (by rw [e1];exact hk) (by rw [e2];exact hk')
  ·exact AaV.1 st.dis b a hbl hal h k (by rw [e2];exact hk') (by rw [e1];exact hk)
 refine⟨st.old,st.lt0,st.size,fun r hr=>?_,fun r hr k hk=>?_,?_⟩
 ·obtain⟨a,ha⟩:=Ad7 hr;rcases from_ a r ha with⟨_,rfl⟩ | ⟨_,b,_,_,hb,_⟩
  ·exact⟨st.oks p hmp,st.oks q hmq⟩
  ·exact st.oks r (AaU hb)
 ·obtain⟨a,ha⟩:=Ad7 hr;rcases from_ a r ha with⟨_,rfl⟩ | ⟨_,b,_,_,hb,_⟩
  ·rcases hk with hk | hk
   ·exact st.rng p hmp k hk
   ·exact st.rng q hmq k hk
  ·exact st.rng r (AaU hb) k hk
 ·rw [AaV];intro a b ha hb hab k hk hk';have ga:=AaT ha;have gb:=AaT hb;rcases from_ a _ ga with⟨h1,h2⟩ | ⟨h1,a',h3,h4,h5,h6⟩<;>rcases from_ b _ gb with⟨h1',h2'⟩ | ⟨h1',b',h3',h4',h5',h6'⟩
  ·omega
  ·rw [h2]at hk;rcases hk with hk | hk
   ·exact dis i b' p _ (Ne.symm h3') hp h5' k hk hk'
   ·exact dis j b' q _ (Ne.symm h4') hq h5' k hk hk'
  ·rw [h2']at hk';rcases hk' with hk' | hk'
   ·exact dis a' i _ p h3 h5 hp k hk hk'
   ·exact dis a' j _ q h4 h5 hq k hk hk'
  ·refine dis a' b' _ _ ?_ h5 h5' k hk hk';rw [h6,h6'];split<;>split<;>omega
end
def pB(e:TypeId)(b:Nat)(l:List Value):Pc:=⟨fun k=>k=b,fun H=>Blk H b e l,fun h hp=>hp.agr h rfl⟩
section
variable{B:Nat→Prop}{H0 H H':Aa}{ps:List Pc}{e:TypeId}{b:Nat}{l:List Value}
theorem StB.box(st:StB B H0 H ps)(hb:b=H.size)(hs:H'.size=b+1)(hk:Blk H' b e l)(ha:Agr (fun k=>k<b) H H'):StB B H0 H' (ps++[pB e b l]):=by
 subst hb;exact st.add (ha.mono fun k hk=>hk) _ hk fun k hk=>by have:k=H.size:=hk;omega
theorem StB.skip(st:StB B H0 H ps)(hb:b=H.size)(ha:Agr (fun k=>k<b) H H'):StB B H0 H' ps:=by
 subst hb;exact st.call (ha.mono fun k hk=>hk)
theorem StB.blk(st:StB B H0 H ps)(i:Nat)(hp:ps[i]? =some (pB e b l)):Blk H b e l:=st.at_ i hp
theorem AZ{P:Program}{t o:Nat}{v:Value}{K:Aa→Prop}(st:StB B H0 H ps)(i:Nat)(ht:Cb P t)(hp:ps[i]? =some (pB e b l))(ho:o<l.length)(hv:v.oneCell'=true)
  (k:∀H',StB B H0 H' (ps.set i (pB e b (l.set o v)))→K H'):CY P (Instr.storeAt t (.pointer (some ⟨b,o,none⟩)) v) H K:=by
 refine VC.st1 ht (st.at_ i hp) ho hv ?_;intro H' hb' ha' hs';exact k H' (st.upd i hp (ha'.mono fun k hk hkb=>hk.2 hkb) _ hb' (fun k hk=>.inl hk) (fun k hk=>by rw [hs'];exact(st.in_ i hp hk).2) (by omega))
theorem AI{P:Program}{t o:Nat}{cs:List Value}{K:Aa→Prop}(st:StB B H0 H ps)(i:Nat)(ht:(P.info? t).map (·.size)=some cs.length)(hp:ps[i]? =some (pB e b l))(ho:o+cs.length≤l.length)(hv:cs.all (·.oneCell')=true)
  (k:∀H',StB B H0 H' (ps.set i (pB e b (Ai l o cs)))→K H'):CY P (Instr.storeAt t (.pointer (some ⟨b,o,none⟩)) (.agg cs.toArray)) H K:=by
 refine VC.stN ht (st.at_ i hp) ho hv ?_;intro H' hb' ha' hs';exact k H' (st.upd i hp (ha'.mono fun k hk hkb=>hk.2 hkb) _ hb' (fun k hk=>.inl hk) (fun k hk=>by rw [hs'];exact(st.in_ i hp hk).2) (by omega))
end
section
variable{α:Type}
def pN(T:Ty α)(S:Nat→Prop)(e:TypeId)(a:Option Addr)(n cap:Nat)(xs:List α):Pc where
 foot k:=slB (.slice a n cap) k∨S k
 ok H:=SlO T S H 0 e (.slice a n cap) xs∧∀k,S k→¬slB (.slice a n cap) k
 fr h hp:=⟨hp.1.agr h (fun _ hb=>.inl hb) (fun _ hb=>.inr hb),hp.2⟩
def none_(_:Nat):Prop:=False
abbrev pS(T:Ty α)(e:TypeId)(a:Option Addr)(n cap:Nat)(xs:List α):Pc:=pN T none_ e a n cap xs
variable{T:Ty α}{S:Nat→Prop}{e:TypeId}{a:Option Addr}{n cap:Nat}{xs:List α}{B:Nat→Prop}{H0 H H':Aa}{ps:List Pc}
theorem SlO.hull{lo:Nat}{v:Value}(h:SlO T S H lo e v xs):∃a cap,v= .slice a xs.length cap:=by
 obtain⟨cs,⟨h0,h1⟩,h2⟩:=h;rcases h1 with⟨rfl,h1⟩ | ⟨b,cap,l,rfl,h4,h5,h6,h7,h8,h9⟩
 ·exact⟨none,0,by rw [h1]⟩
 ·exact⟨_,_,rfl⟩
theorem SlO.nlen{lo:Nat}(h:SlO T S H lo e (.slice a n cap) xs):n=xs.length:=by
 obtain⟨a',cap',e⟩:=h.hull;injection e
theorem SlO.up{lo:Nat}{v:Value}(h:SlO T S H 0 e v xs)(hl:∀b,slB v b→lo≤b):SlO T S H lo e v xs:=by
 obtain⟨cs,⟨h0,h1⟩,h2⟩:=h;refine⟨cs,⟨h0,?_⟩,h2⟩;rcases h1 with h1 | ⟨b,cap,l,rfl,r⟩
 ·exact .inl h1
 ·exact .inr ⟨b,cap,l,rfl,hl b ⟨_,_,_,rfl⟩,r.2⟩
theorem St.own(st:St H0 H ps)(i:Nat)(hp:ps[i]? =some (pN T S e a n cap xs)):SlO T S H H0.size e (.slice a n cap) xs:=
 (st.at_ i hp).1.up fun b hb=>st.ge i hp (.inl hb)
theorem StB.len(st:StB B H0 H ps)(i:Nat)(hp:ps[i]? =some (pN T S e a n cap xs)):n=xs.length:=(st.at_ i hp).1.nlen
theorem StB.max(st:StB B H0 H ps)(i:Nat)(hp:ps[i]? =some (pN T S e a n cap xs)):xs.length≤maxLen:=(st.at_ i hp).1.len
theorem StB.adr(st:StB B H0 H ps)(i:Nat)(hp:ps[i]? =some (pN T S e a n cap xs))(hn:0<xs.length):∃b,a=some ⟨b,0,none⟩:=by
 obtain⟨cs,⟨h0,h1⟩,h2⟩:=(st.at_ i hp).1;rcases h1 with⟨h1,h3⟩ | ⟨b,cap,l,h1,r⟩
 ·omega
 ·injection h1 with h1
  exact⟨b,h1⟩
theorem StB.view(st:StB B H0 H ps)(i:Nat)(hp:ps[i]? =some (pN T S e a n cap xs)):SlD T (Old H) H a cap xs:=by
 obtain⟨a',cap',e1,h,-⟩:=(st.at_ i hp).1.view (S':=Old H) (fun b hb=>(st.in_ i hp (.inl hb)).2) (fun b hb=>(st.in_ i hp (.inr hb)).2);injection e1 with e1 e2 e3
 subst e1;subst e3;exact h
theorem ixO{P:Program}{t by_ j:Nat}{z:Value}{k:IntKind}{x:α}{ji:Int}{S0:Nat→Prop}{H2:Aa}{K:Value→Prop}(ht:SlT P t e T.size by_ z)(st:StB B H0 H ps)(i:Nat)(hp:ps[i]? =some (pN T S e a n cap xs))
  (hx:xs[j]? =some x) (hj:ji=(j:Int)) (hk:∀b o c,Old H b→AX H b o c→T.rep (Old H) H c x→K (.pointer (some ⟨b,o,none⟩))):AJ P (Instr.indexAt t (.slice a n cap) (.int k ji)) S0 H2 K:=by
 have h:=st.view i hp;have hn:=st.len i hp;obtain⟨b,o,c,rfl,h1,h2,h3⟩:=h.get hx;subst hj;have hi:=(AaS.1 hx).1;exact ix ht (by omega) (by omega) (by simpa using hk b _ c h1 h2 h3)
theorem J7{P:Program}{t b o j:Nat}{v:Value}{x:α}{K:Aa→Prop}(st:StB B H0 H ps)(i:Nat)(ht:Cb P t)(hp:ps[i]? =some (pN T S t (some ⟨b,0,none⟩) n cap xs))(hsz:T.size=1)(ho:o=j)(hj:j<xs.length)
  (hv:v.oneCell'=true) (hr:∀H',Agr S H H'→T.rep S H' [v] x) (k:∀H',StB B H0 H' (ps.set i (pN T S t (some ⟨b,0,none⟩) n cap (xs.set j x)))→K H'):CY P (Instr.storeAt t (.pointer (some ⟨b,o,none⟩)) v) H K:=by
 subst ho;have hok:=st.at_ i hp;obtain⟨-,-,-,l,hblk,hlen,-,hput⟩:=hok.1.placeS hj;rw [hsz,Nat.mul_one]at hlen hput;refine VC.st1 ht hblk (by omega) hv ?_;intro H' hb' ha' hs';have hSH:Agr S H H':=ha'.mono fun k hk hkb=>hok.2 k hk (by subst hkb;exact⟨0,n,cap,rfl⟩);have hown:=hput H' [v] x (by rw [S4 (by omega)];exact hb') hSH (hr H' hSH);refine k H' (st.upd i hp (ha'.mono fun k hk hkb=>hk.2 (.inl (by subst hkb;exact⟨0,n,cap,rfl⟩))) _ ⟨hown,hok.2⟩ (fun k hk=>.inl hk) (fun k hk=>by rw [hs'];exact(st.in_ i hp hk).2) (by omega))
theorem stNO{P:Program}{t b o j:Nat}{cs:List Value}{x:α}{K:Aa→Prop}(st:StB B H0 H ps)(i:Nat)(ht:(P.info? t).map (·.size)=some T.size)(hp:ps[i]? =some (pN T S t (some ⟨b,0,none⟩) n cap xs))(ho:o=j*T.size)(hj:j<xs.length)
  (hv:cs.all (·.oneCell')=true) (hr:∀H',Agr S H H'→T.rep S H' cs x) (k:∀H',StB B H0 H' (ps.set i (pN T S t (some ⟨b,0,none⟩) n cap (xs.set j x)))→K H'):CY P (Instr.storeAt t (.pointer (some ⟨b,o,none⟩)) (.agg cs.toArray)) H K:=by
 subst ho;have hok:=st.at_ i hp;have hcl:=T.len (hr H (Agr.refl _ _));obtain⟨-,-,-,l,hblk,hlen,-,hput⟩:=hok.1.placeS hj;refine VC.stN (by rw [hcl];exact ht) hblk (by rw [hcl];exact hlen) hv ?_;intro H' hb' ha' hs';have hSH:Agr S H H':=ha'.mono fun k hk hkb=>hok.2 k hk (by subst hkb;exact⟨0,n,cap,rfl⟩);have hown:=hput H' cs x hb' hSH (hr H' hSH);refine k H' (st.upd i hp (ha'.mono fun k hk hkb=>hk.2 (.inl (by subst hkb;exact⟨0,n,cap,rfl⟩))) _ ⟨hown,hok.2⟩ (fun k hk=>.inl hk) (fun k hk=>by rw [hs'];exact(st.in_ i hp hk).2) (by omega))
theorem StB.new{b:Nat}{l:List Value}(st:StB B H0 H ps)(hb:b=H.size)(hs:H'.size=b+1)(hk:Blk H' b e l)(ha:Agr (fun k=>k<b) H H')(hr:T.reps none_ H' l xs)(hn:n=xs.length)(hm:n≤maxLen):StB B H0 H' (ps++[pS T e (some ⟨b,0,none⟩) n n xs]):=by
 subst hb;refine st.add (ha.mono fun k hk=>hk) _ ⟨SlO.ofBlk (AdK _) hk hr hn hm,fun k hk=>hk.elim⟩ fun k hk=>?_;rcases hk with⟨o,n',c,h⟩ | h
 ·cases h;omega
 ·exact h.elim
theorem StB.nils(st:StB B H0 H ps)(T:Ty α)(e:TypeId):StB B H0 H (ps++[pS T e none 0 0 []]):=
 st.add (Agr.refl _ _) _ ⟨SlO.nil,fun k hk=>hk.elim⟩ fun k hk=>by
  rcases hk with⟨o,n',c,h⟩ | h
  ·cases h
  ·exact h.elim
theorem StB.got{v:Value}(st:StB B H0 H ps)(ha:Agr (Old H) H H')(h:SlO T none_ H' H.size e v xs):∃a cap,v= .slice a xs.length cap∧StB B H0 H' (ps++[pS T e a xs.length cap xs]):=by
 obtain⟨a,cap,rfl⟩:=h.hull;refine⟨a,cap,rfl,st.add ha _ ⟨h.lower (AdK _),fun k hk=>hk.elim⟩ fun k hk=>?_⟩;rcases hk with hk | hk
 ·exact h.lt hk
 ·exact hk.elim
theorem Ml{P:Program}{t ty q o m cap2 by_:Nat}{z:Value}{ys:List α}{ds:List Value}{K:Value→Aa→Prop}(st:StB B H0 H ps)(i:Nat)(ht:SlT P t e T.size by_ z)(hp:ps[i]? =some (pS T e a n cap xs))
  (hd:AX H q o ds) (hy:T.reps none_ H ds ys) (hm:m=ys.length) (h1:∀u∈ds,u.oneCell'=true) (h63:xs.length+ys.length≤34359738368) (hby:by_≤1024)
  (k:∀a' cap' H',StB B H0 H' (ps.set i (pS T e a' (xs.length+ys.length) cap' (xs++ys)))→Agr (fun k=>k<H.size∧¬slB (.slice a n cap) k) H H'→K (.slice a' (xs.length+ys.length) cap') H'):
  BN P (Builtin.append_ #[t,t] ty [.slice a n cap,.slice (some ⟨q,o,none⟩) m cap2].toArray) H K:=by
 refine CW (T:=T) (S:=none_) (lo:=0) ht (st.at_ i hp).1 (AdK _) (fun k hk=>hk.elim) hd hy hm h1 (by unfold maxLen;omega) (by have:=AdY h63 hby;omega) ?_;intro v' H' hown hagr hsz hfr;obtain⟨a',cap',rfl⟩:=hown.hull;rw [AbH]at hown hfr ⊢;refine k a' cap' H' (st.upd i hp (hagr.mono fun k hk=>⟨hk.1,fun hb=>hk.2 (.inl hb)⟩) _ ⟨hown,fun k hk=>hk.elim⟩ (fun k hk=>?_) (fun k hk=>?_) hsz) hagr
 ·rcases hk with hk | hk
  ·rcases hfr k hk with h | h
   ·exact .inl (.inl h)
   ·exact .inr h
  ·exact hk.elim
 ·rcases hk with hk | hk
  ·exact(hown.lt hk).2
  ·exact hk.elim
theorem Mk{P:Program}{t ty q by_:Nat}{z v:Value}{x:α}{K:Value→Aa→Prop}(st:StB B H0 H ps)(i:Nat)(ht:SlT P t e T.size by_ z)(hp:ps[i]? =some (pS T e a n cap xs))
  (hd:Blk H q e [v]) (hy:T.rep none_ H [v] x) (hv:v.oneCell'=true) (h63:xs.length+1≤34359738368) (hby:by_≤1024)
  (k:∀a' cap' H',StB B H0 H' (ps.set i (pS T e a' (xs.length+1) cap' (xs++[x])))→Agr (fun k=>k<H.size∧¬slB (.slice a n cap) k) H H'→K (.slice a' (xs.length+1) cap') H'):
  BN P (Builtin.append_ #[t,t] ty [.slice a n cap,.slice (some ⟨q,0,none⟩) 1 1].toArray) H K:=
 Ml (ys:=[x]) st i ht hp (hd.cells (fun j v hv=>by simpa using hv)) (Ty.reps_one hy) rfl (fun u hu=>by cases AbY.1 hu;exact hv) (by simpa using h63) hby k
end
section
variable{α:Type}{T:Ty α}{B:Nat→Prop}{H0 H H1:Aa}{ps:List Pc}{e te:TypeId}{nb:Nat}{vs:List Value}{xs:List (List α)}
theorem Tab.hold{S':Nat→Prop}{lo:Nat}(h:Tab T none_ H lo e nb te vs xs)(k:Agr S' H H1)(hn:S' nb)(hb:∀(i:Nat) (v:Value),vs[i]? =some v→∀j,slB v j→S' j):Tab T none_ H1 lo e nb te vs xs:=
 ⟨h.len,h.blk.agr k hn,h.nlo,fun i v x hv hx=>(h.own i v x hv hx).agr k (fun b hb'=>hb i v hv b hb') (fun b hb=>hb.elim),h.apart⟩
def pT(T:Ty α)(e te:TypeId)(nb:Nat)(vs:List Value)(xs:List (List α)):Pc where
 foot k:=k=nb∨∃(i:Nat) (v:Value),vs[i]? =some v∧slB v k
 ok H:=Tab T none_ H (nb+1) e nb te vs xs
 fr h hp:=hp.hold h (.inl rfl) fun i v hv j hj=>.inr ⟨i,v,hv,hj⟩
theorem StB.tab(st:StB B H0 H ps)(i:Nat)(hp:ps[i]? =some (pT T e te nb vs xs)):Tab T none_ H (nb+1) e nb te vs xs:=st.at_ i hp
theorem StB.tabNew{n:Nat}(st:StB B H0 H ps)(T:Ty α)(e:TypeId)(hb:nb=H.size)(hs:H1.size=nb+1)(hk:Blk H1 nb te (Ab8 n (.slice none 0 0)))(ha:Agr (fun k=>k<nb) H H1):StB B H0 H1 (ps++[pT T e te nb (Ab8 n (.slice none 0 0)) (Ab8 n [])]):=by
 subst hb;refine st.add (ha.mono fun k hk=>hk) _ (Tab.new hk (Nat.lt_succ_self _)) fun k hk=>?_;rcases hk with rfl | ⟨i,v,hv,hk⟩
 ·omega
 ·rw [AcQ]at hv;split at hv
  ·cases hv;obtain⟨o,n,c,h⟩:=hk;cases h
  ·cases hv
theorem StB.row(st:StB B H0 H ps)(i:Nat)(hp:ps[i]? =some (pT T e te nb vs xs)){t:Nat}{x:List α}(hx:xs[t]? =some x):∃a cap,vs[t]? =some (.slice a x.length cap)∧SlD T (Old H) H a cap x:=by
 have tab:=st.tab i hp;have ht:=(AaS.1 hx).1;obtain⟨v,x',hv,hx',hown⟩:=tab.get ht;rw [hx]at hx';cases hx';obtain⟨a,cap,rfl,hd,-⟩:=hown.view (S':=Old H) (fun b hb=>(hown.lt hb).2) (fun _ f=>f.elim);exact⟨a,cap,hv,hd⟩
theorem StB.tcell(st:StB B H0 H ps)(i:Nat)(hp:ps[i]? =some (pT T e te nb vs xs)){t o:Nat}{v:Value}(hv:vs[t]? =some v)(ho:o=t):VC.cell H nb o=some v:=by
 subst ho;rw [(st.tab i hp).blk.cell];exact hv
structure Mid(T:Ty α)(B:Nat→Prop)(H0 H H1:Aa)(ps:List Pc)(i:Nat)(e te:TypeId)(nb:Nat)(vs:List Value)(xs:List (List α))(t:Nat)(v':Value)(x':List α):Prop where
 st:StB B H0 H ps
 hp:ps[i]? =some (pT T e te nb vs xs)
 own:SlO T none_ H1 (nb+1) e v' x'
 ex:∃v,vs[t]? =some v∧Agr (fun k=>k<H.size∧¬slB v k) H H1∧∀k,slB v' k→slB v k∨H.size≤k
 le:H.size≤H1.size
theorem appT{P:Program}{tt ty q by_ t:Nat}{z w:Value}{a:Option Addr}{n cap:Nat}{x:List α}{y:α}{K:Value→Aa→Prop}(st:StB B H0 H ps)(i:Nat)(ht:SlT P tt e T.size by_ z)(hp:ps[i]? =some (pT T e te nb vs xs))(hv:vs[t]? =some (.slice a n cap))(hx:xs[t]? =some x)
  (hd:Blk H q e [w]) (hy:T.rep none_ H [w] y) (hw:w.oneCell'=true) (h63:x.length+1≤34359738368) (hby:by_≤1024)
  (k:∀a' cap' H1,Mid T B H0 H H1 ps i e te nb vs xs t (.slice a' (x.length+1) cap') (x++[y])→K (.slice a' (x.length+1) cap') H1):BN P (Builtin.append_ #[tt,tt] ty [.slice a n cap,.slice (some ⟨q,0,none⟩) 1 1].toArray) H K:=by
 have tab:=st.tab i hp;have hown:=tab.own t _ _ hv hx;refine CW (T:=T) (S:=none_) (lo:=nb+1) (ys:=[y]) ht hown tab.blk.lt (fun k hk=>hk.elim) (hd.cells (fun j v hv=>by simpa using hv)) (Ty.reps_one hy) rfl (fun u hu=>by cases AbY.1 hu;exact hw) (by unfold maxLen;simp only [AcM];omega) (by have:=AdY h63 hby;simp only [AcM];omega) ?_;intro v' H1 hown1 hagr hsz hfr;obtain⟨a',cap',rfl⟩:=hown1.hull;rw [AbH,AcM]at hown1 hfr ⊢;exact k a' cap' H1 ⟨st,hp,hown1,⟨_,hv,hagr,hfr⟩,hsz⟩
theorem stT{P:Program}{i t o:Nat}{v':Value}{x':List α}{K:Aa→Prop}(m:Mid T B H0 H H1 ps i e te nb vs xs t v' x')(ht:Cb P te)(ho:o=t)
  (k:∀H2,StB B H0 H2 (ps.set i (pT T e te nb (vs.set t v') (xs.set t x')))→K H2):CY P (Instr.storeAt te (.pointer (some ⟨nb,o,none⟩)) v') H1 K:=by
 subst ho;obtain⟨v,hv,hagr,hfr⟩:=m.ex;have st:=m.st;have tab:=st.tab i m.hp;have hol:o<vs.length:=(AaS.1 hv).1;have hox:o<xs.length:=by rw [←tab.len];exact hol
 obtain⟨x,hx⟩:∃x,xs[o]? =some x:=⟨xs[o],AaT hox⟩;have hvo:=tab.own o v x hv hx;have nvb:¬slB v nb:=fun h=>by have:=(hvo.lt h).1;omega
 have hblk:=tab.blk.agr hagr ⟨tab.blk.lt,nvb⟩;refine VC.st1 ht hblk hol m.own.one ?_;intro H2 hb2 ha2 hs2;have htab:Tab T none_ H2 (nb+1) e nb te (vs.set o v') (xs.set o x'):=tab.push hv m.own hagr hfr hb2 ha2 (fun k hk=>hk.elim);have hle:=m.le;have hlt2:∀(j:Nat) (w:Value),(vs.set o v')[j]? =some w→∀k,slB w k→k<H2.size:=fun j w hw k hk=>by
  have hjl:=(AaS.1 hw).1;have:j<(xs.set o x').length:=by rw [←htab.len];exact hjl
  exact((htab.own j w _ hw (AaT this)).lt hk).2
 refine k H2 (st.upd i m.hp (H':=H2) ?_ _ htab ?_ ?_ (by omega))
 ·exact(hagr.mono fun k hk=>⟨hk.1,fun hb=>hk.2 (.inr ⟨o,v,hv,hb⟩)⟩).trans (ha2.mono fun k hk hkb=>hk.2 (.inl hkb))
 ·intro k hk;rcases hk with rfl | ⟨j,w,hw,hk⟩
  ·exact .inl (.inl rfl)
  ·by_cases hj:o=j
   ·subst hj;rw [AbD hol]at hw;cases hw;rcases hfr k hk with h | h
    ·exact .inl (.inr ⟨o,v,hv,h⟩)
    ·exact .inr h
   ·rw [AbM hj]at hw;exact .inl (.inr ⟨j,w,hw,hk⟩)
 ·intro k hk;rcases hk with rfl | ⟨j,w,hw,hk⟩
  ·exact htab.blk.lt
  ·exact hlt2 j w hw k hk
theorem StB.tview(st:StB B H0 H ps)(i:Nat)(hp:ps[i]? =some (pT T e te nb vs xs))(hm:xs.length≤maxLen):SlD (tSl T) (Old H) H (some ⟨nb,0,none⟩) xs.length xs:=
 (st.tab i hp).view rfl hm (fun k _ hk=>hk) (fun _ f=>f.elim)
end
end Go.VC
