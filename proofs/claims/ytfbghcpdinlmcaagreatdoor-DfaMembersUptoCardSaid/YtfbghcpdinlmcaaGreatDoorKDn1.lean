/- Parts of the proof: VBase, VHeap, VTy, VOps, VFacts, PClass, PNfa1 -/
import Derived.OrdersHeld
import Derived.Deep.Quiet
import Derived.StillTail
import Derived.Tactics
import Derived.NoCompiler
import Derived.WalkKit
import Derived.Deep.MidRow
import Derived.Deep.AppendSrc
import Derived.DeepKeys
import Derived.Test.YtfbghcpdinlmcaaGreatDoorProg
set_option maxHeartbeats 64000000
open Array renaming toArray_toList → AaA, toList_map → AaB, getElem?_eq_some_iff → AaD, map → AaI, replicate → AaQ, ext' → Ab0, getElem?_eq_getElem → Ab1, getElem?_eq_none → Ab5, getElem?_modify → Ab9
open BitVec renaming eq_of_getLsbD_eq → AaL, getLsbD_or → AaZ, ofInt → Ab4, getLsbD_twoPow → AbB, ofInt_natCast → AbD, twoPow → AbF, toNat_ofNat → AbJ
open Bool renaming and_eq_true → Aa5, false_eq_true → Aa7, not_eq_true' → AaX, or_eq_true → AbR, true_and → AbW
open Int renaming reducePow → AaP, natCast_inj → AbU
open List renaming getD_eq_getElem?_getD → Aa4, mem_cons → AaC, getElem?_append_right → AaE, getElem?_append_left → AaF, getElem?_eq_some_iff → AaG, rec → AaH, getElem?_eq_getElem → AaJ, length_append → AaK, append_assoc → AaM, map_cons → AaN, range → AaR, eq_nil_of_length_eq_zero → AaV, replicate → AaW, ext_getElem? → AaY, length_cons → Ab3, set_getElem_self → Ab6, getElem?_eq_none → Ab7, pairwise_cons → AbK, getElem?_set → AbL, length_take → AbQ, length_set → AbS, take_left' → AbT
open Nat renaming noConfusion → Aa0, testBit_lt_two_pow → Aa1, lt_of_lt_of_le → Aa2, or_lt_two_pow → Aa3, mod_eq_of_lt → Aa6, pow_le_pow_right → Aa8, ne_of_beq_eq_false → Aa9, reduceSub → AaO, min_eq_left → AaS, and_two_pow_sub_one_eq_mod → AaT, eq_of_testBit_eq → AaU, beq → Ab2, eq_of_beq_eq_true → Ab8, testBit_or → AbA, mul_le_mul_right → AbC, mod_lt → AbE, testBit_two_pow → AbG, lt_or_ge → AbH, zero_add → AbI, add_mul → AbM, le_refl → AbN, mul_one → AbO, reducePow → AbV
open Option renaming bind_some → AbP
set_option linter.unusedSimpArgs false
set_option linter.unusedVariables false
set_option maxRecDepth 100000
namespace Go.VC
abbrev Aa:=Array Obj
abbrev Fr:=List Value
structure Env(w w':World):Prop where
 os:w'.os=w.os
 tape:w'.tape=w.tape
 output:w'.output=w.output
theorem Env.refl(w:World):Env w w:=⟨rfl,rfl,rfl⟩
theorem Env.trans{a b c:World}(h:Env a b)(k:Env b c):Env a c:=
 ⟨k.os.trans h.os,k.tape.trans h.tape,k.output.trans h.output⟩
def Al(P:Program)(f:FuncId)(args:Array Value)(H:Aa)(R:Value→Aa→Prop):Prop:=
 ∀w:World,w.heap=H→(callFunc f args).run P w= .ok (.enter f args) w∧
  Calls P f args w fun e w'=>∃v,e= .returned v∧Env w w'∧R v w'.heap
theorem Al.mono{P:Program}{f:FuncId}{args:Array Value}{H:Aa}{R R':Value→Aa→Prop}
  (h:Al P f args H R) (hr:∀v H',R v H'→R' v H'):Al P f args H R':=fun w hw=>
 ⟨(h w hw).1,(h w hw).2.mono fun _ _ ⟨v,he,hv,r⟩=>⟨v,he,hv,hr _ _ r⟩⟩
def Agr(S:Nat→Prop)(H H':Aa):Prop:=∀k,S k→H'[k]? =H[k]?
theorem Agr.refl(S:Nat→Prop)(H:Aa):Agr S H H:=fun _ _=>rfl
theorem Agr.trans{S:Nat→Prop}{a b c:Aa}(h:Agr S a b)(k:Agr S b c):Agr S a c:=
 fun i hi=>(k i hi).trans (h i hi)
theorem Agr.mono{S S':Nat→Prop}{a b:Aa}(h:Agr S a b)(hs:∀k,S' k→S k):Agr S' a b:=
 fun i hi=>h i (hs i hi)
structure AH(P:Program)(m:Sem Value)(S:Nat→Prop)(H:Aa)(K:Value→Prop):Prop where
 in_::
 out_:∃v,(∀w:World,Agr S H w.heap→m.run P w= .ok v w)∧K v
structure By(P:Program)(m:Sem Value)(H:Aa)(K:Value→Aa→Prop):Prop where
 in_::
 out_:∀w:World,w.heap=H→∃v w',m.run P w= .ok v w'∧Env w w'∧K v w'.heap
structure C0(P:Program)(m:Sem Unit)(H:Aa)(K:Aa→Prop):Prop where
 in_::
 out_:∀w:World,w.heap=H→∃w',m.run P w= .ok () w'∧Env w w'∧K w'.heap
structure Ag(P:Program)(f:FuncId)(args:Array Value)(H:Aa)(K:Value→Aa→Prop):Prop where
 in_::
 out_:Al P f args H K
structure Ia(P:Program)(f:FuncId)(args:Array Value)(S:Nat→Prop)(H:Aa)(K:Value→Prop):Prop where
 in_::
 out_:∃v,(∀H',Agr S H H'→Al P f args H' fun v' H''=>v'=v∧Agr S H' H'')∧K v
theorem AH.mk{P:Program}{m:Sem Value}{S:Nat→Prop}{H:Aa}{K:Value→Prop}(v:Value)
  (h:∀w:World,Agr S H w.heap→m.run P w= .ok v w) (k:K v):AH P m S H K:=by
 exact⟨⟨v,h,k⟩⟩
theorem By.mk{P:Program}{m:Sem Value}{H:Aa}{K:Value→Aa→Prop}
  (h:∀w:World,w.heap=H→∃v w',m.run P w= .ok v w'∧Env w w'∧K v w'.heap):By P m H K:=by
 exact⟨h⟩
theorem C0.mk{P:Program}{m:Sem Unit}{H:Aa}{K:Aa→Prop}
  (h:∀w:World,w.heap=H→∃w',m.run P w= .ok () w'∧Env w w'∧K w'.heap):C0 P m H K:=by
 exact⟨h⟩
theorem Ag.mk{P:Program}{f:FuncId}{args:Array Value}{H:Aa}{K R:Value→Aa→Prop}
  (h:Al P f args H R) (k:∀v H',R v H'→K v H'):Ag P f args H K:=by
 exact⟨h.mono k⟩
theorem Ia.mk{P:Program}{f:FuncId}{args:Array Value}{S:Nat→Prop}{H:Aa}{K:Value→Prop}(v:Value)
  (h:∀H',Agr S H H'→Al P f args H' fun v' H''=>v'=v∧Agr S H' H'') (k:K v):Ia P f args S H K:=by
 exact⟨⟨v,h,k⟩⟩
def AB(b:Bool)(p q:Prop):Prop:=match b with | true=>p | false=>q
theorem AB.mk{b:Bool}{p q:Prop}(h:b=true→p)(k:b=false→q):AB b p q:=by
 cases b;exact k rfl;exact h rfl
noncomputable def rdK{R:Type}(l:Fr):Nat→(Value→R)→R:=
 AaH (motive:=fun _=>Nat→(Value→R)→R) (fun _ K=>K undef) (fun v _ ih n K=>Nat.casesOn n (K v) fun m=>ih m K) l
noncomputable def wrK{R:Type}(l:Fr):Nat→Value→(Fr→R)→R:=
 AaH (motive:=fun _=>Nat→Value→(Fr→R)→R) (fun _ _ K=>K []) (fun x l ih n v K=>Nat.casesOn n (K (v::l)) fun m=>ih m v fun l'=>K (x::l')) l
noncomputable def evK{R:Type}(fr:Fr)(x:Operand)(K:Value→R):R:=
 match x with
 | .tmp t=>rdK fr t K
 | .const v=>K v
 | .global g=>K (.pointer (some ⟨g,0,none⟩))
 | .func f=>K (.func (.func f) #[] #[])
noncomputable def Gm{R:Type}(fr:Fr)(l:List Operand):(List Value→R)→R:=
 AaH (motive:=fun _=>(List Value→R)→R) (fun K=>K []) (fun x _ ih K=>evK fr x fun v=>ih fun vs=>K (v::vs)) l
noncomputable def C5{R:Type}(dst:Option Tmp)(fr:Fr)(v:Value)(K:Fr→R):R:=
 match dst with
 | none=>K fr
 | some d=>wrK fr d v K
def rd(fr:Fr)(i:Nat):Value:=fr.getD i undef
def evF(fr:Fr):Operand→Value
 | .tmp t=>rd fr t
 | .const v=>v
 | .global g=>.pointer (some ⟨g,0,none⟩)
 | .func f=>.func (.func f) #[] #[]
theorem Dx{R:Type}(K:Value→R):∀(fr:Fr) (i:Nat),rdK fr i K=K (rd fr i)
 | [],_=>rfl
 | _::_,0=>rfl
 | _::l,n+1=>by show rdK l n K=_;rw [Dx K l n];simp [rd]
theorem EC{R:Type}:∀(fr:Fr) (i:Nat) (v:Value) (K:Fr→R),wrK fr i v K=K (fr.set i v)
 | [],_,_,_=>rfl
 | _::_,0,_,_=>rfl
 | x::l,n+1,v,K=>by show wrK l n v (fun l'=>K (x::l'))=_;rw [EC l n v];rfl
theorem GZ{R:Type}(fr:Fr)(x:Operand)(K:Value→R):evK fr x K=K (evF fr x):=by
 cases x<;>first | rfl | exact Dx K fr _
theorem HB{R:Type}(fr:Fr):∀(l:List Operand) (K:List Value→R),Gm fr l K=K (l.map (evF fr))
 | [],_=>rfl
 | x::l,K=>by show evK fr x (fun v=>Gm fr l fun vs=>K (v::vs))=_;simp only [GZ,HB fr l,AaN]
theorem BR{R:Type}(dst:Option Tmp)(fr:Fr)(v:Value)(K:Fr→R):
  C5 dst fr v K=K (match dst with | none=>fr | some d=>fr.set d v):=by
 cases dst with
 | none=>rfl
 | some d=>exact EC fr d v K
structure At(fr:Fr)(a:Act):Prop where
 tmps:a.tmps.toList=fr
 defers:a.defers=[]
theorem At.eval{fr:Fr}{a:Act}(h:At fr a)(x:Operand):a.eval x=evF fr x:=by
 cases x with
 | tmp t=>obtain⟨rfl,_⟩:=h;simp [Act.eval,evF,rd]
 | const v=>rfl
 | global g=>rfl
 | func f=>rfl
theorem At.evalF{fr:Fr}{a:Act}(h:At fr a):a.eval=evF fr:=funext h.eval
theorem At.put{fr:Fr}{a:Act}(h:At fr a)(dst:Option Tmp)(v:Value):
  At (match dst with | none=>fr | some d=>fr.set d v) (a.put dst v):=by
 obtain⟨rfl,h2⟩:=h;cases dst with
 | none=>exact⟨rfl,h2⟩
 | some d=>exact⟨by simp [Act.put],h2⟩
def kEq:IntKind→IntKind→Bool
 | .i8,.i8 | .i16,.i16 | .i32,.i32 | .i64,.i64 | .u8,.u8 | .u16,.u16 | .u32,.u32 | .u64,.u64=>true
 | _,_=>false
theorem XF{a b:IntKind}(h:kEq a b=true):a=b:=by cases a<;>cases b<;>first | rfl | simp [kEq]at h
def MT:BinOp→Value→Value→Option Value
 | .add,.int k a,.int k' b=>match kEq k k' with | true=>some (.int k (k.wrap (a+b))) | false=>none
 | .sub,.int k a,.int k' b=>match kEq k k' with | true=>some (.int k (k.wrap (a - b))) | false=>none
 | .mul,.int k a,.int k' b=>match kEq k k' with | true=>some (.int k (k.wrap (a*b))) | false=>none
 | .eql,.int k a,.int k' b=>match kEq k k' with | true=>some (.bool (a==b)) | false=>none
 | .neq,.int k a,.int k' b=>match kEq k k' with | true=>some (.bool (a != b)) | false=>none
 | .lss,.int k a,.int k' b=>match kEq k k' with | true=>some (.bool (decide (a<b))) | false=>none
 | .leq,.int k a,.int k' b=>match kEq k k' with | true=>some (.bool (decide (a≤b))) | false=>none
 | .gtr,.int k a,.int k' b=>match kEq k k' with | true=>some (.bool (decide (b<a))) | false=>none
 | .geq,.int k a,.int k' b=>match kEq k k' with | true=>some (.bool (decide (b≤a))) | false=>none
 | .eql,.string a,.string b=>some (.bool (a.toList==b.toList))
 | .neq,.string a,.string b=>some (.bool (!(a.toList==b.toList)))
 | _,_,_=>none
theorem BV{P:Program}(op:BinOp)(t:TypeId)(x y:Operand)(k k':IntKind)(a b:Int)(w:World):
  (eqGuard op t x y (.int k a) (.int k' b)).run P w= .ok () w:=by
 cases op<;>simp [eqGuard]
theorem I9{P:Program}(op:BinOp)(t:TypeId)(x y:Operand)(a b:ByteArray)(w:World):
  (eqGuard op t x y (.string a) (.string b)).run P w= .ok () w:=by
 cases op<;>simp [eqGuard]
theorem Oh{P:Program}{op:BinOp}{t:TypeId}{x y:Operand}{a b v:Value}(h:MT op a b=some v)(w:World):
  (do eqGuard op t x y a b;binOp op t a b:Sem Value).run P w= .ok v w:=by
 unfold MT at h;split at h
 all_goals try (split at h)
 all_goals first
  | (cases h;done)
  | (rename_i hk;obtain rfl:=XF hk;cases h;simp [BV,binOp,Op.intArith,Op.intCmp];done)
  | (cases h;simp [I9,binOp,Op.stringOp];done)
def QK:UnOp→Value→Option Value
 | .not,.bool b=>some (.bool (!b))
 | .neg,.int k n=>some (.int k (k.wrap (0 - n)))
 | _,_=>none
theorem QL{P:Program}{op:UnOp}{a v:Value}(h:QK op a=some v)(w:World):(Op.unary op a).run P w= .ok v w:=by
 unfold QK at h;split at h<;>cases h<;>simp [Op.unary,Op.intArith]
noncomputable def S8{R:Type}(fr:Fr)(x:Option Operand)(K:Option Value→R):R:=
 match x with
 | none=>K none
 | some x=>evK fr x fun v=>K (some v)
theorem Rp{R:Type}(fr:Fr)(x:Option Operand)(K:Option Value→R):S8 fr x K=K (x.map (evF fr)):=by
 cases x<;>simp [S8,GZ]
noncomputable def VR{R:Type}(fr:Fr)(l:List (Nat×Operand)):(List (Nat×Value)→R)→R:=
 AaH (motive:=fun _=>(List (Nat×Value)→R)→R) (fun K=>K []) (fun p _ ih K=>evK fr p.2 fun v=>ih fun vs=>K ((p.1,v)::vs)) l
theorem Nj{R:Type}(fr:Fr):∀(l:List (Nat×Operand)) (K:List (Nat×Value)→R),VR fr l K=K (l.map fun(i,x)=>(i,evF fr x))
 | [],_=>rfl
 | (i,x)::l,K=>by show evK fr x (fun v=>VR fr l fun vs=>K ((i,v)::vs))=_;simp only [GZ,Nj fr l,AaN]
def Nv:Option TypeDesc→List Value→Option Value
 | some (.slice _),[.slice _ n _]=>some (.int .i64 n)
 | some .string,[.string s]=>some (.int .i64 s.size)
 | _,_=>none
theorem OI{P:Program}{t ty:TypeId}{vs:List Value}{v:Value}(h:Nv (P.underlying t) vs=some v)(w:World):
  (Builtin.len_ #[t] ty vs.toArray).run P w= .ok v w:=by
 unfold Nv at h;split at h<;>cases h<;>rename_i hu<;>simp [Builtin.len_,run_underlying hu,goInt]
def Lk:Option TypeDesc→Option TypeDesc→Value→Option Value
 | some _,some (.int k),.int _ n=>some (.int k (k.wrap n))
 | some _,some .string,.string s=>some (.string s)
 | _,_,_=>none
theorem MX{P:Program}{s d:TypeId}{x v:Value}(h:Lk (P.underlying s) (P.underlying d) x=some v)(w:World):
  (convert s d x).run P w= .ok v w:=by
 unfold Lk at h;split at h<;>cases h<;>rename_i h1 h2
 ·simp [convert,run_underlying h1,run_underlying h2,Conv.intToInt]
 ·simp [convert,run_underlying h1,run_underlying h2]
def Ma(P:Program)(S:Nat→Prop)(o:Oper)(fr:Fr)(H:Aa)(K:Value→Prop):Prop:=
 match o.op with
 | .move x=>evK fr x K
 | .assign x=>evK fr x K
 | .pick c a b=>evK fr c fun vc=>match vc with
   | .bool b'=>AB b' (evK fr a K) (evK fr b K)
   | _=>False
 | .binOp op t x y _=>evK fr x fun a=>evK fr y fun b=>match MT op a b with
   | some v=>K v
   | none=>AH P (do eqGuard op t x y a b;binOp op t a b) S H K
 | .unOp op _ x=>evK fr x fun a=>match QK op a with
   | some v=>K v
   | none=>AH P (Op.unary op a) S H K
 | .convert s d x=>evK fr x fun a=>match Lk (P.underlying s) (P.underlying d) a with
   | some v=>K v
   | none=>AH P (convert s d a) S H K
 | .extract x i=>evK fr x fun a=>match a with
   | .tuple vs=>match vs.toList[i]? with
     | some v=>K v
     | none=>False
   | _=>False
 | .nilCheck x=>evK fr x fun a=>match a with
   | .pointer (some p)=>K (.pointer (some p))
   | _=>False
 | .makeInterface t x=>evK fr x fun a=>match P.underlying t with
   | some (.interface _)=>False
   | some _=>K (.iface t a)
   | none=>False
 | .makeFunc fn first cap=>Gm fr first.toList fun vs=>Gm fr cap.toList fun us=>K (.func fn vs.toArray us.toArray)
 | .load t a=>evK fr a fun p=>AH P (Instr.loadAt t p) S H K
 | .index t x i=>evK fr x fun a=>evK fr i fun j=>AH P (Instr.index t a j) S H K
 | .indexAddr t x i=>evK fr x fun a=>evK fr i fun j=>AH P (Instr.indexAt t a j) S H K
 | .fieldAddr s x f=>evK fr x fun a=>AH P (Instr.fieldAt s a f) S H K
 | .field t x f=>evK fr x fun a=>AH P (Instr.field t a f) S H K
 | .slice t x lo hi mx=>evK fr x fun a=>S8 fr lo fun l=>S8 fr hi fun h=>S8 fr mx fun m=>AH P (Instr.sliceAt t a l h m) S H K
 | .lookup t x i ok=>evK fr x fun a=>evK fr i fun j=>AH P (Instr.lookup t a j ok) S H K
 | .build t ps=>VR fr ps.toList fun vs=>AH P (Instr.build t vs.toArray) S H K
 | .typeAssert x t a ok=>evK fr x fun v=>AH P (Instr.typeAssert v t a ok) S H K
 | .call {callee:=.builtin .len,args,argTypes}=>Gm fr args.toList fun vs=>
   match argTypes.toList with
   | [t]=>match Nv (P.underlying t) vs with
     | some v=>K v
     | none=>AH P (Builtin.len_ argTypes o.type vs.toArray) S H K
   | _=>AH P (Builtin.len_ argTypes o.type vs.toArray) S H K
 | .call {callee:=.builtin .cap,args,argTypes}=>Gm fr args.toList fun vs=>AH P (Builtin.cap_ argTypes o.type vs.toArray) S H K
 | .call {callee:=.builtin .min,args,argTypes}=>Gm fr args.toList fun vs=>AH P (Builtin.min_ argTypes o.type vs.toArray) S H K
 | .call {callee:=.builtin .max,args,argTypes}=>Gm fr args.toList fun vs=>AH P (Builtin.max_ argTypes o.type vs.toArray) S H K
 | _=>False
def JY(o:Oper):Bool:=
 match o.op with
 | .move _ | .assign _ | .pick .. | .binOp .. | .unOp .. | .convert .. | .extract .. | .nilCheck _ | .makeInterface .. | .makeFunc .. | .load .. | .index ..
 | .indexAddr .. | .fieldAddr .. | .field .. | .slice .. | .lookup .. | .build .. | .typeAssert .. =>true
 | .call {callee:=.builtin .len, .. } | .call {callee:=.builtin .cap, .. } | .call {callee:=.builtin .min, .. } | .call {callee:=.builtin .max, .. }=>true
 | _=>false
theorem AH.out{P:Program}{m:Sem Value}{S:Nat→Prop}{H:Aa}{K:Value→Prop}(h:AH P m S H K):
  ∃v,(∀w:World,Agr S H w.heap→m.run P w= .ok v w)∧K v:=by exact h.out_
theorem Br{P:Program}{m:Sem Value}{v:Value}{w w':World}(h:m.run P w= .ok v w'):
  (do pure (Next.value (←m)):Sem Next).run P w= .ok (.value v) w':=by simp [h]
theorem UZ{P:Program}{m:Sem Unit}{w w':World}(h:m.run P w= .ok () w'):
  (do m;pure Next.skip:Sem Next).run P w= .ok .skip w':=by simp [h]
theorem Ei{P:Program}{S:Nat→Prop}{o:Oper}{fr:Fr}{H:Aa}{K:Value→Prop}(h:Ma P S o fr H K):
  ∃v,(∀w:World,Agr S H w.heap→(execOp (evF fr) o).run P w= .ok (.value v) w)∧K v:=by
 unfold Ma at h;split at h<;>rename_i ho<;>simp only [GZ,HB,Rp,Nj]at h
 all_goals simp only [execOp,ho]
 case h_1=>exact⟨_,fun w _=>by simp,h⟩
 case h_2=>exact⟨_,fun w _=>by simp,h⟩
 case h_3=>
  split at h
  ·rename_i b hb;cases b
   ·exact⟨_,fun w _=>by simp [hb,asBool],h⟩
   ·exact⟨_,fun w _=>by simp [hb,asBool],h⟩
  ·exact h.elim
 case h_4=>
  split at h
  ·rename_i v hv;exact⟨v,fun w _=>Br (Oh hv w),h⟩
  ·obtain⟨v,hv,k⟩:=h.out;exact⟨v,fun w hw=>Br (hv w hw),k⟩
 case h_5=>
  split at h
  ·rename_i v hv;exact⟨v,fun w _=>Br (QL hv w),h⟩
  ·obtain⟨v,hv,k⟩:=h.out;exact⟨v,fun w hw=>Br (hv w hw),k⟩
 case h_6=>
  split at h
  ·rename_i v hv;exact⟨v,fun w _=>Br (MX hv w),h⟩
  ·obtain⟨v,hv,k⟩:=h.out;exact⟨v,fun w hw=>Br (hv w hw),k⟩
 case h_7=>
  split at h
  ·split at h
   ·rename_i vs hvs _ v hv;refine⟨v,fun w _=>Br ?_,h⟩;simp at hv;simp [Instr.extract,hvs,hv]
   ·exact h.elim
  ·exact h.elim
 case h_8=>
  split at h
  ·rename_i p hp;exact⟨_,fun w _=>by simp [hp],h⟩
  ·exact h.elim
 case h_9=>
  split at h
  ·exact h.elim
  ·rename_i d hn hd;refine⟨_,fun w _=>Br ?_,h⟩;cases d<;>first | (exact(hn _ rfl).elim) | simp [Instr.makeInterface,run_underlying hd]
  ·exact h.elim
 case h_10=>
  refine⟨_,fun w _=>Br ?_,h⟩;simp only [←AaB,AaA];simp [Instr.makeFunc]
 all_goals try
  obtain⟨v,hv,k⟩:=h.out;exact⟨v,fun w hw=>Br (hv w hw),k⟩
 case h_18=>
  obtain⟨v,hv,k⟩:=h.out;simp only [←AaB,AaA]at hv;exact⟨v,fun w hw=>Br (hv w hw),k⟩
 all_goals simp only [←AaB,AaA]at h
 case h_20=>
  split at h
  ·rename_i t ht;split at h
   ·rename_i v hv;refine⟨v,fun w _=>Br (m:=Builtin.len_ _ _ _) ?_,h⟩;have e:∀{A:Array TypeId},A.toList=[t]→A= #[t]:=fun h=>Ab0 (by simpa using h);obtain rfl:=e ht;have h3:=OI (ty:=o.type) hv w;rwa [AaA]at h3
   ·obtain⟨v,hv,k⟩:=h.out;exact⟨v,fun w hw=>Br (m:=Builtin.len_ _ _ _) (hv w hw),k⟩
  ·obtain⟨v,hv,k⟩:=h.out;exact⟨v,fun w hw=>Br (m:=Builtin.len_ _ _ _) (hv w hw),k⟩
 case h_21=>
  obtain⟨v,hv,k⟩:=h.out;exact⟨v,fun w hw=>Br (m:=Builtin.cap_ _ _ _) (hv w hw),k⟩
 case h_22=>
  obtain⟨v,hv,k⟩:=h.out;exact⟨v,fun w hw=>Br (m:=Builtin.min_ _ _ _) (hv w hw),k⟩
 case h_23=>
  obtain⟨v,hv,k⟩:=h.out;exact⟨v,fun w hw=>Br (m:=Builtin.max_ _ _ _) (hv w hw),k⟩
 all_goals exact h.elim
structure Ib(P:Program)(t:TypeId)(x:Value)(name:String)(args:Array Value)(H:Aa)(K:Value→Aa→Prop):Prop where
 in_::
 out_:∃f as1,(∀w:World,w.heap=H→(callMethod (.iface t x) name args).run P w= .ok (.enter f as1) w)∧Al P f as1 H K
def QY(P:Program)(q:Bool)(S:Nat→Prop)(f:Value)(args:List Value)(H:Aa)(K:Value→Aa→Prop):Prop:=
 match f with
 | .func (.func g) first cap=>match q with
   | true=>Ia P g (first.toList++args++cap.toList).toArray S H fun v=>K v H
   | false=>Ag P g (first.toList++args++cap.toList).toArray H K
 | _=>False
def X0(P:Program)(o:Oper)(fr:Fr)(H:Aa)(K:Value→Aa→Prop):Prop:=
 match o.op with
 | .alloc t=>By P (Instr.alloc t true (.tuple #[])) H K
 | .box t x=>evK fr x fun v=>By P (Instr.box t v) H K
 | .buildSlice t n ps=>VR fr ps.toList fun vs=>By P (Instr.buildSlice t n vs.toArray) H K
 | .store t a x=>evK fr a fun p=>evK fr x fun v=>C0 P (Instr.storeAt t p v) H fun H'=>K undef H'
 | .makeMap t r=>S8 fr r fun v=>By P (Instr.makeMap t v) H K
 | .makeSlice t l c=>evK fr l fun n=>evK fr c fun m=>By P (Instr.makeSlice t n m) H K
 | .mapUpdate t m k x=>evK fr m fun r=>evK fr k fun j=>evK fr x fun v=>C0 P (Instr.mapUpdate t r j v) H fun H'=>K undef H'
 | .insert t m k x=>evK fr m fun r=>evK fr k fun j=>evK fr x fun v=>C0 P (Instr.mapUpdate t r j v) H fun H'=>K undef H'
 | .mapEntry t m k=>evK fr m fun r=>evK fr k fun j=>By P (Instr.mapEntry t r j) H K
 | .entryStore t m s x=>evK fr m fun r=>evK fr s fun j=>evK fr x fun v=>C0 P (Instr.entryStore t r j v) H fun H'=>K undef H'
 | .range t x=>evK fr x fun v=>By P (Instr.range t v) H K
 | .next it s=>evK fr it fun v=>By P (Instr.next v s o.type) H K
 | .entry it=>evK fr it fun v=>By P (Instr.entry v) H K
 | .convert s d x=>evK fr x fun v=>By P (convert s d v) H K
 | .call {callee:=.builtin .append,args,argTypes}=>Gm fr args.toList fun vs=>By P (Builtin.append_ argTypes o.type vs.toArray) H K
 | .call {callee:=.builtin .copy,args,argTypes}=>Gm fr args.toList fun vs=>By P (Builtin.copy_ argTypes o.type vs.toArray) H K
 | .call {callee:=.builtin .delete,args,argTypes}=>Gm fr args.toList fun vs=>By P (Builtin.delete_ argTypes o.type vs.toArray) H K
 | .call {callee:=.builtin .clear,args,argTypes}=>Gm fr args.toList fun vs=>By P (Builtin.clear_ argTypes o.type vs.toArray) H K
 | .call {callee:=.invoke r name,args, .. }=>evK fr r fun v=>Gm fr args.toList fun vs=>match v with
   | .iface t x=>Ib P t x name vs.toArray H K
   | _=>False
 | .call {callee:=.value f,args, .. }=>evK fr f fun g=>Gm fr args.toList fun vs=>QY P false (fun _=>True) g vs H K
 | _=>False
def F4(P:Program)(o:Oper):Bool:=
 match o.op with
 | .convert s d _=>match P.underlying s,P.underlying d with
   | some (.slice _),_=>false
   | some .string,some (.slice _)=>false
   | _,_=>true
 | _=>true
def opK(P:Program)(q:Bool)(S:Nat→Prop)(o:Oper)(fr:Fr)(H:Aa)(K:Value→Aa→Prop):Prop:=
 match JY o&&F4 P o with
 | true=>Ma P S o fr H fun v=>K v H
 | false=>match q with
   | true=>match o.op with
     | .call {callee:=.value f,args, .. }=>evK fr f fun g=>Gm fr args.toList fun vs=>QY P true S g vs H K
     | _=>False
   | false=>X0 P o fr H K
theorem By.out{P:Program}{m:Sem Value}{H:Aa}{K:Value→Aa→Prop}(h:By P m H K):
  ∀w:World,w.heap=H→∃v w',m.run P w= .ok v w'∧Env w w'∧K v w'.heap:=by exact h.out_
theorem C0.out{P:Program}{m:Sem Unit}{H:Aa}{K:Aa→Prop}(h:C0 P m H K):
  ∀w:World,w.heap=H→∃w',m.run P w= .ok () w'∧Env w w'∧K w'.heap:=by exact h.out_
theorem Ag.out{P:Program}{f:FuncId}{args:Array Value}{H:Aa}{K:Value→Aa→Prop}(h:Ag P f args H K):Al P f args H K:=by
 exact h.out_
theorem Ia.out{P:Program}{f:FuncId}{args:Array Value}{S:Nat→Prop}{H:Aa}{K:Value→Prop}(h:Ia P f args S H K):
  ∃v,(∀H',Agr S H H'→Al P f args H' fun v' H''=>v'=v∧Agr S H' H'')∧K v:=by exact h.out_
theorem Ib.out{P:Program}{t:TypeId}{x:Value}{name:String}{args:Array Value}{H:Aa}{K:Value→Aa→Prop}(h:Ib P t x name args H K):
  ∃f as1,(∀w:World,w.heap=H→(callMethod (.iface t x) name args).run P w= .ok (.enter f as1) w)∧Al P f as1 H K:=by exact h.out_
theorem Ib.mk{P:Program}{t:TypeId}{x:Value}{name:String}{args:Array Value}{H:Aa}{K R:Value→Aa→Prop}(f:FuncId)(as1:Array Value)
  (hm:∀w:World,(callMethod (.iface t x) name args).run P w= .ok (.enter f as1) w) (h:Al P f as1 H R) (k:∀v H',R v H'→K v H'):Ib P t x name args H K:=by
 exact⟨⟨f,as1,fun w _=>hm w,h.mono k⟩⟩
def P9(P:Program)(o:Oper)(a:Act)(w:World)(K:Value→Aa→Prop):Prop:=
 ∀Q:Exit→Act→World→Prop,o.wp P a w (fun a' w'=>∃v,a'=a.put o.dst v∧Env w w'∧K v w'.heap) Q
theorem L9{P:Program}{o:Oper}{a:Act}{w w':World}{K:Value→Aa→Prop}{v:Value}
  (h:(execOp a.eval o).run P w= .ok (.value v) w') (he:Env w w') (k:K v w'.heap):P9 P o a w K:=by
 intro Q;unfold Oper.wp;rw [h];exact⟨v,rfl,he,k⟩
theorem SQ{P:Program}{o:Oper}{a:Act}{w w':World}{K:Value→Aa→Prop}
  (h:(execOp a.eval o).run P w= .ok .skip w') (he:Env w w') (k:K undef w'.heap):P9 P o a w K:=by
 intro Q;unfold Oper.wp;rw [h];exact⟨undef,rfl,he,k⟩
theorem L8{P:Program}{o:Oper}{a:Act}{w:World}{K:Value→Aa→Prop}{f:FuncId}{args:Array Value}
  (h:(execOp a.eval o).run P w=(callFunc f args).run P w) (k:Al P f args w.heap K):P9 P o a w K:=by
 intro Q;unfold Oper.wp;rw [h,(k w rfl).1];refine(k w rfl).2.mono ?_;rintro e w' ⟨v,rfl,he,hk⟩;exact⟨v,rfl,he,hk⟩
theorem PR{P:Program}{o:Oper}{fr:Fr}{a:Act}{w:World}{K:Value→Aa→Prop}(hat:At fr a)
  (h:X0 P o fr w.heap K):P9 P o a w K:=by
 have he:=hat.evalF;unfold X0 at h;split at h<;>rename_i ho<;>try simp only [GZ,HB,Rp,Nj,←AaB,AaA]at h
 all_goals try (
  obtain⟨v,w',hr,henv,hk⟩:=h.out w rfl;exact L9 (by rw [he];simp only [execOp,ho];exact Br hr) henv hk)
 all_goals try (
  obtain⟨w',hr,henv,hk⟩:=h.out w rfl;exact SQ (by rw [he];simp only [execOp,ho];exact UZ hr) henv hk)
 case h_19=>
  split at h
  ·rename_i t x hx;obtain⟨f,as1,h1,h2⟩:=h.out;refine L8 ?_ h2;rw [he];simp only [execOp,ho,resolve,hx];rw [(h2 w rfl).1,←h1 w rfl];have e1:∀A:Array Value,(#[Value.iface t x]++A)[0]? =some (Value.iface t x):=fun A=>by simp [Array.getElem?_append]
   rename_i args argTypes _;have e2:(AaI (evF fr) args).extract 0 args.size=AaI (evF fr) args:=by
    rw [show args.size=(AaI (evF fr) args).size by simp];exact Array.extract_size
   simp [invoke,e1,e2]
  ·exact h.elim
 case h_20=>
  unfold QY at h;rename_i f' args argTypes;split at h
  ·rename_i g first cap hg
   refine L8 ?_ h.out;rw [he];have e:(first.toList++(AaI (evF fr) args).toList++cap.toList).toArray=first++AaI (evF fr) args++cap:=Ab0 (by simp)
   rw [e];simp only [execOp,ho,resolve,hg,Deferred.ofValue];simp [invoke]
  ·exact h.elim
 all_goals exact h.elim
theorem CR{P:Program}{o:Oper}{fr:Fr}{a:Act}{w:World}{K:Value→Aa→Prop}(hat:At fr a)
  (h:opK P false (fun _=>True) o fr w.heap K):P9 P o a w K:=by
 unfold opK at h;split at h
 ·obtain⟨v,hr,hk⟩:=Ei h;exact L9 (by rw [hat.evalF];exact hr w (Agr.refl _ _)) (Env.refl w) hk
 ·exact PR hat h
def Cls(w0:World)(S:Nat→Prop)(w:World):Prop:=Env w0 w∧Agr S w0.heap w.heap
theorem SP{P:Program}{S:Nat→Prop}{o:Oper}{fr:Fr}{a:Act}{w0:World}{K:Value→Aa→Prop}(hat:At fr a)
  (h:opK P true S o fr w0.heap K):∃v,(∀w,Cls w0 S w→o.quietAt P a (Cls w0 S) w v)∧K v w0.heap:=by
 unfold opK at h;split at h
 ·obtain⟨v,hr,hk⟩:=Ei h;refine⟨v,fun w hw=>?_,hk⟩;unfold Oper.quietAt;rw [hat.evalF,hr w hw.2];exact⟨rfl,rfl⟩
 ·dsimp only at h;split at h
  ·rename_i f args argTypes ho;simp only [GZ,HB,←AaB]at h;unfold QY at h;split at h
   ·rename_i g first cap hg
    obtain⟨v,hv,hk⟩:=h.out;refine⟨v,fun w hw=>?_,hk⟩;obtain⟨h1,h2⟩:=hv w.heap hw.2 w rfl;have h3:(execOp a.eval o).run P w=(callFunc g (first.toList++(AaI (evF fr) args).toList++cap.toList).toArray).run P w:=by
     rw [hat.evalF];have e:(first.toList++(AaI (evF fr) args).toList++cap.toList).toArray=first++AaI (evF fr) args++cap:=Ab0 (by simp)
     rw [e];simp only [execOp,ho,resolve,hg,Deferred.ofValue];simp [invoke]
    unfold Oper.quietAt;rw [h3,h1];refine⟨rfl,h2.mono ?_⟩;rintro e w' ⟨v',rfl,henv,rfl,hh⟩;exact⟨rfl,hw.1.trans henv,hw.2.trans hh⟩
   ·exact h.elim
  ·exact h.elim
def apK(K:Fr→Aa→Prop)(fr:Fr)(H:Aa):Prop:=K fr H
def Nq(P:Program)(q:Bool)(S:Nat→Prop)(o:Oper)(want:Bool)(t:Nat)(fr:Fr)(H:Aa)(K:Fr→Aa→Prop):Prop:=
 rdK fr t fun v=>match v with
  | .bool b=>AB b
    (wrK fr t (.bool true) fun fr1=>match want with
     | true=>opK P q S o fr1 H fun v H'=>C5 o.dst fr1 v fun fr'=>apK K fr' H'
     | false=>C5 o.dst fr1 undef fun fr'=>apK K fr' H)
    (wrK fr t (.bool false) fun fr1=>match want with
     | false=>opK P q S o fr1 H fun v H'=>C5 o.dst fr1 v fun fr'=>apK K fr' H'
     | true=>C5 o.dst fr1 undef fun fr'=>apK K fr' H)
  | .tuple _=>C5 o.dst fr undef fun fr'=>apK K fr' H
  | _=>False
def Ji(P:Program)(q:Bool)(S:Nat→Prop)(all:List Oper)(l:List Oper):Fr→Aa→(Fr→Aa→Prop)→Prop:=
 AaH (motive:=fun _=>Fr→Aa→(Fr→Aa→Prop)→Prop) (fun fr H K=>K fr H) (fun o _ ih fr H K=>
  match o.guard with
  | none=>opK P q S o fr H fun v H'=>C5 o.dst fr v fun fr'=>ih fr' H' K
  | some (j,want)=>match(all[j]?).bind (·.dst)with
    | none=>False
    | some t=>Nq P q S o want t fr H fun fr' H'=>ih fr' H' K) l
theorem M1(P:Program)(q:Bool)(S:Nat→Prop)(all rest:List Oper)(o:Oper)(fr:Fr)(H:Aa)(K:Fr→Aa→Prop):Ji P q S all (o::rest) fr H K=
  (match o.guard with
  | none=>opK P q S o fr H fun v H'=>C5 o.dst fr v fun fr'=>Ji P q S all rest fr' H' K
  | some (j,want)=>match(all[j]?).bind (·.dst)with
    | none=>False
    | some t=>Nq P q S o want t fr H fun fr' H'=>Ji P q S all rest fr' H' K):=rfl
theorem DB{fr:Fr}{t:Nat}{v:Value}(h:rd fr t=v)(hv:v≠undef):fr.set t v=fr:=by
 unfold rd at h;rcases AbH t fr.length with hl | hl
 ·rw [Aa4,AaJ hl]at h;subst h;exact Ab6 hl
 ·rw [Aa4,Ab7 hl]at h;exact absurd h.symm hv
theorem GI{ops:List Oper}{fr:Fr}{a:Act}(hat:At fr a){j t:Nat}(hj:(ops[j]?).bind (·.dst)=some t){b:Bool}(hv:rd fr t= .bool b):
  yielded ops.toArray a.tmps j=some b:=by
 obtain⟨rfl,_⟩:=hat;unfold yielded;have:((ops.toArray[j]?).bind (·.dst))=some t:=by simpa using hj
 rw [this];unfold rd at hv;rw [Aa4]at hv;simp only [AbP];cases h:a.tmps[t]? with
 | none=>simp [h,undef]at hv
 | some v=>simp [h]at hv;simp [hv]
theorem GJ{ops:List Oper}{fr:Fr}{a:Act}(hat:At fr a){j t:Nat}(hj:(ops[j]?).bind (·.dst)=some t){vs:Array Value}(hv:rd fr t= .tuple vs):
  yielded ops.toArray a.tmps j=none:=by
 obtain⟨rfl,_⟩:=hat;unfold yielded;have:((ops.toArray[j]?).bind (·.dst))=some t:=by simpa using hj
 rw [this];unfold rd at hv;rw [Aa4]at hv;simp only [AbP];cases h:a.tmps[t]? with
 | none=>rfl
 | some v=>simp [h]at hv;simp [hv]
theorem I5{P:Program}{all:List Oper}{Q:Exit→Act→World→Prop}:∀(l:List Oper) (fr:Fr) (a:Act) (w:World) (K:Fr→Aa→Prop),At fr a→
  (∀fr' a' w',At fr' a'→Env w w'→K fr' w'.heap→Q .normal a' w')→
  Ji P false (fun _=>True) all l fr w.heap K→wpList P all.toArray Q l a w
 | [],fr,a,w,K,hat,hq,h=>hq fr a w hat (Env.refl w) h
 | o::l,fr,a,w,K,hat,hq,h=>by
   have go:∀(want:Bool),(want=true→P9 P o a w fun v H'=>C5 o.dst fr v fun fr'=>Ji P false (fun _=>True) all l fr' H' K)→
     (want=false→C5 o.dst fr undef fun fr'=>Ji P false (fun _=>True) all l fr' w.heap K)→
     Region.wanted o (yielded all.toArray a.tmps)=want→wpList P all.toArray Q (o::l) a w:=by
    intro want h1 h2 hw;unfold wpList;rw [hw];cases want with
    | true=>
      refine .inl (Oper.wp_mono ?_ (h1 rfl _));rintro a' w' ⟨v,rfl,henv,hk⟩;rw [BR]at hk;exact I5 l _ _ _ K (hat.put o.dst v) (fun fr' a' w'' h1 h2 h3=>hq fr' a' w'' h1 (henv.trans h2) h3) hk
    | false=>
      have h3:=h2 rfl;rw [BR]at h3;exact I5 l _ _ _ K (hat.put o.dst undef) hq h3
   rw [M1]at h;split at h
   ·rename_i hg;exact go true (fun _=>CR hat h) (fun h=>by cases h) (by simp [Region.wanted,hg])
   ·rename_i j want hg;split at h
    ·exact h.elim
    ·rename_i t ht;unfold Nq at h;simp only [apK]at h;rw [Dx]at h;split at h
     ·rename_i b hb;have hy:=GI hat ht hb;have hs:fr.set t (.bool b)=fr:=DB hb (by simp [undef]);cases b<;>cases want<;>simp only [AB,EC,hs]at h
      ·exact go true (fun _=>CR hat h) (fun h=>by cases h) (by simp [Region.wanted,hg,hy])
      ·exact go false (fun h=>by cases h) (fun _=>h) (by simp [Region.wanted,hg,hy])
      ·exact go false (fun h=>by cases h) (fun _=>h) (by simp [Region.wanted,hg,hy])
      ·exact go true (fun _=>CR hat h) (fun h=>by cases h) (by simp [Region.wanted,hg,hy])
     ·rename_i vs hb;exact go false (fun h=>by cases h) (fun _=>h) (by simp [Region.wanted,hg,GJ hat ht hb])
     ·exact h.elim
theorem WP{P:Program}{id:Nat}{l:List Oper}{Q:Exit→Act→World→Prop}{fr:Fr}{a:Act}{w:World}{K:Fr→Aa→Prop}(hat:At fr a)
  (hq:∀fr' a' w',At fr' a'→Env w w'→K fr' w'.heap→Q .normal a' w')
  (h:Ji P false (fun _=>True) l l fr w.heap K):(Code.region id l.toArray false).wp P Q a w:=
 wp_region_lit (I5 l fr a w K hat hq h)
theorem Gx{P:Program}{S:Nat→Prop}{all:List Oper}{w0:World}:∀(l:List Oper) (fr:Fr) (a:Act) (K:Fr→Aa→Prop) (Q:Act→Prop),At fr a→
  (∀fr' a',At fr' a'→K fr' w0.heap→Q a')→
  Ji P true S all l fr w0.heap K→wpQuiet P all.toArray (Cls w0 S) Q l a
 | [],fr,a,K,Q,hat,hq,h=>hq fr a hat h
 | o::l,fr,a,K,Q,hat,hq,h=>by
   have go:∀(want:Bool),(want=true→opK P true S o fr w0.heap fun v H'=>C5 o.dst fr v fun fr'=>Ji P true S all l fr' H' K)→
     (want=false→C5 o.dst fr undef fun fr'=>Ji P true S all l fr' w0.heap K)→
     Region.wanted o (yielded all.toArray a.tmps)=want→wpQuiet P all.toArray (Cls w0 S) Q (o::l) a:=by
    intro want h1 h2 hw;unfold wpQuiet;rw [hw];cases want with
    | true=>
      obtain⟨v,hv,hk⟩:=SP hat (h1 rfl);rw [BR]at hk;exact⟨v,hv,Gx l _ _ K Q (hat.put o.dst v) hq hk⟩
    | false=>
      have h3:=h2 rfl;rw [BR]at h3;exact Gx l _ _ K Q (hat.put o.dst undef) hq h3
   rw [M1]at h;split at h
   ·rename_i hg;exact go true (fun _=>h) (fun h=>by cases h) (by simp [Region.wanted,hg])
   ·rename_i j want hg;split at h
    ·exact h.elim
    ·rename_i t ht;unfold Nq at h;simp only [apK]at h;rw [Dx]at h;split at h
     ·rename_i b hb;have hy:=GI hat ht hb;have hs:fr.set t (.bool b)=fr:=DB hb (by simp [undef]);cases b<;>cases want<;>simp only [AB,EC,hs]at h
      ·exact go true (fun _=>h) (fun h=>by cases h) (by simp [Region.wanted,hg,hy])
      ·exact go false (fun h=>by cases h) (fun _=>h) (by simp [Region.wanted,hg,hy])
      ·exact go false (fun h=>by cases h) (fun _=>h) (by simp [Region.wanted,hg,hy])
      ·exact go true (fun _=>h) (fun h=>by cases h) (by simp [Region.wanted,hg,hy])
     ·rename_i vs hb;exact go false (fun h=>by cases h) (fun _=>h) (by simp [Region.wanted,hg,GJ hat ht hb])
     ·exact h.elim
structure Ar(P:Program)(l:List Oper)(fr:Fr)(H:Aa)(K:Fr→Aa→Prop):Prop where
 in_::
 out_:∀(id:Nat) (Q:Exit→Act→World→Prop) (a:Act) (w:World),At fr a→w.heap=H→(∀c a w,¬Q (.panic c) a w)→
  (∀fr' a' w',At fr' a'→Env w w'→K fr' w'.heap→Q .normal a' w')→(Code.region id l.toArray true).wp P Q a w
theorem Ar.quiet{P:Program}{l:List Oper}{fr:Fr}{H:Aa}{K:Fr→Aa→Prop}(S:Nat→Prop)(hm:P.follows .mixedOrders=true)
  (hB:Region.lexB .any l.toArray=true) (h:Ji P true S l l fr H fun fr' _=>∀H',Agr S H H'→K fr' H'):Ar P l fr H K:=by
 refine⟨?_⟩;intro id Q a w hat hw _ hq;subst hw;refine wp_region_quiet (C:=Cls w S) hm hB ⟨⟨rfl,rfl,rfl⟩,Agr.refl _ _⟩ ?_;exact Gx l fr a _ _ hat (fun fr' a' hat' hk w' hw'=>hq fr' a' w' hat' hw'.1 (hk _ hw'.2)) h
theorem V6{H H':Aa}(h:Agr (fun _=>True) H H'):H'=H:=Array.ext_getElem? fun i=>h i trivial
theorem Ar.lex{P:Program}{l:List Oper}{fr:Fr}{H:Aa}{K:Fr→Aa→Prop}(hm:P.follows .mixedOrders=true)
  (hB:Region.lexB .any l.toArray=true) (h:Ji P true (fun _=>True) l l fr H K):Ar P l fr H K:=by
 refine⟨?_⟩;intro id Q a w hat hw _ hq;subst hw;refine wp_region_quiet (C:=Cls w fun _=>True) hm hB ⟨⟨rfl,rfl,rfl⟩,Agr.refl _ _⟩ ?_;exact Gx l fr a K _ hat (fun fr' a' hat' hk w' hw'=>hq fr' a' w' hat' hw'.1 (by rw [V6 hw'.2];exact hk)) h
def LX(P:Program)(ops:Array Oper)(Q:Exit→Act→World→Prop)(S:World→Prop)(z:Nat):Nat→Array Bool→Act→World→Prop
 | 0,listed,a,w=>Region.ready .any ops listed=[]∧Q .normal a w
 | fuel+1,listed,a,w=>
   (Region.ready .any ops listed=[]→Q .normal a w)∧
   ∀i∈Region.ready .any ops listed,wpOp P ops Q i (fun a' w'=>(i≠z→S w')∧LX P ops Q S z fuel (listed.setIfInBounds i true) a' w') a w
theorem LY{P:Program}{ops:Array Oper}{Q:Exit→Act→World→Prop}{S:World→Prop}{z:Nat}:∀(fuel:Nat) (listed:Array Bool) (a:Act) (w:World),
  LX P ops Q S z fuel listed a w→wpAny P .any ops Q fuel listed a w
 | 0,_,_,_,h=>h
 | fuel+1,_,_,_,h=>⟨h.1,fun i hi=>wpOp_mono (fun a' w' h'=>LY fuel _ a' w' h'.2) (h.2 i hi)⟩
theorem NQ{P:Program}{ops:Array Oper}{Q:Exit→Act→World→Prop}{S:World→Prop}{z:Nat}{i:Nat}{oi:Oper}{v:Value}(hi:ops[i]? =some oi)
  (hsel:∀(j:Nat) (o:Oper) cs b,ops[j]? =some o→o.op≠ .select cs b)
  (hQ:∀c a w,Q (.panic c) (a.put oi.dst v) w→Q (.panic c) a w) (hiz:i≠z) (hz:∀oz,ops[z]? =some oz→∃e∈oz.after,Region.binds .any e=true∧e.on=i):
  ∀(fuel:Nat) (listed:Array Bool) (a:Act) (w:World),
   (∀j oj,ops[j]? =some oj→j≠i→listed.getD j true=false→(∀e∈oj.after,Region.binds .any e=true→e.on≠i)→oi.apart ops oj=true)→
   i∈Region.ready .any ops listed→YieldsIf P ops S oi v a→S w→
   LX P ops Q S z fuel (listed.setIfInBounds i true) (a.put oi.dst v) w→LX P ops Q S z (fuel+1) listed a w:=by
 intro fuel
 induction fuel with
 | zero=>
   intro listed a w _ hr hy hS H;refine⟨fun h=>(by rw [h]at hr;cases hr),fun j hj=>?_⟩;by_cases hji:j=i
   ·subst hji;exact hy.wpOp hi hS ⟨fun _=>hS,H⟩
   ·have:=ready_mono hj hji;rw [H.1]at this;cases this
 | succ fuel ih=>
   intro listed a w hfree hr hy hS H;refine⟨fun h=>(by rw [h]at hr;cases hr),fun j hj=>?_⟩;by_cases hji:j=i
   ·subst hji;exact hy.wpOp hi hS ⟨fun _=>hS,H⟩
   ·have h1:=H.2 j (ready_mono hj hji);obtain⟨hjun,oj,hoj,hall⟩:=mem_ready.1 hj;have hnot:∀e∈oj.after,Region.binds .any e=true→e.on≠i:=fun e he hb heq=>by
     have h1:=hall e he hb;have h0:=(mem_ready.1 hr).1;rw [heq]at h1;rcases AbH i listed.size with h' | h'
     ·simp [h']at h0 h1;rw [h0]at h1;cases h1
     ·simp [Ab5 h']at h1
    have hjz:j≠z:=by
     intro hjz;subst hjz;obtain⟨e,he,hb,hon⟩:=hz oj hoj;exact hnot e he hb hon
    have h2:=wpOp_putIf hoj (hfree j oj hoj hji hjun hnot) (fun cs b=>hsel i oi cs b hi) (fun cs b=>hsel j oj cs b hoj) hQ hy h1;have hfree':∀k ok,ops[k]? =some ok→k≠i→(listed.setIfInBounds j true).getD k true=false→
      (∀e∈ok.after,Region.binds .any e=true→e.on≠i)→oi.apart ops ok=true:=fun k ok hk hki hun hno=>by
     refine hfree k ok hk hki ?_ hno;by_cases hjk:j=k
     ·subst hjk;exact hjun
     ·rw [getD_set_ne true hjk]at hun;exact hun
    refine wpOp_mono (fun a' w' h3=>⟨fun _=>h3.2.1 hjz,ih (listed.setIfInBounds j true) a' w' hfree' (ready_mono hr (Ne.symm hji)) h3.1 (h3.2.1 hjz) ?_⟩) h2;rw [Array.setIfInBounds_comm _ _ hji];exact h3.2.2
inductive Sch where
 | e
 | q (i:Nat) (s:Sch)
 | f (i:Nat) (s:Sch)
 | b (i:Nat) (s:Sch) (j:Nat) (s':Sch)
def sq:List Nat→Sch→Sch
 | [],s=>s
 | i::l,s=>.q i (sq l s)
def Pv(P:Program)(S:Nat→Prop)(z:Nat)(H0:Aa)(all:List Oper)(i:Nat)(fr:Fr)(H:Aa)(next:Fr→Aa→Prop):Prop:=
 match all[i]? with
 | none=>False
 | some o=>match o.guard with
   | some _=>False
   | none=>match Ab2 i z with
     | true=>opK P false (fun _=>True) o fr H fun v H'=>C5 o.dst fr v fun fr'=>next fr' H'
     | false=>opK P false (fun _=>True) o fr H fun v H'=>Agr S H0 H'∧C5 o.dst fr v fun fr'=>next fr' H'
def OD(P:Program)(S:Nat→Prop)(z:Nat)(H0:Aa)(all:List Oper)(s:Sch):Fr→Aa→(Fr→Aa→Prop)→Prop:=
 Sch.rec (motive:=fun _=>Fr→Aa→(Fr→Aa→Prop)→Prop) (fun fr H K=>K fr H)
  (fun i _ ih fr H K=>match all[i]? with
   | none=>False
   | some o=>match o.guard with
     | some _=>False
     | none=>match JY o&&F4 P o with
       | true=>Ma P S o fr H fun v=>C5 o.dst fr v fun fr'=>ih fr' H K
       | false=>False)
  (fun i _ ih fr H K=>Pv P S z H0 all i fr H fun fr' H'=>ih fr' H' K)
  (fun i _ j _ ih ih' fr H K=>(Pv P S z H0 all i fr H fun fr' H'=>ih fr' H' K)∧Pv P S z H0 all j fr H fun fr' H'=>ih' fr' H' K) s
theorem Wg(P:Program)(S:Nat→Prop)(z:Nat)(H0:Aa)(all:List Oper)(i:Nat)(s:Sch)(fr:Fr)(H:Aa)(K:Fr→Aa→Prop):OD P S z H0 all (.q i s) fr H K=
  (match all[i]? with
   | none=>False
   | some o=>match o.guard with
     | some _=>False
     | none=>match JY o&&F4 P o with
       | true=>Ma P S o fr H fun v=>C5 o.dst fr v fun fr'=>OD P S z H0 all s fr' H K
       | false=>False):=rfl
def Hc(ops:Array Oper)(z:Nat):Sch→Array Bool→Bool
 | .e,listed=>(Region.ready .any ops listed).isEmpty
 | .q i s,listed=>(Region.ready .any ops listed).contains i&&Region.free .any ops listed i&& !(Ab2 i z)&&(decide (ops.size≤z)|| Region.waitsFor .any ops z i)&&Hc ops z s (listed.setIfInBounds i true)
 | .f i s,listed=>Region.ready .any ops listed==[i]&&(!(Ab2 i z)|| (match s with | .e=>true | _=>false))&&Hc ops z s (listed.setIfInBounds i true)
 | .b i s j s',listed=>Region.ready .any ops listed==[i,j]&& !(Ab2 i z)&& !(Ab2 j z)&&Hc ops z s (listed.setIfInBounds i true)&&Hc ops z s' (listed.setIfInBounds j true)
def Sch.len:Sch→Nat
 | .e=>0
 | .q _ s=>s.len+1
 | .f _ s=>s.len+1
 | .b _ s _ _=>s.len+1
def Sch.even:Sch→Bool
 | .e=>true
 | .q _ s=>s.even
 | .f _ s=>s.even
 | .b _ s _ s'=>s.even&&s'.even&&s.len==s'.len
theorem Hv{P:Program}{S:Nat→Prop}{z:Nat}{w0:World}{all:List Oper}{Q:Exit→Act→World→Prop}{i:Nat}{fr:Fr}{a:Act}{w:World}{next:Fr→Aa→Prop}{N:Act→World→Prop}
  (hat:At fr a) (hc:Env w0 w) (h:Pv P S z w0.heap all i fr w.heap next)
  (hn:∀fr' a' w',At fr' a'→Env w0 w'→(i≠z→Cls w0 S w')→next fr' w'.heap→N a' w'):wpOp P all.toArray Q i N a w:=by
 unfold Pv at h;split at h
 ·exact h.elim
 ·rename_i o ho;have ho':all.toArray[i]? =some o:=by simpa using ho
  split at h
  ·exact h.elim
  ·rename_i hg;have hwant:Region.wanted o (yielded all.toArray a.tmps)=true:=by simp [Region.wanted,hg]
   unfold wpOp;rw [ho'];dsimp only;rw [if_pos hwant];split at h
   ·rename_i hz;refine .inl (Oper.wp_mono ?_ (CR hat h _));rintro a' w' ⟨v,rfl,henv,hk⟩;rw [BR]at hk;exact hn _ _ _ (hat.put o.dst v) (hc.trans henv) (fun hne=>absurd (Ab8 hz) hne) hk
   ·refine .inl (Oper.wp_mono ?_ (CR hat h _));rintro a' w' ⟨v,rfl,henv,hagr,hk⟩;rw [BR]at hk;exact hn _ _ _ (hat.put o.dst v) (hc.trans henv) (fun _=>⟨hc.trans henv,hagr⟩) hk
theorem Ez{P:Program}{S:Nat→Prop}{z:Nat}{w0:World}{all:List Oper}{Q:Exit→Act→World→Prop}(hs:Region.noSelect all.toArray=true)
  (hp:∀c a w,¬Q (.panic c) a w):∀(l:Sch) (listed:Array Bool) (fr:Fr) (a:Act) (w:World) (K:Fr→Aa→Prop),At fr a→(l= .e→Env w0 w)→(l≠ .e→Cls w0 S w)→
  (∀fr' a' w',At fr' a'→Env w0 w'→K fr' w'.heap→Q .normal a' w')→Hc all.toArray z l listed=true→l.even=true→
  OD P S z w0.heap all l fr w.heap K→LX P all.toArray Q (Cls w0 S) z l.len listed a w
 | .e,listed,fr,a,w,K,hat,he,_,hq,hB,_,h=>⟨by simpa [Hc]using hB,hq fr a w hat (he rfl) h⟩
 | .q i s,listed,fr,a,w,K,hat,_,hc,hq,hB,hev,h=>by
   have hc:=hc (by simp);simp only [Hc,Aa5,AbR,decide_eq_true_eq,AaX]at hB;obtain⟨⟨⟨⟨b1,b2⟩,b3⟩,b4⟩,hB2⟩:=hB;rw [Wg]at h;split at h
   ·exact h.elim
   ·rename_i o ho;have ho':all.toArray[i]? =some o:=by simpa using ho
    split at h
    ·exact h.elim
    ·rename_i hg;have hwant:Region.wanted o (yielded all.toArray a.tmps)=true:=by simp [Region.wanted,hg]
     split at h
     ·obtain⟨v,hv,hk⟩:=Ei h;rw [BR]at hk;refine NQ (v:=v) ho' (Region.noSelect_spec hs) (fun c a' w' hh=>(hp _ _ _ hh).elim) (Aa9 b3) ?_ s.len listed a w (Region.free_spec ho' b2) (by simpa using b1)
       (.inl ⟨hwant,fun w' hw'=>?_⟩) hc ?_
      ·intro oz hoz;rcases b4 with b4 | b4
       ·rw [Ab5 b4]at hoz;cases hoz
       ·obtain⟨oj,hoj,e,he,hb,hon⟩:=Region.waitsFor_spec b4;have:oj=oz:=Option.some.inj (hoj.symm.trans hoz);subst this;exact⟨e,he,hb,hon⟩
      ·rw [hat.evalF];exact hv w' fun k hk=>(hw'.2 k hk).trans (hc.2 k hk).symm
      ·exact Ez hs hp s _ _ _ w K (hat.put o.dst v) (fun _=>hc.1) (fun _=>hc) hq hB2 hev hk
     ·exact h.elim
 | .f i s,listed,fr,a,w,K,hat,_,hc,hq,hB,hev,h=>by
   have hcl:=hc (by simp);simp only [Hc,Aa5,AbR,AaX,beq_iff_eq]at hB;obtain⟨⟨b1,b2⟩,hB2⟩:=hB;refine⟨(fun h0=>by rw [b1]at h0;cases h0),fun j hj=>?_⟩;rw [b1]at hj;obtain rfl:j=i:=by simpa using hj
   refine Hv hat hcl.1 h fun fr' a' w' h1 h2 h3 h4=>⟨h3,Ez hs hp s _ _ _ w' K h1 (fun _=>h2) (fun hne=>h3 fun hjz=>?_) hq hB2 hev h4⟩;rcases b2 with b2 | b2
   ·exact Aa9 b2 hjz
   ·cases s<;>first | exact hne rfl | cases b2
 | .b i s j s',listed,fr,a,w,K,hat,_,hc,hq,hB,hev,h=>by
   have hcl:=hc (by simp);simp only [Hc,Aa5,AaX,beq_iff_eq]at hB;obtain⟨⟨⟨⟨b1,b2⟩,b3⟩,hB2⟩,hB3⟩:=hB;simp only [Sch.even,Aa5,beq_iff_eq]at hev;obtain⟨⟨e1,e2⟩,e3⟩:=hev;refine⟨(fun h0=>by rw [b1]at h0;cases h0),fun k hk=>?_⟩;rw [b1]at hk;rcases AaC.1 hk with rfl | hk
   ·exact Hv hat hcl.1 h.1 fun fr' a' w' h1 h2 h3 h4=>⟨h3,Ez hs hp s _ _ _ w' K h1 (fun _=>h2) (fun _=>h3 (Aa9 b2)) hq hB2 e1 h4⟩
   ·obtain rfl:k=j:=by simpa using hk
    rw [e3];exact Hv hat hcl.1 h.2 fun fr' a' w' h1 h2 h3 h4=>⟨h3,Ez hs hp s' _ _ _ w' K h1 (fun _=>h2) (fun _=>h3 (Aa9 b3)) hq hB3 e2 h4⟩
theorem Ar.held{P:Program}{l:List Oper}{fr:Fr}{H:Aa}{K:Fr→Aa→Prop}(S:Nat→Prop)(z:Nat)(sched:Sch)(hm:P.follows .mixedOrders=true)
  (hB:(Region.noSelect l.toArray&&(sched.len==l.length)&&sched.even&&Hc l.toArray z sched (AaQ l.length false))=true)
  (h:OD P S z H l sched fr H K):Ar P l fr H K:=by
 refine⟨?_⟩;intro id Q a w hat hw hp hq;subst hw;simp only [Aa5,beq_iff_eq]at hB;refine wp_region_any hm (LY (S:=Cls w S) (z:=z) _ _ _ _ ?_);have:=Ez (P:=P) (S:=S) (z:=z) (w0:=w) (Q:=Q) hB.1.1.1 hp sched (AaQ l.length false) fr a {w with drawn:=w.drawn+1} K hat (fun _=>⟨rfl,rfl,rfl⟩) (fun _=>⟨⟨rfl,rfl,rfl⟩,Agr.refl _ _⟩) hq hB.2 hB.1.2 h;rw [hB.1.1.2]at this;simpa using this
theorem Ar.tail{P:Program}{l:List Oper}{fr:Fr}{H:Aa}{K:Fr→Aa→Prop}(z:Nat)(sched:Sch)(hm:P.follows .mixedOrders=true)
  (hB:(Region.noSelect l.toArray&&(sched.len==l.length)&&sched.even&&Hc l.toArray z sched (AaQ l.length false))=true)
  (h:OD P (fun _=>True) z H l sched fr H K):Ar P l fr H K:=Ar.held _ z sched hm hB h
theorem Ar.out{P:Program}{l:List Oper}{fr:Fr}{H:Aa}{K:Fr→Aa→Prop}(h:Ar P l fr H K):
  ∀(id:Nat) (Q:Exit→Act→World→Prop) (a:Act) (w:World),At fr a→w.heap=H→(∀c a w,¬Q (.panic c) a w)→
  (∀fr' a' w',At fr' a'→Env w w'→K fr' w'.heap→Q .normal a' w')→(Code.region id l.toArray true).wp P Q a w:=by
 exact h.out_
def FJ(w0:World)(Q:Exit→Fr→Aa→Prop):Exit→Act→World→Prop
 | .panic _,_,_=>False
 | .outgrown,_,_=>False
 | e,a,w=>∃fr,At fr a∧Env w0 w∧Q e fr w.heap
def Ms(X:List (Nat×(Fr→Aa→Prop)))(id:Nat)(fr:Fr)(H:Aa):Prop:=
 match X with
 | []=>False
 | (j,k)::X=>match Ab2 j id with
   | true=>k fr H
   | false=>Ms X id fr H
def Qx(kn:Fr→Aa→Prop)(X:List (Nat×(Fr→Aa→Prop)))(kr:Fr→Aa→Prop)(e:Exit)(fr:Fr)(H:Aa):Prop:=
 match e with
 | .normal=>kn fr H
 | .exit id=>Ms X id fr H
 | .ret=>kr fr H
 | _=>False
structure A3(P:Program)(c:Code)(fr:Fr)(H:Aa)(X:List (Nat×(Fr→Aa→Prop)))(kr:Fr→Aa→Prop):Prop where
 in_::
 out_:∀(a:Act) (w:World),At fr a→w.heap=H→(Code.loop c).wp P (FJ w (Qx (fun _ _=>False) X kr)) a w
def Iu:Code→Bool
 | .ret | .exit _ | .goto _=>false
 | .seq a b=>Iu a&&Iu b
 | .cond _ a b=>Iu a|| Iu b
 | _=>true
def Gn(id:Nat):Code→Nat
 | .exit j=>match Ab2 j id with
   | true=>1
   | false=>0
 | .seq a b=>Gn id a+Gn id b
 | .cond _ a b=>Gn id a+Gn id b
 | .block _ c=>Gn id c
 | .loop c=>Gn id c
 | _=>0
def JF:Code→Bool
 | .seq _ b=>JF b
 | .cond _ a b=>Iu a&&Iu b
 | .block id (.loop c)=>Nat.blt 1 (Gn id c)
 | .block id c=>(Iu c&&Nat.blt 0 (Gn id c))|| Nat.blt 1 (Gn id c)|| JF c
 | _=>false
structure Am(P:Program)(x y:Code)(fr:Fr)(H:Aa)(kn:Fr→Aa→Prop)(X:List (Nat×(Fr→Aa→Prop)))(kr:Fr→Aa→Prop):Prop where
 in_::
 out_:∀(a:Act) (w:World),At fr a→w.heap=H→(Code.seq x y).wp P (FJ w (Qx kn X kr)) a w
def vc(P:Program)(c:Code):Fr→Aa→(Fr→Aa→Prop)→List (Nat×(Fr→Aa→Prop))→(Fr→Aa→Prop)→Prop:=
 Code.rec (motive:=fun _=>Fr→Aa→(Fr→Aa→Prop)→List (Nat×(Fr→Aa→Prop))→(Fr→Aa→Prop)→Prop)
  (fun fr H kn _ _=>kn fr H)
  (fun _ ops draw fr H kn _ _=>match draw with
   | false=>Ji P false (fun _=>True) ops.toList ops.toList fr H kn
   | true=>Ar P ops.toList fr H kn)
  (fun a b iha ihb fr H kn X kr=>match JF a with
   | true=>Am P a b fr H kn X kr
   | false=>iha fr H (fun fr' H'=>ihb fr' H' kn X kr) X kr)
  (fun c _ _ ihx ihy fr H kn X kr=>match c with
   | .tmp t=>rdK fr t fun v=>match v with
     | .bool b=>AB b (wrK fr t (.bool true) fun fr1=>ihx fr1 H kn X kr) (wrK fr t (.bool false) fun fr1=>ihy fr1 H kn X kr)
     | _=>False
   | .const (.bool b)=>AB b (ihx fr H kn X kr) (ihy fr H kn X kr)
   | _=>False)
  (fun id _ ih fr H kn X kr=>ih fr H kn ((id,kn)::X) kr)
  (fun c _ fr H _ X kr=>A3 P c fr H X kr)
  (fun _ _ _ _ _ _ _ _ _ _ _=>False)
  (fun id fr H _ X _=>Ms X id fr H)
  (fun _ _ _ _ _ _ _=>False)
  (fun _ _ _ _ _ _=>False)
  (fun _ _ _ _ _ _=>False)
  (fun fr H _ _ kr=>kr fr H)
  (fun _ _ _ _ _ _=>False) c
section
variable(P:Program)(a b:Code)(fr:Fr)(H:Aa)(kn:Fr→Aa→Prop)(X:List (Nat×(Fr→Aa→Prop)))(kr:Fr→Aa→Prop)
theorem Tp(id:Nat)(ops:Array Oper)(draw:Bool):vc P (.region id ops draw) fr H kn X kr=(match draw with
   | false=>Ji P false (fun _=>True) ops.toList ops.toList fr H kn
   | true=>Ar P ops.toList fr H kn):=rfl
theorem Ym:vc P (.seq a b) fr H kn X kr=(match JF a with
   | true=>Am P a b fr H kn X kr
   | false=>vc P a fr H (fun fr' H'=>vc P b fr' H' kn X kr) X kr):=rfl
theorem WN(c:Operand):vc P (.cond c a b) fr H kn X kr=(match c with
   | .tmp t=>rdK fr t fun v=>match v with
     | .bool x=>AB x (wrK fr t (.bool true) fun fr1=>vc P a fr1 H kn X kr) (wrK fr t (.bool false) fun fr1=>vc P b fr1 H kn X kr)
     | _=>False
   | .const (.bool x)=>AB x (vc P a fr H kn X kr) (vc P b fr H kn X kr)
   | _=>False):=rfl
theorem Vs(id:Nat):vc P (.block id a) fr H kn X kr=vc P a fr H kn ((id,kn)::X) kr:=rfl
end
theorem A3.out{P:Program}{c:Code}{fr:Fr}{H:Aa}{X:List (Nat×(Fr→Aa→Prop))}{kr:Fr→Aa→Prop}(h:A3 P c fr H X kr):
  ∀(a:Act) (w:World),At fr a→w.heap=H→(Code.loop c).wp P (FJ w (Qx (fun _ _=>False) X kr)) a w:=by exact h.out_
theorem Am.out{P:Program}{x y:Code}{fr:Fr}{H:Aa}{kn:Fr→Aa→Prop}{X:List (Nat×(Fr→Aa→Prop))}{kr:Fr→Aa→Prop}(h:Am P x y fr H kn X kr):
  ∀(a:Act) (w:World),At fr a→w.heap=H→(Code.seq x y).wp P (FJ w (Qx kn X kr)) a w:=by exact h.out_
theorem FJ.env{w0 w1:World}{Q:Exit→Fr→Aa→Prop}(henv:Env w0 w1):∀{e:Exit} {a:Act} {w:World},FJ w1 Q e a w→FJ w0 Q e a w
 | .normal,_,_,⟨fr,h1,h2,h3⟩ | .exit _,_,_,⟨fr,h1,h2,h3⟩ | .goto _,_,_,⟨fr,h1,h2,h3⟩ | .ret,_,_,⟨fr,h1,h2,h3⟩=>⟨fr,h1,henv.trans h2,h3⟩
theorem FJ.mono{w0:World}{Q Q':Exit→Fr→Aa→Prop}(hq:∀e fr H,Q e fr H→Q' e fr H):∀{e:Exit} {a:Act} {w:World},FJ w0 Q e a w→FJ w0 Q' e a w
 | .normal,_,_,⟨fr,h1,h2,h3⟩ | .exit _,_,_,⟨fr,h1,h2,h3⟩ | .goto _,_,_,⟨fr,h1,h2,h3⟩ | .ret,_,_,⟨fr,h1,h2,h3⟩=>⟨fr,h1,h2,hq _ _ _ h3⟩
theorem LN{P:Program}{x y:Code}{kn k1:Fr→Aa→Prop}{X:List (Nat×(Fr→Aa→Prop))}{kr:Fr→Aa→Prop}{a:Act}{w:World}
  (hx:x.wp P (FJ w (Qx k1 X kr)) a w)
  (hy:∀fr a' w',At fr a'→Env w w'→k1 fr w'.heap→y.wp P (FJ w' (Qx kn X kr)) a' w'):(Code.seq x y).wp P (FJ w (Qx kn X kr)) a w:=by
 refine wp_seq (Code.wp_mono ?_ hx);intro e a' w' h;cases e with
 | normal=>
   obtain⟨fr,h1,h2,h3⟩:=h;exact Code.wp_mono (fun e a w h=>FJ.env h2 h) (hy fr a' w' h1 h2 h3)
 | exit id=>exact h
 | goto l=>exact h
 | ret=>exact h
 | panic c=>exact h
 | outgrown=>exact h
theorem BP{P:Program}:∀(c:Code) (fr:Fr) (kn:Fr→Aa→Prop) (X:List (Nat×(Fr→Aa→Prop))) (kr:Fr→Aa→Prop) (a:Act) (w:World),At fr a→
  vc P c fr w.heap kn X kr→c.wp P (FJ w (Qx kn X kr)) a w
 | .skip,fr,kn,X,kr,a,w,hat,h=>wp_skip ⟨fr,hat,Env.refl w,h⟩
 | .region id ops draw,fr,kn,X,kr,a,w,hat,h=>by
   rw [Tp]at h;cases draw with
   | false=>
     have:=WP (P:=P) (id:=id) (l:=ops.toList) (Q:=FJ w (Qx kn X kr)) hat (fun fr' a' w' h1 h2 h3=>⟨fr',h1,h2,h3⟩) h;simpa using this
   | true=>
     have:=h.out id (FJ w (Qx kn X kr)) a w hat rfl (fun _ _ _ h=>h) (fun fr' a' w' h1 h2 h3=>⟨fr',h1,h2,h3⟩);simpa using this
 | .seq x y,fr,kn,X,kr,a,w,hat,h=>by
   rw [Ym]at h;split at h
   ·exact h.out a w hat rfl
   ·exact LN (BP x fr _ X kr a w hat h) fun fr' a' w' h1 _ h3=>BP y fr' kn X kr a' w' h1 h3
 | .cond c x y,fr,kn,X,kr,a,w,hat,h=>by
   rw [WN]at h;split at h
   ·rename_i t;rw [Dx]at h;split at h
    ·rename_i b hb;have hs:fr.set t (.bool b)=fr:=DB hb (by simp [undef]);have he:a.eval (.tmp t)= .bool b:=by rw [hat.eval];exact hb
     cases b<;>simp only [AB,EC,hs]at h
     ·exact wp_cond_false he (BP y fr kn X kr a w hat h)
     ·exact wp_cond_true he (BP x fr kn X kr a w hat h)
    ·exact h.elim
   ·rename_i b;cases b<;>simp only [AB]at h
    ·exact wp_cond_false rfl (BP y fr kn X kr a w hat h)
    ·exact wp_cond_true rfl (BP x fr kn X kr a w hat h)
   ·exact h.elim
 | .block id c,fr,kn,X,kr,a,w,hat,h=>by
   rw [Vs]at h;refine wp_block (Code.wp_mono ?_ (BP c fr kn _ kr a w hat h));intro e a' w' h;cases e with
   | exit id'=>
     obtain⟨fr',h1,h2,h3⟩:=h;simp only [Qx,Ms]at h3;simp only [Exit.inBlock];split at h3
     ·rename_i hid;have:=Ab8 hid;rw [if_pos this.symm];exact⟨fr',h1,h2,h3⟩
     ·rename_i hid;have:id≠id':=Aa9 hid;rw [if_neg (Ne.symm this)];exact⟨fr',h1,h2,h3⟩
   | normal=>exact h
   | goto l=>exact h
   | ret=>exact h
   | panic c=>exact h
   | outgrown=>exact h
 | .loop c,fr,kn,X,kr,a,w,hat,h=>Code.wp_mono (fun e a w=>FJ.mono fun e fr H hq=>by
   cases e<;>first | exact hq | exact hq.elim) (h.out a w hat rfl)
 | .exit id,fr,kn,X,kr,a,w,hat,h=>wp_exit ⟨fr,hat,Env.refl w,h⟩
 | .ret,fr,kn,X,kr,a,w,hat,h=>wp_ret ⟨fr,hat,Env.refl w,h⟩
 | .rangeFunc ..,_,_,_,_,_,_,_,h=>h.elim
 | .scope _,_,_,_,_,_,_,_,h=>h.elim
 | .label _,_,_,_,_,_,_,_,h=>h.elim
 | .goto _,_,_,_,_,_,_,_,h=>h.elim
 | .refuse _,_,_,_,_,_,_,_,h=>h.elim
noncomputable def NA{R:Type}(fr:Fr)(ts:List Nat):(List Value→R)→R:=
 AaH (motive:=fun _=>(List Value→R)→R) (fun K=>K []) (fun t _ ih K=>rdK fr t fun v=>ih fun vs=>K (v::vs)) ts
noncomputable def QN{R:Type}(fr:Fr)(ts:List Nat)(vs:List Value)(K:Fr→R):R:=
 AaH (motive:=fun _=>List Value→Fr→R) (fun _ fr=>K fr) (fun t _ ih vs fr=>List.casesOn vs (K fr) fun v vs=>wrK fr t v fun fr'=>ih vs fr') ts vs fr
noncomputable def Gu{R:Type}(f:Nat→Value)(fr:Fr)(ts:List Nat)(K:Fr→R):R:=
 AaH (motive:=fun _=>Fr→R) (fun fr=>K fr) (fun t _ ih fr=>wrK fr t (f t) fun fr'=>ih fr') ts fr
def wrs(fr:Fr):List Nat→List Value→Fr
 | t::ts,v::vs=>wrs (fr.set t v) ts vs
 | _,_=>fr
def Fg(f:Nat→Value)(fr:Fr):List Nat→Fr
 | []=>fr
 | t::ts=>Fg f (fr.set t (f t)) ts
theorem FB{R:Type}(fr:Fr):∀(ts:List Nat) (K:List Value→R),NA fr ts K=K (ts.map (rd fr))
 | [],_=>rfl
 | t::ts,K=>by show rdK fr t (fun v=>NA fr ts fun vs=>K (v::vs))=_;simp only [Dx,FB fr ts,AaN]
theorem HN{R:Type}:∀(ts:List Nat) (vs:List Value) (fr:Fr) (K:Fr→R),QN fr ts vs K=K (wrs fr ts vs)
 | [],vs,fr,K=>by cases vs<;>rfl
 | _::_,[],_,_=>rfl
 | t::ts,v::vs,fr,K=>by show wrK fr t v (fun fr'=>QN fr' ts vs K)=_;simp only [EC,wrs];exact HN ts vs _ K
theorem CE{R:Type}(f:Nat→Value):∀(ts:List Nat) (fr:Fr) (K:Fr→R),Gu f fr ts K=K (Fg f fr ts)
 | [],_,_=>rfl
 | t::ts,fr,K=>by show wrK fr t (f t) (fun fr'=>Gu f fr' ts K)=_;simp only [EC,Fg];exact CE f ts _ K
theorem JC(f:Nat→Value):∀(ts:List Nat) (fr:Fr) (i:Nat),(Fg f fr ts)[i]? =if i∈ts∧i<fr.length then some (f i)else fr[i]?
 | [],fr,i=>by simp [Fg]
 | t::ts,fr,i=>by
   simp only [Fg,JC f ts,AbS,AaC,AbL];by_cases h1:i∈ts<;>by_cases h2:i<fr.length<;>by_cases h3:t=i
   all_goals simp [h1,h2,h3]
   all_goals first | (subst h3;simp [h2];done) | (rw [if_neg (by omega)];done) | (have:¬i=t:=fun h=>h3 h.symm;simp [this];done) | skip
theorem Jc(f:Nat→Value):∀(ts:List Nat) (fr:Fr),(Fg f fr ts).length=fr.length
 | [],_=>rfl
 | t::ts,fr=>by simp only [Fg,Jc f ts,AbS]
theorem De{ws:List Nat}{fr fr':Fr}(h:Fg (fun _=>undef) fr' ws=Fg (fun _=>undef) fr ws):Fg (rd fr') fr ws=fr':=by
 have hl:fr'.length=fr.length:=by have:=congrArg List.length h;simpa [Jc]using this
 apply AaY;intro i;rw [JC];have hi:=congrArg (fun l:List Value=>l[i]?) h;simp only [JC,hl]at hi;by_cases h1:i∈ws∧i<fr.length
 ·rw [if_pos h1];simp [rd,AaJ (hl ▸ h1.2)]
 ·rw [if_neg h1]at hi ⊢;rw [if_neg h1]at hi;exact hi.symm
theorem Gi:∀(ts:List Nat) (fr:Fr),wrs fr ts (ts.map (rd fr))=fr
 | [],_=>rfl
 | t::ts,fr=>by
   have hs:fr.set t (rd fr t)=fr:=by
    unfold rd;rcases AbH t fr.length with hl | hl
    ·rw [Aa4,AaJ hl];exact Ab6 hl
    ·exact List.set_eq_of_length_le hl
   simp only [AaN,wrs,hs];exact Gi ts fr
def HV(ws:List Nat)(fr fr':Fr)(p:Prop):Prop:=
 Gu (fun _=>undef) fr' ws fun a=>Gu (fun _=>undef) fr ws fun b=>a=b∧p
theorem Km{P:Program}{c:Code}{Q:Exit→Act→World→Prop}(J:Nat→Act→World→Prop)
  (round:∀n a w,J n a w→c.wp P (Exit.then (fun a' w'=>∃n',n'<n∧J n' a' w') Q) a w):∀n a w,J n a w→(Code.loop c).wp P Q a w:=by
 intro n0 a0 w0 h0 b k cs;have key:∀n a w,J n a w→∃e a' w',Q e a' w'∧Arrives P (lone (b.at a (.code c:: .inLoop c::k)) cs w) b k cs e a' w':=by
  intro n
  induction n using Nat.strongRecOn with
  | _ n ih=>
    intro a w hI;obtain⟨e,a₁,w₁,hq,harr⟩:=round n a w hI b (.inLoop c::k) cs;cases e with
    | normal=>
      obtain⟨n',hlt,hI₁⟩:=hq;obtain⟨e₂,a₂,w₂,hq₂,harr₂⟩:=ih n' hlt a₁ w₁ hI₁;exact⟨e₂,a₂,w₂,hq₂,.of_steps (Steps.trans harr (.one step_inLoop)) harr₂⟩
    | exit id=>exact⟨_,a₁,w₁,hq,.pass (x:=.inLoop c) rfl (fun _ _=>.inl (by simp)) harr⟩
    | goto l=>exact⟨_,a₁,w₁,hq,.pass (x:=.inLoop c) rfl (fun _ _=>.inl (by simp)) harr⟩
    | ret=>exact⟨_,a₁,w₁,hq,.pass (x:=.inLoop c) rfl (fun _ _=>.inl (by simp)) harr⟩
    | panic ch=>exact⟨_,a₁,w₁,hq,.pass (x:=.inLoop c) rfl (fun _ _=>.inl (by simp)) harr⟩
    | outgrown=>exact⟨_,a₁,w₁,hq,.pass (x:=.inLoop c) rfl (fun _ _=>.inl (by simp)) harr⟩
 obtain⟨e,a',w',hq,harr⟩:=key n0 a0 w0 h0;exact⟨e,a',w',hq,.of_steps (.one step_loop) harr⟩
def MH:List Oper→List Nat→List Nat
 | [],acc=>acc
 | o::l,acc=>match o.dst with
   | some d=>d::MH l acc
   | none=>MH l acc
def GH:Code→List Nat→List Nat
 | .region _ ops _,acc=>MH ops.toList acc
 | .seq a b,acc=>GH a (GH b acc)
 | .cond _ a b,acc=>GH a (GH b acc)
 | .block _ c,acc=>GH c acc
 | .loop c,acc=>GH c acc
 | .scope c,acc=>GH c acc
 | _,acc=>acc
theorem A3.mk{P:Program}{c:Code}{fr:Fr}{H:Aa}{X:List (Nat×(Fr→Aa→Prop))}{kr:Fr→Aa→Prop}{α:Type}(ts:List Nat)(enc:α→List Value)(I:α→Aa→Prop)(m:α→Aa→Nat)
  (h0:NA fr ts fun vs=>∃x,vs=enc x∧I x H)
  (hr:∀(x:α) (H1:Aa) (junk:Nat→Value),I x H1→Gu junk fr (GH c []) fun fr0=>QN fr0 ts (enc x) fun fr1=>
   vc P c fr1 H1 (fun fr' H'=>HV (GH c []) fr fr' (NA fr' ts fun vs=>∃y,vs=enc y∧I y H'∧m y H'<m x H1)) X kr):A3 P c fr H X kr:=by
 generalize GH c []=ws at hr;refine⟨?_⟩;intro a w hat hw;subst hw;have h0':=h0;rw [FB]at h0';obtain⟨x0,hx0,hi0⟩:=h0'
 let J (n:Nat) (a':Act) (w':World):Prop:=∃fr' x,At fr' a'∧Env w w'∧Fg (fun _=>undef) fr' ws=Fg (fun _=>undef) fr ws∧ts.map (rd fr')=enc x∧I x w'.heap∧m x w'.heap=n
 refine Km J ?_ _ a w ⟨fr,x0,hat,Env.refl w,rfl,hx0,hi0,rfl⟩;rintro n a1 w1 ⟨fr1,x1,hat1,henv1,hk1,hx1,hi1,rfl⟩;have h:=hr x1 w1.heap (rd fr1) hi1;rw [CE,HN,De hk1,←hx1,Gi ts fr1]at h;refine Code.wp_mono ?_ (BP c fr1 _ X kr a1 w1 hat1 h);intro e a2 w2 h2;cases e with
 | normal=>
   obtain⟨fr2,hat2,henv2,h2⟩:=h2;simp only [Qx,HV,CE,FB]at h2;obtain⟨hk2,y,hy,hiy,hm⟩:=h2;exact⟨m y w2.heap,hm,fr2,y,hat2,henv1.trans henv2,hk2,hy,hiy,rfl⟩
 | exit id=>exact FJ.env henv1 h2
 | goto l=>exact FJ.env henv1 h2
 | ret=>exact FJ.env henv1 h2
 | panic c=>exact h2
 | outgrown=>exact h2
theorem Am.run{P:Program}{x y:Code}{fr:Fr}{H:Aa}{kn:Fr→Aa→Prop}{X:List (Nat×(Fr→Aa→Prop))}{kr:Fr→Aa→Prop}
  (h:vc P x fr H (fun fr' H'=>vc P y fr' H' kn X kr) X kr):Am P x y fr H kn X kr:=by
 refine⟨?_⟩;intro a w hat hw;subst hw;exact LN (BP x fr _ X kr a w hat h) fun fr' a' w' h1 _ h3=>BP y fr' kn X kr a' w' h1 h3
theorem Am.cut{P:Program}{x y:Code}{fr:Fr}{H:Aa}{kn:Fr→Aa→Prop}{X:List (Nat×(Fr→Aa→Prop))}{kr:Fr→Aa→Prop}{α:Type}(ts:List Nat)(enc:α→List Value)(I:α→Aa→Prop)
  (h:vc P x fr H (fun fr' H'=>HV (GH x []) fr fr' (NA fr' ts fun vs=>∃y,vs=enc y∧I y H')) X kr)
  (k:∀(z:α) (H1:Aa) (junk:Nat→Value),I z H1→Gu junk fr (GH x []) fun fr0=>QN fr0 ts (enc z) fun fr1=>vc P y fr1 H1 kn X kr):Am P x y fr H kn X kr:=by
 generalize GH x []=ws at h k;refine⟨?_⟩;intro a w hat hw;subst hw;refine LN (BP x fr _ X kr a w hat h) fun fr1 a1 w1 h1 _ h3=>?_;simp only [HV,CE,FB]at h3;obtain⟨hk,z,hz,hi⟩:=h3;have h:=k z w1.heap (rd fr1) hi;rw [CE,HN,De hk,←hz,Gi ts fr1]at h;exact BP y fr1 kn X kr a1 w1 h1 h
def ldK(P:Program)(t:TypeId)(p:Value)(H:Aa)(K:Value→Prop):Prop:=
 match p with
 | .pointer (some a)=>AH P (Instr.loadAt t (.pointer (some a))) (fun _=>True) H K
 | _=>False
def Mf(P:Program)(rs:List ResultVar)(fr:Fr)(H:Aa)(R:Value→Aa→Prop):Prop:=
 match rs with
 | [.tmp t]=>rdK fr t fun v=>R v H
 | []=>R (.tuple #[]) H
 | [.tmp t,.tmp u]=>rdK fr t fun v=>rdK fr u fun x=>R (.tuple #[v,x]) H
 | [.tmp t,.tmp u,.tmp y]=>rdK fr t fun v=>rdK fr u fun x=>rdK fr y fun z=>R (.tuple #[v,x,z]) H
 | [.cell a t]=>rdK fr a fun p=>ldK P t p H fun v=>R v H
 | [.cell a t,.tmp u]=>rdK fr a fun p=>ldK P t p H fun v=>rdK fr u fun x=>R (.tuple #[v,x]) H
 | [.tmp u,.cell a t]=>rdK fr a fun p=>ldK P t p H fun v=>rdK fr u fun x=>R (.tuple #[x,v]) H
 | [.cell a t,.cell b u]=>rdK fr a fun p=>ldK P t p H fun v=>rdK fr b fun q=>ldK P u q H fun x=>R (.tuple #[v,x]) H
 | _=>False
theorem EY{P:Program}{t:TypeId}{p:Value}{w:World}{K:Value→Prop}(h:ldK P t p w.heap K):
  ∃a v,p= .pointer (some a)∧(loadVar t a).run P w= .ok v w∧K v:=by
 unfold ldK at h;split at h
 ·rename_i a;obtain⟨v,hv,k⟩:=h.out;have h1:=hv w (Agr.refl _ _);simp [Instr.loadAt,Instr.sureAddr]at h1;exact⟨a,v,rfl,h1,k⟩
 ·exact h.elim
theorem LG{P:Program}{fn:Func}{fr:Fr}{a:Act}{w:World}{R:Value→Aa→Prop}(hat:At fr a)(h:Mf P fn.results.toList fr w.heap R):
  ∃v,(results fn a.tmps).run P w= .ok v w∧R v w.heap:=by
 have hrd:∀t,a.tmps.getD t undef=rd fr t:=fun t=>hat.eval (.tmp t);have mk:∀l:List ResultVar,fn.results.toList=l→fn.results=l.toArray:=fun l hl=>Ab0 (by simpa using hl);unfold Mf at h;split at h<;>rename_i hr<;>(try simp only [Dx]at h)<;>have hr':=mk _ hr
 ·exact⟨_,by simp [results,hr',hrd],h⟩
 ·exact⟨_,by simp [results,hr'],h⟩
 ·exact⟨_,by simp [results,hr',hrd],h⟩
 ·exact⟨_,by simp [results,hr',hrd],h⟩
 ·obtain⟨p,v,hp,hv,hR⟩:=EY h;exact⟨v,by simp [results,hr',hrd,hp,asAddr,hv],hR⟩
 ·obtain⟨p,v,hp,hv,hR⟩:=EY h;exact⟨_,by simp [results,hr',hrd,hp,asAddr,hv],hR⟩
 ·obtain⟨p,v,hp,hv,hR⟩:=EY h;exact⟨_,by simp [results,hr',hrd,hp,asAddr,hv],hR⟩
 ·obtain⟨p,v,hp,hv,hR⟩:=EY h;obtain⟨p',v',hp',hv',hR⟩:=EY hR;exact⟨_,by simp [results,hr',hrd,hp,hp',asAddr,hv,hv'],hR⟩
noncomputable def L6{R:Type}(l:Fr):(Fr→R)→R:=
 AaH (motive:=fun _=>(Fr→R)→R) (fun K=>K []) (fun v _ ih K=>ih fun l'=>K (v::l')) l
theorem Gd{R:Type}:∀(l:Fr) (K:Fr→R),L6 l K=K l
 | [],_=>rfl
 | v::l,K=>by show L6 l (fun l'=>K (v::l'))=_;exact Gd l _
theorem Al.of_vc{P:Program}{f:FuncId}{fn:Func}{c:Code}{args:Array Value}{H:Aa}{R:Value→Aa→Prop}(hf:P.funcs[f]? =some fn)(hb:fn.body=some c)
  (hcall:∀w:World,(callFunc f args).run P w= .ok (.enter f args) w)
  (h:L6 (args.toList++AaW (fn.ntmps - args.size) undef) fun fr=>vc P c fr H (fun fr' H'=>Mf P fn.results.toList fr' H' R) [] (fun fr' H'=>Mf P fn.results.toList fr' H' R)):
  Al P f args H R:=by
 intro w hw;subst hw;refine⟨hcall w,?_⟩;refine calls_of_wp hf hb ?_;rw [Gd]at h;have hat:At (args.toList++AaW (fn.ntmps - args.size) undef) {tmps:=args++AaQ (fn.ntmps - args.size) undef,defers:=[]}:=⟨by simp,rfl⟩;refine Code.wp_mono ?_ (BP c _ _ _ _ _ w hat h);intro e a' w' h2;have fin:∀fr,At fr a'→Env w w'→Mf P fn.results.toList fr w'.heap R→a'.defers=[]∧∃v,(results fn a'.tmps).run P w'= .ok v w'∧∃v',Ending.returned v= .returned v'∧Env w w'∧R v' w'.heap:=by
  intro fr h1 h2 h3;obtain⟨v,hv,hR⟩:=LG h1 h3;exact⟨h1.defers,v,hv,v,rfl,h2,hR⟩
 cases e with
 | normal=>obtain⟨fr,h1,h2,h3⟩:=h2;exact fin fr h1 h2 h3
 | ret=>obtain⟨fr,h1,h2,h3⟩:=h2;exact fin fr h1 h2 h3
 | exit id=>obtain⟨fr,h1,h2,h3⟩:=h2;exact h3.elim
 | goto l=>obtain⟨fr,h1,h2,h3⟩:=h2;exact h3.elim
 | panic c=>exact h2.elim
 | outgrown=>exact h2.elim
structure SlT(P:Program)(t e:TypeId)(sz by_:Nat)(z:Value):Prop where
 under:P.underlying t=some (.slice e)
 info:∃i,P.info? e=some i∧i.size=sz∧i.bytes=by_∧i.zero=some z
 zsz:z.cells.size=sz
structure BG(P:Program)(t:TypeId):Prop where
 under:∃d,P.underlying t=some d∧d.isRow=false
 size:(P.info? t).map (·.size)=some 1
structure Fa(P:Program)(t:TypeId)(n:Nat):Prop where
 under:∃d,P.underlying t=some d∧d.isRow=true
 size:(P.info? t).map (·.size)=some n
structure Az(P:Program)(s f off ft n:Nat):Prop where
 under:∃fs fd,P.underlying s=some (.struct fs)∧fs[f]? =some fd∧fd.offset=off∧fd.type=ft
 size:(P.info? ft).map (·.size)=some n
 pos:n≠0
structure Ju(P:Program)(t len e sz:Nat):Prop where
 under:P.underlying t=some (.array len e)
 size:(P.info? e).map (·.size)=some sz
def cell(H:Aa)(b o:Nat):Option Value:=match H[b]? with
 | some (.cells c _ _)=>c[o]?
 | _=>none
def Bi(H:Aa)(b o:Nat)(cs:List Value):Prop:=∀j v,cs[j]? =some v→cell H b (o+j)=some v
def Blk(H:Aa)(b:Nat)(e:TypeId)(l:List Value):Prop:=H[b]? =some (.cells l.toArray e (0,0))
theorem Gl(w:World)(b o:Nat):w.cell? ⟨b,o,none⟩=cell w.heap b o:=by
 unfold World.cell? cell;cases h:w.heap[b]? with
 | none=>rfl
 | some x=>cases x<;>rfl
theorem K1{H H':Aa}{b o:Nat}(h:H'[b]? =H[b]?):cell H' b o=cell H b o:=by unfold cell;rw [h]
theorem Bi.eq{H H':Aa}{b o:Nat}{cs:List Value}(hc:Bi H b o cs)(h:H'[b]? =H[b]?):Bi H' b o cs:=
 fun j v hv=>by rw [K1 h];exact hc j v hv
theorem Blk.cell{H:Aa}{b:Nat}{e:TypeId}{l:List Value}(h:Blk H b e l)(o:Nat):VC.cell H b o=l[o]? :=by
 unfold VC.cell;rw [h];simp
theorem Blk.cells{H:Aa}{b:Nat}{e:TypeId}{l cs:List Value}(h:Blk H b e l){o:Nat}(hc:∀j v,cs[j]? =some v→l[o+j]? =some v):Bi H b o cs:=
 fun j v hv=>by rw [h.cell];exact hc j v hv
theorem Blk.lt{H:Aa}{b:Nat}{e:TypeId}{l:List Value}(h:Blk H b e l):b<H.size:=(AaD.1 h).1
theorem Blk.eq{H H':Aa}{b:Nat}{e:TypeId}{l:List Value}(h:Blk H b e l)(k:H'[b]? =H[b]?):Blk H' b e l:=k.trans h
theorem Blk.agr{S:Nat→Prop}{H H':Aa}{b:Nat}{e:TypeId}{l:List Value}(h:Blk H b e l)(k:Agr S H H')(hb:S b):Blk H' b e l:=(k b hb).trans h
theorem T0{n:Nat}{H H':Aa}(h:Agr (fun k=>k<n) H H')(hn:n≤H.size):n≤H'.size:=by
 rcases Nat.eq_zero_or_pos n with h0 | h0
 ·omega
 ·have:=h (n - 1) (by omega);rw [Ab1 (show n - 1<H.size by omega)]at this;have:=(AaD.1 this).1;omega
theorem RT{w:World}{H:Aa}{b o:Nat}{cs:List Value}(hc:Bi H b o cs)(h:w.heap[b]? =H[b]?):w.rangeAt b o cs:=fun j v hv=>by
 rw [Gl,K1 h];exact hc j v hv
theorem ld1{P:Program}{t:TypeId}{b o:Nat}{S:Nat→Prop}{H:Aa}{K:Value→Prop}{v:Value}(ht:BG P t)(hc:cell H b o=some v)(hS:S b)(k:K v):
  AH P (Instr.loadAt t (.pointer (some ⟨b,o,none⟩))) S H K:=by
 refine AH.mk v (fun w hw=>?_) k;obtain⟨d,hu,hd⟩:=ht.under;have h1:w.cell? ⟨b,o,none⟩=some v:=by rw [Gl,K1 (hw b hS)];exact hc
 have hagg:(isAgg t).run P w= .ok false w:=by
  unfold isAgg;rw [Sem.run_bind,run_underlying hu w];cases d<;>simp_all
 simp [Instr.loadAt,Instr.sureAddr,loadVar,hagg,load,Sem.run,h1]
theorem ldN{P:Program}{t:TypeId}{b o:Nat}{S:Nat→Prop}{H:Aa}{K:Value→Prop}{cs:List Value}(ht:Fa P t cs.length)(hc:Bi H b o cs)(hS:S b)(k:K (.agg cs.toArray)):
  AH P (Instr.loadAt t (.pointer (some ⟨b,o,none⟩))) S H K:=by
 refine AH.mk _ (fun w hw=>?_) k;obtain⟨d,hu,hd⟩:=ht.under;exact run_loadAt_mid w b o t cs d (RT hc (hw b hS)) hu hd ht.size
theorem ix{P:Program}{t e:TypeId}{sz by_:Nat}{z:Value}{b o n cap:Nat}{k:IntKind}{i:Int}{S:Nat→Prop}{H:Aa}{K:Value→Prop}(ht:SlT P t e sz by_ z)(h0:0≤i)(h1:i<n)
  (hk:K (.pointer (some ⟨b,o+i.toNat*sz,none⟩))):AH P (Instr.indexAt t (.slice (some ⟨b,o,none⟩) n cap) (.int k i)) S H K:=by
 obtain⟨inf,hi,hs,_,_⟩:=ht.info;refine AH.mk _ (fun w _=>?_) hk;have ha:(⟨b,o,none⟩:Addr).add (i.toNat*sz)=⟨b,o+i.toNat*sz,none⟩:=Addr.add_mid _ _ _;simp [Instr.indexAt,asIntOf,run_underlying ht.under,h0,h1,sizeOf,typeInfo,hi,hs,ha]
theorem Et(H:Aa)(o:Obj):Agr (fun k=>k<H.size) H (H.push o):=fun k hk=>by
 rw [Array.getElem?_push,if_neg (by omega)]
theorem Fd(w:World)(o:Obj):(w.alloc o).heap=w.heap.push o:=rfl
def New(H:Aa)(K:Nat→Aa→Prop)(e:TypeId)(l:List Value):Prop:=
 ∀b H',b=H.size→H'.size=b+1→Blk H' b e l→Agr (fun k=>k<b) H H'→K b H'
theorem New.go{H:Aa}{K:Nat→Aa→Prop}{e:TypeId}{l:List Value}(h:New H K e l):K H.size (H.push (.cells l.toArray e)):=
 h H.size _ rfl (by simp) (by unfold Blk;simp) (Et H _)
theorem B0{P:Program}{t:TypeId}{v:Value}{H:Aa}{K:Value→Aa→Prop}(l:List Value)(hv:v.cells=l.toArray)
  (h:New H (fun b H'=>K (.pointer (some ⟨b,0,none⟩)) H') t l):By P (Instr.box t v) H K:=by
 refine By.mk fun w hw=>?_;subst hw;exact⟨_,w.alloc (.cells l.toArray t),by simp [Instr.box,newVar,hv,newRow],⟨rfl,rfl,rfl⟩,h.go⟩
theorem Ak{P:Program}{t:TypeId}{H:Aa}{K:Value→Aa→Prop}(z:Value)(l:List Value)(hz:(P.info? t).bind (·.zero)=some z)(hv:z.cells=l.toArray)
  (h:New H (fun b H'=>K (.pointer (some ⟨b,0,none⟩)) H') t l):By P (Instr.alloc t true (.tuple #[])) H K:=by
 refine By.mk fun w hw=>?_;subst hw;refine⟨_,w.alloc (.cells l.toArray t),?_,⟨rfl,rfl,rfl⟩,h.go⟩;cases hi:P.info? t with
 | none=>rw [hi]at hz;cases hz
 | some i=>
   have hz':i.zero=some z:=by simpa [hi]using hz
   simp [Instr.alloc,zeroValue,typeInfo,hi,hz',newVar,hv,newRow]
theorem Vq{P:Program}{t e:TypeId}{sz by_:Nat}{z:Value}{n:Nat}{vs:Array (Nat×Value)}{H:Aa}{K:Value→Aa→Prop}(ht:SlT P t e sz by_ z)(l:List Value)(hn:n*sz≤16777216)(h0:0<n*sz)
  (hf:Instr.fill (fun i=>some (i*sz,sz)) ((Array.range (n*sz)).map (z.cells[· % z.cells.size]!)) vs.toList=some l.toArray)
  (h:New H (fun b H'=>K (.slice (some ⟨b,0,none⟩) n n) H') e l):By P (Instr.buildSlice t n vs) H K:=by
 refine By.mk fun w hw=>?_;subst hw;refine⟨_,w.alloc (.cells l.toArray e),?_,⟨rfl,rfl,rfl⟩,h.go⟩;obtain⟨inf,hi,hs,_,hz⟩:=ht.info;have h1:¬(16777216<n*sz):=by omega
 have h2:¬(n*sz=0):=by omega
 simp only [Instr.buildSlice,Sem.run_bind,run_underlying ht.under,Result.andThen_ok,sizeOf,typeInfo,zeroValue];simp [hi,hs,hz,h1,h2,hf,newRow]
theorem Vt{P:Program}{t e:TypeId}{sz by_:Nat}{z:Value}{kl kc:IntKind}{l c:Int}{H:Aa}{K:Value→Aa→Prop}(ht:SlT P t e sz by_ z)(h0:0≤l)(hlc:l≤c)(hb:(by_:Int)*c≤281474976710656)
  (h63:c≤9223372036854775807)
  (h:New H (fun b H'=>K (.slice (some ⟨b,0,none⟩) l.toNat c.toNat) H') e ((AaR (c.toNat*sz)).map (z.cells[· % z.cells.size]!))):By P (Instr.makeSlice t (.int kl l) (.int kc c)) H K:=by
 refine By.mk fun w hw=>?_;subst hw;obtain⟨inf,hi,hs,hby,hz⟩:=ht.info;have hr:=run_make (P:=P) w t e inf z ht.under hi hz kl kc l c h0 hlc (by rw [hby];exact hb) h63;have e1:madeCells z.cells (c.toNat*inf.size)=((AaR (c.toNat*sz)).map (z.cells[· % z.cells.size]!)).toArray:=by
  rw [hs];unfold madeCells;apply Ab0;simp
 rw [e1]at hr;exact⟨_,_,hr,⟨rfl,rfl,rfl⟩,h.go⟩
theorem NH(w:World)(b o:Nat)(v:Value):(w.setCell ⟨b,o,none⟩ v).heap=w.heap.modify b fun
   | .cells c elem frozen=>.cells (c.setIfInBounds o v) elem frozen
   | x=>x:=by
 unfold World.setCell;simp only [Option.isSome_none,Aa7,if_false]
 congr 1
theorem Ki{w:World}{b o:Nat}{e:TypeId}{l:List Value}(hb:Blk w.heap b e l)(v:Value):
  Blk (w.setCell ⟨b,o,none⟩ v).heap b e (l.set o v)∧Agr (fun k=>k≠b) w.heap (w.setCell ⟨b,o,none⟩ v).heap∧(w.setCell ⟨b,o,none⟩ v).heap.size=w.heap.size:=by
 rw [NH];refine⟨?_,fun k hk=>?_,by simp⟩
 ·unfold Blk at hb ⊢;rw [Ab9,if_pos rfl,hb];simp
 ·rw [Ab9,if_neg (fun h=>hk h.symm)]
theorem Iy{w:World}{b o:Nat}{e:TypeId}{l:List Value}(hb:Blk w.heap b e l):w.frozen? ⟨b,o,none⟩=false:=by
 unfold World.frozen?;simp only;rw [hb];simp
def Y0(H:Aa)(K:Aa→Prop)(b:Nat)(e:TypeId)(l:List Value):Prop:=
 ∀H',Blk H' b e l→Agr (fun k=>k≠b) H H'→H'.size=H.size→K H'
theorem st1{P:Program}{t e:TypeId}{b o:Nat}{l:List Value}{v:Value}{H:Aa}{K:Aa→Prop}(ht:BG P t)(hb:Blk H b e l)(ho:o<l.length)(hv:v.oneCell'=true)
  (h:Y0 H K b e (l.set o v)):C0 P (Instr.storeAt t (.pointer (some ⟨b,o,none⟩)) v) H K:=by
 refine C0.mk fun w hw=>?_;subst hw;have hc:w.cell? ⟨b,o,none⟩=some l[o]:=by rw [Gl,hb.cell];simp [ho]
 obtain⟨h1,h2,h3⟩:=Ki (o:=o) hb v;refine⟨_,?_,?_,h _ h1 h2 h3⟩
 ·have hcs:v.cells= #[v]:=by cases v<;>simp_all [Value.cells,Value.oneCell']
  have hst:=run_storeCells_cells (P:=P) b o [v] 0 w (by simp [hc]) (by simp [Iy hb]) (by simpa using hv);cases hq:P.info? t with
  | none=>have:=ht.size;simp [hq]at this
  | some i=>
    have hs:i.size=1:=by have:=ht.size;simpa [hq]using this
    simp only [Nat.add_zero]at hst;simp [Instr.storeAt,Instr.sureAddr,storeVar,sizeOf,typeInfo,hq,hcs,hs,hst,World.setCells]
 ·exact⟨rfl,rfl,rfl⟩
def Ae(l:List Value)(o:Nat)(cs:List Value):List Value:=l.take o++cs++l.drop (o+cs.length)
theorem D1{l:List Value}{o:Nat}{cs:List Value}(h:o+cs.length≤l.length):(Ae l o cs).length=l.length:=by
 unfold Ae;simp;omega
theorem Cy{l:List Value}{o:Nat}{cs:List Value}(h:o+cs.length≤l.length)(j:Nat):
  (Ae l o cs)[j]? =if o≤j∧j<o+cs.length then cs[j - o]? else l[j]? :=by
 unfold Ae;rw [AaM];by_cases h1:j<o
 ·rw [if_neg (by omega),AaF (by simp;omega),List.getElem?_take_of_lt h1]
 ·rw [AaE (by simp;omega)];simp only [AbQ,AaS (show o≤l.length by omega)];by_cases h2:j<o+cs.length
  ·rw [if_pos (by omega),AaF (by omega)]
  ·rw [if_neg (by omega),AaE (by omega),List.getElem?_drop]
   congr 1;omega
theorem GC{b:Nat}{e:TypeId}:∀(cs:List Value) (o:Nat) (l:List Value) (w:World),Blk w.heap b e l→o+cs.length≤l.length→
  Blk (w.setCells b o cs).heap b e (Ae l o cs)∧Agr (fun k=>k≠b) w.heap (w.setCells b o cs).heap∧(w.setCells b o cs).heap.size=w.heap.size∧Env w (w.setCells b o cs)
 | [],o,l,w,hb,_=>⟨by simpa [Ae,World.setCells]using hb,Agr.refl _ _,rfl,Env.refl w⟩
 | v::cs,o,l,w,hb,hl=>by
   simp only [Ab3]at hl;obtain⟨h1,h2,h3⟩:=Ki (o:=o) hb v;obtain⟨k1,k2,k3,k4⟩:=GC cs (o+1) (l.set o v) (w.setCell ⟨b,o,none⟩ v) h1 (by simp;omega);refine⟨?_,h2.trans k2,k3.trans h3,⟨k4.os,k4.tape,k4.output⟩⟩;have e1:Ae (l.set o v) (o+1) cs=Ae l o (v::cs):=by
    apply AaY;intro j;rw [Cy (by simp;omega),Cy (by simp;omega)];simp only [Ab3];by_cases h:j=o
    ·subst h;rw [if_neg (by omega),if_pos (by omega)];simp [show j<l.length by omega]
    ·by_cases h':o+1≤j∧j<o+1+cs.length
     ·rw [if_pos h',if_pos (by omega)];rw [show j - o=(j - (o+1))+1 by omega,List.getElem?_cons_succ]
     ·rw [if_neg h',if_neg (by omega),AbL,if_neg (fun h2=>h h2.symm)]
   rw [←e1];exact k1
theorem stN{P:Program}{t e:TypeId}{b o:Nat}{l cs:List Value}{H:Aa}{K:Aa→Prop}(ht:(P.info? t).map (·.size)=some cs.length)(hb:Blk H b e l)(ho:o+cs.length≤l.length)(hv:cs.all (·.oneCell')=true)
  (h:Y0 H K b e (Ae l o cs)):C0 P (Instr.storeAt t (.pointer (some ⟨b,o,none⟩)) (.agg cs.toArray)) H K:=by
 refine C0.mk fun w hw=>?_;subst hw;have hthere:w.there b o cs.toArray.size:=fun j hj=>by
  simp only [List.size_toArray]at hj;refine⟨?_,Iy hb⟩;rw [Gl,hb.cell];simp;omega
 obtain⟨h1,h2,h3,h4⟩:=GC cs o l w hb ho;refine⟨_,run_storeAt_mid (P:=P) w b o t cs.toArray hthere (by simpa using ht) (by simpa using hv),by simpa using h4,?_⟩;simpa using h _ h1 h2 h3
def Sl(H:Aa)(lo:Nat)(e:TypeId)(sz:Nat)(v:Value)(n:Nat)(cs:List Value):Prop:=
 cs.length=n*sz∧((v= .slice none 0 0∧n=0)∨
  ∃b cap l,v= .slice (some ⟨b,0,none⟩) n cap∧lo≤b∧Blk H b e l∧n≤cap∧cap≤maxLen∧l.length=cap*sz∧l.take (n*sz)=cs)
def slB(v:Value)(k:Nat):Prop:=∃o n c,v= .slice (some ⟨k,o,none⟩) n c
theorem Sl.nil(H:Aa)(lo:Nat)(e:TypeId)(sz:Nat):Sl H lo e sz (.slice none 0 0) 0 []:=⟨by simp,.inl ⟨rfl,rfl⟩⟩
theorem Sl.made{H:Aa}{lo:Nat}{e:TypeId}{sz b n cap:Nat}{l:List Value}(hlo:lo≤b)(hb:Blk H b e l)(hn:n≤cap)(hc:cap≤maxLen)(hl:l.length=cap*sz):
  Sl H lo e sz (.slice (some ⟨b,0,none⟩) n cap) n (l.take (n*sz)):=
 ⟨by rw [AbQ,hl,AaS (AbC _ hn)],.inr ⟨b,cap,l,rfl,hlo,hb,hn,hc,hl,rfl⟩⟩
theorem Sl.agr{S:Nat→Prop}{H H':Aa}{lo:Nat}{e:TypeId}{sz n:Nat}{v:Value}{cs:List Value}(h:Sl H lo e sz v n cs)(k:Agr S H H')(hS:∀b,slB v b→S b):Sl H' lo e sz v n cs:=by
 obtain⟨h1,h2⟩:=h;refine⟨h1,?_⟩;rcases h2 with h2 | ⟨b,cap,l,rfl,hlo,hb,r⟩
 ·exact .inl h2
 ·exact .inr ⟨b,cap,l,rfl,hlo,hb.agr k (hS b ⟨_,_,_,rfl⟩),r⟩
theorem Sl.lt{H:Aa}{lo:Nat}{e:TypeId}{sz n:Nat}{v:Value}{cs:List Value}(h:Sl H lo e sz v n cs){b:Nat}(hb:slB v b):lo≤b∧b<H.size:=by
 obtain⟨o,n',c,rfl⟩:=hb;rcases h.2 with⟨h2,_⟩ | ⟨b',cap,l,h2,hlo,hb,r⟩
 ·cases h2
 ·cases h2;exact⟨hlo,hb.lt⟩
theorem NM{P:Program}{t tx ty e:TypeId}{sz by_:Nat}{z:Value}{H:Aa}{K:Value→Aa→Prop}(ht:SlT P t e sz by_ z){lo n m:Nat}{v x:Value}{cs news:List Value}
  (hs:Sl H lo e sz v n cs) (hlo:lo≤H.size) (hx:∀w:World,w.heap=H→Src P sz tx x m news w) (h63:n+m≤maxLen) (hby:(n+m)*by_≤140737488355328)
  (h:∀v' H',Sl H' lo e sz v' (n+m) (cs++news)→Agr (fun k=>k<H.size∧¬slB v k) H H'→H.size≤H'.size→(∀k,slB v' k→slB v k∨H.size≤k)→K v' H'):
  By P (Builtin.append_ #[t,tx] ty [v,x].toArray) H K:=by
 refine By.mk fun w hw=>?_;subst hw;obtain⟨inf,hi,hsi,hbi,hz⟩:=ht.info;have hsrc:=hx w rfl;have hsrc':Src P inf.size tx x m news w:=by rw [hsi];exact hsrc
 have hnl:news.length=m*sz:=hsrc.newsLen;have h63':n+m≤9223372036854775807:=by simp only [maxLen]at h63;omega
 obtain⟨hcl,hs2⟩:=hs;have hlen:(cs++news).length=(n+m)*sz:=by rw [AaK,hcl,hnl,AbM]
 have grow:∀(base:Option Addr) (cap:Nat),v= .slice base n cap→cap<n+m→(Builtin.firstCells inf.size n (.slice base n cap)).run P w.drew= .ok cs.toArray w.drew→
   ∃v' w',(Builtin.append_ #[t,tx] ty [v,x].toArray).run P w= .ok v' w'∧Env w w'∧K v' w'.heap:=by
  intro base cap hv hcap hold;subst hv;have hr:=run_append_grow_src (P:=P) w t tx ty e inf z ht.under hi hz base n cap cs hold x m news hsrc' hcap (by omega) (growslice_fits (by omega) (by rw [hbi];exact hby));refine⟨_,_,hr,⟨rfl,rfl,rfl⟩,?_⟩;have hge:=grownCap_ge w (n+m) cap e;have hle:=grownCap_le_maxLen w (n+m) cap e h63;have hblk:Blk (w.drew.alloc (.cells ((cs++news).toArray++Builtin.zeroCells z.cells (grownCap w (n+m) cap e - (n+m))) e)).heap w.heap.size e
    ((cs++news)++(Builtin.zeroCells z.cells (grownCap w (n+m) cap e - (n+m))).toList):=by
   unfold Blk;have:(w.drew.alloc (.cells ((cs++news).toArray++Builtin.zeroCells z.cells (grownCap w (n+m) cap e - (n+m))) e)).heap=w.heap.push (.cells ((cs++news).toArray++Builtin.zeroCells z.cells (grownCap w (n+m) cap e - (n+m))) e):=rfl;rw [this];simp
  refine h _ _ ⟨hlen,.inr ⟨w.heap.size,_,_,rfl,hlo,hblk,hge,hle,?_,?_⟩⟩ ?_ ?_ ?_
  ·rw [AaK,hlen,Array.length_toList,size_zeroCells,ht.zsz,←AbM]
   congr 1;omega
  ·rw [←hlen,AbT];rfl
  ·intro k hk;exact Et w.heap _ k hk.1
  ·show w.heap.size≤(w.heap.push _).size;simp
  ·rintro k ⟨o,n',c,hk⟩;cases hk;exact .inr (AbN _)
 rcases hs2 with⟨rfl,rfl⟩ | ⟨b,cap,l,rfl,hlob,hb,hnc,hcm,hll,htake⟩
 ·have hcs:cs=[]:=AaV (by simpa using hcl);subst hcs;by_cases hm:m=0
  ·subst hm;have hn:news=[]:=AaV (by simpa using hnl);subst hn;refine⟨.slice none 0 0,w,?_,Env.refl w,h _ _ (Sl.nil _ _ _ _) (Agr.refl _ _) (AbN _) (fun k hk=>.inl hk)⟩;rcases hsrc'.kind with⟨e',hk⟩ | hk<;>simp [Builtin.append_,run_underlying ht.under,run_underlying hk,sizeOf,typeInfo,hi,hsrc'.len,hsrc'.cells]
  ·exact grow none 0 rfl (by omega) (by simp [Builtin.firstCells])
 ·by_cases hroom:n+m≤cap
  ·have hfit:n*sz+news.length≤l.length:=by rw [hnl,hll,←AbM];exact AbC _ hroom
   have hr:=run_append_room_src (P:=P) w t tx ty e inf ht.under hi b 0 n cap x m news hsrc' hroom
    (fun j hj=>by rw [Gl,hb.cell];simp [hsi];omega) (fun j hj=>Iy hb)
   obtain⟨h1,h2,h3,h4⟩:=GC news (0+n*inf.size) l w hb (by rw [hsi];omega);refine⟨_,_,hr,h4,h _ _ ⟨hlen,.inr ⟨b,cap,_,rfl,hlob,h1,hroom,hcm,?_,?_⟩⟩ (h2.mono fun k hk=>?_) (by omega) ?_⟩
   ·rw [D1 (by rw [hsi];omega)];exact hll
   ·rw [hsi,AbI];unfold Ae;rw [htake,←hlen,AbT];rfl
   ·intro hkb;subst hkb;exact hk.2 ⟨0,n,cap,rfl⟩
   ·rintro k ⟨o,n',c,hk⟩;cases hk;exact .inl ⟨0,n,cap,rfl⟩
  ·refine grow (some ⟨b,0,none⟩) cap rfl (by omega) ?_;have hc:Bi w.heap b 0 cs:=hb.cells fun j v hv=>by
    rw [←htake,List.getElem?_take]at hv;split at hv
    ·simpa using hv
    ·cases hv
   have:=run_firstCells_some (P:=P) w.drew inf.size n ⟨b,0,none⟩ n cap cs (by rw [hsi];exact hcl) (fun j v hv=>by
    rw [Addr.add_mid];have:=RT (w:=w.drew) (H:=w.heap) hc rfl j v hv;exact this)
   exact this
structure Ty(α:Type) where
 size:Nat
 rep:(Nat→Prop)→Aa→List Value→α→Prop
 len:∀{S H cs x},rep S H cs x→cs.length=size
 frame:∀{S H H' cs x},rep S H cs x→Agr S H H'→rep S H' cs x
 mono:∀{S S' H cs x},rep S H cs x→(∀k,S k→S' k)→rep S' H cs x
def Ty.reps{α:Type}(T:Ty α)(S:Nat→Prop)(H:Aa):List Value→List α→Prop
 | cs,[]=>cs=[]
 | cs,x::xs=>∃c r,cs=c++r∧T.rep S H c x∧T.reps S H r xs
section
variable{α β:Type}{T:Ty α}{S S':Nat→Prop}{H H':Aa}
theorem Ty.reps_len:∀{xs:List α} {cs:List Value},T.reps S H cs xs→cs.length=xs.length*T.size
 | [],_,h=>by cases h;simp
 | x::xs,_,⟨c,r,rfl,h1,h2⟩=>by
   rw [AaK,T.len h1,Ty.reps_len h2,Ab3,Nat.succ_mul];omega
theorem Ty.reps_frame(k:Agr S H H'):∀{xs:List α} {cs:List Value},T.reps S H cs xs→T.reps S H' cs xs
 | [],_,h=>h
 | x::xs,_,⟨c,r,e,h1,h2⟩=>⟨c,r,e,T.frame h1 k,Ty.reps_frame k h2⟩
theorem Ty.reps_mono(k:∀i,S i→S' i):∀{xs:List α} {cs:List Value},T.reps S H cs xs→T.reps S' H cs xs
 | [],_,h=>h
 | x::xs,_,⟨c,r,e,h1,h2⟩=>⟨c,r,e,T.mono h1 k,Ty.reps_mono k h2⟩
theorem Ty.reps_append:∀{xs ys:List α} {cs ds:List Value},T.reps S H cs xs→T.reps S H ds ys→T.reps S H (cs++ds) (xs++ys)
 | [],_,_,_,h,h'=>by cases h;simpa using h'
 | x::xs,_,_,_,⟨c,r,e,h1,h2⟩,h'=>⟨c,r++_,by rw [e,AaM],h1,Ty.reps_append h2 h'⟩
theorem Ty.reps_one{c:List Value}{x:α}(h:T.rep S H c x):T.reps S H c [x]:=⟨c,[],by simp,h,rfl⟩
theorem Ty.reps_get:∀{xs:List α} {cs:List Value} {i:Nat} {x:α},T.reps S H cs xs→xs[i]? =some x→∃l c r,cs=l++c++r∧l.length=i*T.size∧T.rep S H c x
 | x::xs,_,0,y,⟨c,r,e,h1,h2⟩,hx=>by
   simp at hx;subst hx;exact⟨[],c,r,by simp [e],by simp,h1⟩
 | x::xs,_,i+1,y,⟨c,r,e,h1,h2⟩,hx=>by
   simp at hx;obtain⟨l,c',r',e',hl,hc⟩:=Ty.reps_get h2 hx;exact⟨c++l,c',r',by simp [e,e',AaM],by rw [AaK,T.len h1,hl,Nat.succ_mul];omega,hc⟩
theorem Bi.mid{b o:Nat}{l c r:List Value}(h:Bi H b o (l++c++r)):Bi H b (o+l.length) c:=fun j v hv=>by
 have:=h (l.length+j) v (by
  rw [AaM,AaE (by omega),AaF (by
   have:=(AaG.1 hv).1;omega)]
  rw [show l.length+j - l.length=j by omega];exact hv)
 rw [←Nat.add_assoc]at this;exact this
theorem Bi.one{b o:Nat}{v:Value}(h:Bi H b o [v]):cell H b o=some v:=by have:=h 0 v rfl;simpa using this
end
def inK(k:IntKind)(x:Int):Prop:=k.min≤x∧x≤k.max
def HT(k:IntKind):Ty Int where
 size:=1
 rep _ _ cs x:=cs=[.int k x]∧inK k x
 len h:=by rw [h.1];rfl
 frame h _:=h
 mono h _:=h
def A1:Ty Bool where
 size:=1
 rep _ _ cs x:=cs=[.bool x]
 len h:=by rw [h];rfl
 frame h _:=h
 mono h _:=h
def Yf:Ty ByteArray where
 size:=1
 rep _ _ cs x:=cs=[.string x]∧x.size≤maxLen
 len h:=by rw [h.1];rfl
 frame h _:=h
 mono h _:=h
def SlD{α:Type}(T:Ty α)(S:Nat→Prop)(H:Aa)(a:Option Addr)(cap:Nat)(xs:List α):Prop:=
 match a with
 | none=>xs=[]∧cap=0
 | some ad=>xs.length≤cap∧cap≤maxLen∧(cap=0∨ad.spot=none∧S ad.block∧∃ec,Bi H ad.block ad.off ec∧T.reps S H ec xs)
theorem SlD.intro{α:Type}{T:Ty α}{S:Nat→Prop}{H:Aa}{b o cap:Nat}{xs:List α}{ec:List Value}(h2:S b)(h3:xs.length≤cap)(h4:cap≤maxLen)(h5:Bi H b o ec)(h6:T.reps S H ec xs):SlD T S H (some ⟨b,o,none⟩) cap xs:=
 ⟨h3,h4,.inr ⟨rfl,h2,ec,h5,h6⟩⟩
theorem SlD.frame{α:Type}{T:Ty α}{S:Nat→Prop}{H H':Aa}{a:Option Addr}{cap:Nat}{xs:List α}(h:SlD T S H a cap xs)(k:Agr S H H'):SlD T S H' a cap xs:=by
 cases a with
 | none=>exact h
 | some ad=>
   obtain⟨h3,h4,h0 | ⟨h1,h2,ec,h5,h6⟩⟩:=h
   ·exact⟨h3,h4,.inl h0⟩
   ·exact⟨h3,h4,.inr ⟨h1,h2,ec,h5.eq (k _ h2),Ty.reps_frame k h6⟩⟩
theorem SlD.mono{α:Type}{T:Ty α}{S S':Nat→Prop}{H:Aa}{a:Option Addr}{cap:Nat}{xs:List α}(h:SlD T S H a cap xs)(k:∀i,S i→S' i):SlD T S' H a cap xs:=by
 cases a with
 | none=>exact h
 | some ad=>
   obtain⟨h3,h4,h0 | ⟨h1,h2,ec,h5,h6⟩⟩:=h
   ·exact⟨h3,h4,.inl h0⟩
   ·exact⟨h3,h4,.inr ⟨h1,k _ h2,ec,h5,Ty.reps_mono k h6⟩⟩
theorem SlD.le{α:Type}{T:Ty α}{S:Nat→Prop}{H:Aa}{a:Option Addr}{cap:Nat}{xs:List α}(h:SlD T S H a cap xs):xs.length≤cap∧cap≤maxLen:=by
 cases a with
 | none=>obtain⟨rfl,rfl⟩:=h;simp
 | some ad=>exact⟨h.1,h.2.1⟩
def tSl{α:Type}(T:Ty α):Ty (List α) where
 size:=1
 rep S H cs xs:=∃a cap,cs=[.slice a xs.length cap]∧SlD T S H a cap xs
 len:=by rintro S H cs x ⟨a,cap,rfl,_⟩;rfl
 frame:=by rintro S H H' cs x ⟨a,cap,e,h⟩ k;exact⟨a,cap,e,h.frame k⟩
 mono:=by rintro S S' H cs x ⟨a,cap,e,h⟩ k;exact⟨a,cap,e,h.mono k⟩
theorem SlD.get{α:Type}{T:Ty α}{S:Nat→Prop}{H:Aa}{a:Option Addr}{cap i:Nat}{xs:List α}{x:α}(h:SlD T S H a cap xs)(hx:xs[i]? =some x):
  ∃b o c,a=some ⟨b,o,none⟩∧S b∧Bi H b (o+i*T.size) c∧T.rep S H c x:=by
 cases a with
 | none=>obtain⟨rfl,_⟩:=h;simp at hx
 | some ad=>
   obtain⟨b,o,sp⟩:=ad;obtain⟨h3,h4,h0 | ⟨rfl,h2,ec,h5,h6⟩⟩:=h
   ·have:=(AaG.1 hx).1;omega
   obtain⟨l,c,r,rfl,hl,hc⟩:=Ty.reps_get h6 hx;exact⟨b,o,c,rfl,h2,by rw [←hl];exact h5.mid,hc⟩
theorem ixr{α:Type}{T:Ty α}{P:Program}{t e by_:Nat}{z:Value}{cap i:Nat}{k:IntKind}{j:Int}{S S0:Nat→Prop}{H:Aa}{K:Value→Prop}{a:Option Addr}{xs:List α}{x:α}
  (ht:SlT P t e T.size by_ z) (h:SlD T S H a cap xs) (hx:xs[i]? =some x) (hj:j=(i:Int))
  (hk:∀b o c,S b→Bi H b o c→T.rep S H c x→K (.pointer (some ⟨b,o,none⟩))):AH P (Instr.indexAt t (.slice a xs.length cap) (.int k j)) S0 H K:=by
 obtain⟨b,o,c,rfl,h1,h2,h3⟩:=h.get hx;subst hj;have hi:=(AaG.1 hx).1;exact ix ht (by omega) (by omega) (by simpa using hk b _ c h1 h2 h3)
theorem fa{P:Program}{s f off ft n b o:Nat}{S:Nat→Prop}{H:Aa}{K:Value→Prop}(ht:Az P s f off ft n)(k:K (.pointer (some ⟨b,o+off,none⟩))):
  AH P (Instr.fieldAt s (.pointer (some ⟨b,o,none⟩)) f) S H K:=by
 obtain⟨fs,fd,h1,h2,rfl,rfl⟩:=ht.under;refine AH.mk _ (fun w _=>?_) k;cases hi:P.info? fd.type with
 | none=>have:=ht.size;simp [hi]at this
 | some i=>
   have hs:i.size=n:=by have:=ht.size;simpa [hi]using this
   have hp:=ht.pos;have ha:(⟨b,o,none⟩:Addr).add fd.offset=⟨b,o+fd.offset,none⟩:=Addr.add_mid _ _ _;simp [Instr.fieldAt,run_underlying h1,h2,Instr.sureAddr,fieldPlace,sizeOf,typeInfo,hi,hs,hp,ha]
theorem ixa{P:Program}{t len e sz b o:Nat}{k:IntKind}{i:Int}{S:Nat→Prop}{H:Aa}{K:Value→Prop}(ht:Ju P t len e sz)(h0:0≤i)(h1:i<len)
  (hk:K (.pointer (some ⟨b,o+i.toNat*sz,none⟩))):AH P (Instr.indexAt t (.pointer (some ⟨b,o,none⟩)) (.int k i)) S H K:=by
 refine AH.mk _ (fun w _=>?_) hk;cases hi:P.info? e with
 | none=>have:=ht.size;simp [hi]at this
 | some inf=>
   have hs:inf.size=sz:=by have:=ht.size;simpa [hi]using this
   have ha:(⟨b,o,none⟩:Addr).add (i.toNat*sz)=⟨b,o+i.toNat*sz,none⟩:=Addr.add_mid _ _ _;simp [Instr.indexAt,asIntOf,run_underlying ht.under,Instr.sureAddr,h0,h1,sizeOf,typeInfo,hi,hs,ha]
theorem Tc{P:Program}{t off:Nat}{cs:Array Value}{v:Value}(ht:BG P t)(hv:cs[off]? =some v)(w:World):(part t cs off).run P w= .ok v w:=by
 obtain⟨d,hu,hd⟩:=ht.under;have hagg:(isAgg t).run P w= .ok false w:=by
  unfold isAgg;rw [Sem.run_bind,run_underlying hu w];cases d<;>simp_all
 simp [part,hagg,hv]
theorem Td{P:Program}{t off n:Nat}{cs:Array Value}(ht:Fa P t n)(w:World):(part t cs off).run P w= .ok (.agg (cs.extract off (off+n))) w:=by
 obtain⟨d,hu,hd⟩:=ht.under;have hagg:(isAgg t).run P w= .ok true w:=by
  unfold isAgg;rw [Sem.run_bind,run_underlying hu w];cases d<;>simp_all
 cases hi:P.info? t with
 | none=>have:=ht.size;simp [hi]at this
 | some i=>
   have hs:i.size=n:=by have:=ht.size;simpa [hi]using this
   simp [part,hagg,sizeOf,typeInfo,hi,hs]
theorem ZJ{P:Program}{t len e sz:Nat}{k:IntKind}{i:Int}{cs:Array Value}{v:Value}{S:Nat→Prop}{H:Aa}{K:Value→Prop}(ht:Ju P t len e sz)(hc:BG P e)(h0:0≤i)(h1:i<len)
  (hv:cs[i.toNat*sz]? =some v) (hk:K v):AH P (Instr.index t (.agg cs) (.int k i)) S H K:=by
 refine AH.mk _ (fun w _=>?_) hk;cases hi:P.info? e with
 | none=>have:=ht.size;simp [hi]at this
 | some inf=>
   have hs:inf.size=sz:=by have:=ht.size;simpa [hi]using this
   simp [Instr.index,asIntOf,run_underlying ht.under,h0,h1,sizeOf,typeInfo,hi,hs,Tc hc hv]
theorem Cv{P:Program}{t len e sz:Nat}{vs:Array (Nat×Value)}{S:Nat→Prop}{H:Aa}{K:Value→Prop}(ht:Ju P t len e sz)(z:Value)(hz:(P.info? t).bind (·.zero)=some z)(l:List Value)
  (hf:Instr.fill (fun i=>some (i*sz,sz)) z.cells vs.toList=some l.toArray) (k:K (.agg l.toArray)):AH P (Instr.build t vs) S H K:=by
 refine AH.mk _ (fun w _=>?_) k;cases hi:P.info? e with
 | none=>have:=ht.size;simp [hi]at this
 | some inf=>
   have hs:inf.size=sz:=by have:=ht.size;simpa [hi]using this
   cases ht':P.info? t with
   | none=>rw [ht']at hz;cases hz
   | some it=>
     have hz':it.zero=some z:=by simpa [ht']using hz
     simp [Instr.build,zeroValue,typeInfo,ht',hz',run_underlying ht.under,sizeOf,hi,hs,hf]
theorem A6{P:Program}{t:Nat}{fs:Array Field}{vs:Array (Nat×Value)}{S:Nat→Prop}{H:Aa}{K:Value→Prop}(ht:P.underlying t=some (.struct fs))(hfs:fs.toList.all (fun f=>(P.info? f.type).isSome)=true)
  (z:Value) (hz:(P.info? t).bind (·.zero)=some z) (l:List Value)
  (hf:Instr.fill (fun i=>(fs.toList.map fun f=>(f.offset,P.cellsOf f.type))[i]?) z.cells vs.toList=some l.toArray) (k:K (.agg l.toArray)):AH P (Instr.build t vs) S H K:=by
 refine AH.mk _ (fun w _=>?_) k;cases ht':P.info? t with
 | none=>rw [ht']at hz;cases hz
 | some it=>
   have hz':it.zero=some z:=by simpa [ht']using hz
   have hm:∀(l:List Field),l.all (fun f=>(P.info? f.type).isSome)=true→(l.mapM fun f=>(do pure (f.offset,←sizeOf f.type):Sem (Nat×Nat))).run P w= .ok (l.map fun f=>(f.offset,P.cellsOf f.type)) w:=by
    intro l
    induction l with
    | nil=>intro _;simp
    | cons f l ih=>
      intro h;simp only [List.all_cons,Aa5]at h;obtain⟨inf,hi⟩:=Option.isSome_iff_exists.1 h.1;have hsz:(sizeOf f.type).run P w= .ok (P.cellsOf f.type) w:=by simp [sizeOf,typeInfo,hi,Program.cellsOf]
      simp only [List.mapM_cons,Sem.run_bind,hsz,Result.andThen_ok,Sem.run_pure,ih h.2,AaN]
   have hm':(fs.mapM fun f=>(do pure (f.offset,←sizeOf f.type):Sem (Nat×Nat))).run P w= .ok (fs.toList.map fun f=>(f.offset,P.cellsOf f.type)).toArray w:=by
    rw [Array.mapM_eq_mapM_toList];rw [show(List.toArray <$> fs.toList.mapM fun f=>(do pure (f.offset,←sizeOf f.type):Sem (Nat×Nat)))=(do let l ←fs.toList.mapM fun f=>(do pure (f.offset,←sizeOf f.type):Sem (Nat×Nat));pure l.toArray)from rfl];rw [Sem.run_bind,hm _ hfs];simp
   have hzv:(zeroValue t).run P w= .ok z w:=by simp [zeroValue,typeInfo,ht',hz']
   simp only [Instr.build,Sem.run_bind,hzv,Result.andThen_ok,run_underlying ht];rw [hm'];simp only [Result.andThen_ok,List.getElem?_toArray,hf,Sem.run_pure]
theorem Eo{P:Program}{t e:TypeId}{by_:Nat}{z:Value}{kl kc:IntKind}{l c:Int}{H:Aa}{K:Value→Aa→Prop}(ht:SlT P t e 1 by_ z)(hz:z.oneCell'=true)(h0:0≤l)(hlc:l≤c)(hb:(by_:Int)*c≤281474976710656)
  (h63:c≤9223372036854775807)
  (h:New H (fun b H'=>K (.slice (some ⟨b,0,none⟩) l.toNat c.toNat) H') e (AaW c.toNat z)):By P (Instr.makeSlice t (.int kl l) (.int kc c)) H K:=by
 refine Vt ht h0 hlc hb h63 ?_;have hcs:z.cells= #[z]:=by cases z<;>simp_all [Value.cells,Value.oneCell']
 have e1:((AaR (c.toNat*1)).map (z.cells[· % z.cells.size]!))=AaW c.toNat z:=by
  rw [hcs,AbO];apply AaY;intro i;simp only [List.getElem?_map,List.getElem?_replicate];by_cases hi:i<c.toNat
  ·rw [List.getElem?_range hi,if_pos hi];simp [Nat.mod_one]
  ·rw [Ab7 (by simpa using hi),if_neg hi];rfl
 rw [e1];exact h
theorem FH{k:IntKind}{x:Int}(h:inK k x):k.wrap x=x:=by
 obtain⟨h1,h2⟩:=h;unfold IntKind.wrap;cases k<;>simp only [IntKind.min,IntKind.max,IntKind.signed,IntKind.bits,if_true,Aa7,if_false,AaO,AbV,AaP]at h1 h2 ⊢ <;>simp only [AbW,Bool.false_and,decide_eq_true_eq,Aa7,if_false,ge_iff_le]<;>(try split)<;>omega
theorem w64{x:Int}(h0: -9223372036854775808≤x)(h1:x≤9223372036854775807):IntKind.wrap .i64 x=x:=FH ⟨h0,h1⟩
theorem w8{x:Int}(h0:0≤x)(h1:x≤255):IntKind.wrap .u8 x=x:=FH ⟨h0,h1⟩
theorem E2{k:IntKind}{x:Nat}(h:inK k (x:Int)):x<2 ^ k.bits:=by
 obtain⟨_,h2⟩:=h;cases k<;>simp only [IntKind.max,IntKind.signed,IntKind.bits,if_true,Aa7,if_false,AaO,AbV,AaP]at h2 ⊢ <;>omega
theorem Qf{k:IntKind}{x y:Nat}(h:inK k (x:Int))(hy:y≤x):inK k (y:Int):=by
 obtain⟨_,h2⟩:=h;refine⟨?_,by omega⟩;cases k<;>simp only [IntKind.min,IntKind.signed,IntKind.bits,if_true,Aa7,if_false,AaO,AaP]<;>omega
theorem Hd{x:Nat}(h:x<18446744073709551616):inK .u64 (x:Int):=⟨by simp [IntKind.min,IntKind.signed],by simp [IntKind.max,IntKind.signed,IntKind.bits];omega⟩
theorem Bs{x:Nat}(h:x<9223372036854775808):inK .i64 (x:Int):=by
 refine⟨?_,by simp [IntKind.max,IntKind.signed,IntKind.bits];omega⟩;have:IntKind.i64.min= -9223372036854775808:=by decide
 omega
theorem Qg{x:Nat}(h:x<256):inK .u8 (x:Int):=⟨by simp [IntKind.min,IntKind.signed],by simp [IntKind.max,IntKind.signed,IntKind.bits];omega⟩
theorem Js{P:Program}{t:TypeId}{x y:Operand}{k:IntKind}{a b:Nat}{S:Nat→Prop}{H:Aa}{K:Value→Prop}(ha:inK k (a:Int))(hb:inK k (b:Int))(hk:K (.int k ((a &&& b:Nat):Int))):
  AH P (do eqGuard .and t x y (.int k a) (.int k b);binOp .and t (.int k a) (.int k b)) S H K:=by
 refine AH.mk _ (fun w _=>?_) hk;have e1:(Ab4 k.bits (a:Int) &&& Ab4 k.bits (b:Int)).toNat=a &&& b:=by
  simp only [AbD,BitVec.toNat_and,AbJ,Aa6 (E2 ha),Aa6 (E2 hb)]
 simp [BV,binOp,Op.intBits,Aa6 (E2 ha),Aa6 (E2 hb),FH (Qf ha (Nat.and_le_left))]
theorem XP{k:IntKind}{a b:Nat}(ha:inK k (a:Int))(hb:inK k (b:Int)):inK k ((a ||| b:Nat):Int):=by
 obtain⟨h1,h2⟩:=ha;obtain⟨h3,h4⟩:=hb;refine⟨?_,?_⟩
 ·cases k<;>simp only [IntKind.min,IntKind.signed,IntKind.bits,if_true,Aa7,if_false,AaO,AaP]<;>omega
 ·cases k<;>simp only [IntKind.max,IntKind.signed,IntKind.bits,if_true,Aa7,if_false,AaO,AaP]at h2 h4 ⊢
  ·have:=Aa3 (n:=7) (x:=a) (y:=b) (by omega) (by omega);omega
  ·have:=Aa3 (n:=15) (x:=a) (y:=b) (by omega) (by omega);omega
  ·have:=Aa3 (n:=31) (x:=a) (y:=b) (by omega) (by omega);omega
  ·have:=Aa3 (n:=63) (x:=a) (y:=b) (by omega) (by omega);omega
  ·have:=Aa3 (n:=8) (x:=a) (y:=b) (by omega) (by omega);omega
  ·have:=Aa3 (n:=16) (x:=a) (y:=b) (by omega) (by omega);omega
  ·have:=Aa3 (n:=32) (x:=a) (y:=b) (by omega) (by omega);omega
  ·have:=Aa3 (n:=64) (x:=a) (y:=b) (by omega) (by omega);omega
theorem vor{P:Program}{t:TypeId}{x y:Operand}{k:IntKind}{a b:Nat}{S:Nat→Prop}{H:Aa}{K:Value→Prop}(ha:inK k (a:Int))(hb:inK k (b:Int))(hk:K (.int k ((a ||| b:Nat):Int))):
  AH P (do eqGuard .or t x y (.int k a) (.int k b);binOp .or t (.int k a) (.int k b)) S H K:=by
 refine AH.mk _ (fun w _=>?_) hk;have e1:(Ab4 k.bits (a:Int) ||| Ab4 k.bits (b:Int)).toNat=a ||| b:=by
  simp only [AbD,BitVec.toNat_or,AbJ,Aa6 (E2 ha),Aa6 (E2 hb)]
 simp [BV,binOp,Op.intBits,Aa6 (E2 ha),Aa6 (E2 hb),FH (XP ha hb)]
theorem LW{P:Program}{t:TypeId}{x y:Operand}{k k':IntKind}{a b:Nat}{S:Nat→Prop}{H:Aa}{K:Value→Prop}(hb:b≤k.bits)(hk:K (.int k ((a / 2 ^ b:Nat):Int))):
  AH P (do eqGuard .shr t x y (.int k a) (.int k' b);binOp .shr t (.int k a) (.int k' b)) S H K:=by
 refine AH.mk _ (fun w _=>?_) hk;have e1:((a:Int).fdiv (2 ^ b))=((a / 2 ^ b:Nat):Int):=by
  rw [Int.fdiv_eq_ediv_of_nonneg _ (by exact_mod_cast Nat.zero_le _)]
  push_cast;rfl
 have e2:min b k.bits=b:=AaS hb;have e3:¬((b:Int)<0):=by omega
 simp [BV,binOp,Op.shift,e2,e3,e1]
theorem Yn{P:Program}{t:TypeId}{x y:Operand}{k k':IntKind}{a b:Nat}{S:Nat→Prop}{H:Aa}{K:Value→Prop}(hb:b≤k.bits)(hin:inK k ((a*2 ^ b:Nat):Int))(hk:K (.int k ((a*2 ^ b:Nat):Int))):
  AH P (do eqGuard .shl t x y (.int k a) (.int k' b);binOp .shl t (.int k a) (.int k' b)) S H K:=by
 refine AH.mk _ (fun w _=>?_) hk;have e2:min b k.bits=b:=AaS hb;have e3:¬((b:Int)<0):=by omega
 have e4:(a:Int)*2 ^ b=((a*2 ^ b:Nat):Int):=by push_cast;rfl
 simp only [BV,binOp,Op.shift,Sem.run_bind,Result.andThen_ok,e3,if_false,Int.toNat_natCast,e2,e4,FH hin,Sem.run_pure]
theorem LL{P:Program}{t m D D':Nat}{as1 bs:Array Value}{la lb:List Lit}(hk:P.keyTypeAt m t=true)(hm:m≤10000)(hg:P.eqGuardType P.depth t=false)
  (fa:(Value.agg as1).formed P t=true) (fb:(Value.agg bs).formed P t=true) (ha:P.keyLits D t as1.toList=some la) (hb:P.keyLits D' t bs.toList=some lb) {r:Bool} (hr:r=true↔la=lb)
  {op:BinOp} (hop:op= .eql∨op= .neq) (x y:Operand) (w:World):
  (do eqGuard op t x y (.agg as1) (.agg bs);binOp op t (.agg as1) (.agg bs):Sem Value).run P w= .ok (.bool (if op matches .eql then r else !r)) w:=by
 obtain⟨r',h1,h2⟩:=run_equalIn_deep (10000 - m) m t hk w D D' (.agg as1) (.agg bs) la lb fa fb ha hb;rw [show 10000 - m+m=10000 by omega]at h1;have hrr:r'=r:=by rw [Bool.eq_iff_iff,h2,hr]
 subst hrr;have hp:program.run P w= .ok P w:=rfl;rcases hop with rfl | rfl<;>simp [eqGuard,hp,hg,binOp,Op.equal,Op.maxDepth,h1]
theorem veq{P:Program}{t m D D':Nat}{as1 bs:Array Value}{la lb:List Lit}{x y:Operand}{S:Nat→Prop}{H:Aa}{K:Value→Prop}(hk:P.keyTypeAt m t=true)(hm:m≤10000)(hg:P.eqGuardType P.depth t=false)
  (fa:(Value.agg as1).formed P t=true) (fb:(Value.agg bs).formed P t=true) (ha:P.keyLits D t as1.toList=some la) (hb:P.keyLits D' t bs.toList=some lb) {r:Bool} (hr:r=true↔la=lb) (k:K (.bool r)):
  AH P (do eqGuard .eql t x y (.agg as1) (.agg bs);binOp .eql t (.agg as1) (.agg bs)) S H K:=
 AH.mk _ (fun w _=>LL hk hm hg fa fb ha hb hr (.inl rfl) x y w) k
theorem Zr{P:Program}{t m D D':Nat}{as1 bs:Array Value}{la lb:List Lit}{x y:Operand}{S:Nat→Prop}{H:Aa}{K:Value→Prop}(hk:P.keyTypeAt m t=true)(hm:m≤10000)(hg:P.eqGuardType P.depth t=false)
  (fa:(Value.agg as1).formed P t=true) (fb:(Value.agg bs).formed P t=true) (ha:P.keyLits D t as1.toList=some la) (hb:P.keyLits D' t bs.toList=some lb) {r:Bool} (hr:r=true↔la=lb) (k:K (.bool (!r))):
  AH P (do eqGuard .neq t x y (.agg as1) (.agg bs);binOp .neq t (.agg as1) (.agg bs)) S H K:=
 AH.mk _ (fun w _=>LL hk hm hg fa fb ha hb hr (.inr rfl) x y w) k
def B8(P:Program)(f:FuncId)(args:Array Value)(H:Aa)(v:Value):Prop:=
 Al P f args H fun v' H'=>v'=v∧Agr (fun k=>k<H.size) H H'
def Old(H:Aa)(k:Nat):Prop:=k<H.size
theorem As{H H':Aa}(h:Agr (Old H) H H'){k:Nat}(hk:Old H k):k<H'.size:=by
 have h1:=h k hk;unfold Old at hk;rw [Ab1 hk]at h1;exact(AaD.1 h1).1
theorem Bx{H H':Aa}(h:Agr (Old H) H H'):H.size≤H'.size:=T0 h (AbN _)
theorem RS{P:Program}{f:FuncId}{args:Array Value}{H:Aa}{K:Value→Prop}{v:Value}
  (h:∀H',Agr (Old H) H H'→B8 P f args H' v) (k:K v):Ia P f args (Old H) H K:=
 Ia.mk v (fun H' hH'=>(h H' hH').mono fun v' H'' ⟨e,ha⟩=>⟨e,ha.mono fun k hk=>As hH' hk⟩) k
theorem Ao{P:Program}{f:FuncId}{args:Array Value}{H:Aa}{K:Value→Aa→Prop}{v:Value}
  (h:B8 P f args H v) (k:∀H',Agr (Old H) H H'→K v H'):Ag P f args H K:=
 Ag.mk h fun v' H' ⟨e,ha⟩=>by subst e;exact k H' ha
end Go.VC
namespace Go.Proofs.YtfbghcpdinlmcaaGreatDoor
open Go.VC
theorem ct3:BG Tryz.prog 3:=⟨⟨_,rfl,rfl⟩,rfl⟩
theorem ct4:BG Tryz.prog 4:=⟨⟨_,rfl,rfl⟩,rfl⟩
theorem ct5:BG Tryz.prog 5:=⟨⟨_,rfl,rfl⟩,rfl⟩
theorem ag8:Fa Tryz.prog 8 4:=⟨⟨_,rfl,rfl⟩,rfl⟩
theorem ct9:BG Tryz.prog 9:=⟨⟨_,rfl,rfl⟩,rfl⟩
theorem S3:BG Tryz.prog 24:=⟨⟨_,rfl,rfl⟩,rfl⟩
theorem EJ:BG Tryz.prog 28:=⟨⟨_,rfl,rfl⟩,rfl⟩
theorem Xu:BG Tryz.prog 34:=⟨⟨_,rfl,rfl⟩,rfl⟩
theorem ZZ:SlT Tryz.prog 34 100 4 32 (Tryz.t100.zero.getD undef):=⟨rfl,⟨_,rfl,rfl,rfl,rfl⟩,rfl⟩
theorem DZ:BG Tryz.prog 35:=⟨⟨_,rfl,rfl⟩,rfl⟩
theorem DH:SlT Tryz.prog 35 41 1 24 (.slice none 0 0):=⟨rfl,⟨_,rfl,rfl,rfl,rfl⟩,rfl⟩
theorem FM:BG Tryz.prog 36:=⟨⟨_,rfl,rfl⟩,rfl⟩
theorem Cs:SlT Tryz.prog 36 4 1 1 (.bool false):=⟨rfl,⟨_,rfl,rfl,rfl,rfl⟩,rfl⟩
theorem PY:Az Tryz.prog 38 0 0 34 1:=⟨⟨_,_,rfl,rfl,rfl,rfl⟩,rfl,Aa0⟩
theorem Y9:Ju Tryz.prog 40 256 3 1:=⟨rfl,rfl⟩
theorem CW:BG Tryz.prog 41:=⟨⟨_,rfl,rfl⟩,rfl⟩
theorem AL:SlT Tryz.prog 41 3 1 8 (.int .i64 0):=⟨rfl,⟨_,rfl,rfl,rfl,rfl⟩,rfl⟩
theorem MM:Fa Tryz.prog 43 259:=⟨⟨_,rfl,rfl⟩,rfl⟩
theorem Ui:Az Tryz.prog 43 0 0 40 256:=⟨⟨_,_,rfl,rfl,rfl,rfl⟩,rfl,Aa0⟩
theorem Lu:Az Tryz.prog 43 1 256 41 1:=⟨⟨_,_,rfl,rfl,rfl,rfl⟩,rfl,Aa0⟩
theorem Lv:Az Tryz.prog 43 2 257 35 1:=⟨⟨_,_,rfl,rfl,rfl,rfl⟩,rfl,Aa0⟩
theorem PZ:Az Tryz.prog 43 3 258 36 1:=⟨⟨_,_,rfl,rfl,rfl,rfl⟩,rfl,Aa0⟩
theorem Cb:BG Tryz.prog 54:=⟨⟨_,rfl,rfl⟩,rfl⟩
theorem C6:SlT Tryz.prog 54 159 261 296 (Tryz.t159.zero.getD undef):=⟨rfl,⟨_,rfl,rfl,rfl,rfl⟩,rfl⟩
theorem Dr:Fa Tryz.prog 56 2:=⟨⟨_,rfl,rfl⟩,rfl⟩
theorem BD:Az Tryz.prog 56 0 0 54 1:=⟨⟨_,_,rfl,rfl,rfl,rfl⟩,rfl,Aa0⟩
theorem Lw:Az Tryz.prog 56 1 1 3 1:=⟨⟨_,_,rfl,rfl,rfl,rfl⟩,rfl,Aa0⟩
theorem X4:Az Tryz.prog 64 0 0 28 1:=⟨⟨_,_,rfl,rfl,rfl,rfl⟩,rfl,Aa0⟩
theorem X5:Az Tryz.prog 64 1 1 28 1:=⟨⟨_,_,rfl,rfl,rfl,rfl⟩,rfl,Aa0⟩
theorem X6:Az Tryz.prog 65 0 0 28 1:=⟨⟨_,_,rfl,rfl,rfl,rfl⟩,rfl,Aa0⟩
theorem X7:Az Tryz.prog 65 1 1 28 1:=⟨⟨_,_,rfl,rfl,rfl,rfl⟩,rfl,Aa0⟩
theorem Jw:Fa Tryz.prog 68 3:=⟨⟨_,rfl,rfl⟩,rfl⟩
theorem MY:BG Tryz.prog 74:=⟨⟨_,rfl,rfl⟩,rfl⟩
theorem NK:SlT Tryz.prog 74 174 7 56 (Tryz.t174.zero.getD undef):=⟨rfl,⟨_,rfl,rfl,rfl,rfl⟩,rfl⟩
theorem NY:Fa Tryz.prog 76 4:=⟨⟨_,rfl,rfl⟩,rfl⟩
theorem Ix:Az Tryz.prog 76 0 0 3 1:=⟨⟨_,_,rfl,rfl,rfl,rfl⟩,rfl,Aa0⟩
theorem Qa:Az Tryz.prog 76 1 1 3 1:=⟨⟨_,_,rfl,rfl,rfl,rfl⟩,rfl,Aa0⟩
theorem Uj:Az Tryz.prog 76 2 2 3 1:=⟨⟨_,_,rfl,rfl,rfl,rfl⟩,rfl,Aa0⟩
theorem Lx:Az Tryz.prog 76 3 3 74 1:=⟨⟨_,_,rfl,rfl,rfl,rfl⟩,rfl,Aa0⟩
theorem J6:BG Tryz.prog 79:=⟨⟨_,rfl,rfl⟩,rfl⟩
theorem HS:SlT Tryz.prog 79 185 259 280 (Tryz.t185.zero.getD undef):=⟨rfl,⟨_,rfl,rfl,rfl,rfl⟩,rfl⟩
theorem Sp:Fa Tryz.prog 81 4:=⟨⟨_,rfl,rfl⟩,rfl⟩
theorem Ck:Az Tryz.prog 81 0 0 3 1:=⟨⟨_,_,rfl,rfl,rfl,rfl⟩,rfl,Aa0⟩
theorem No:Az Tryz.prog 81 1 1 3 1:=⟨⟨_,_,rfl,rfl,rfl,rfl⟩,rfl,Aa0⟩
theorem Uk:Az Tryz.prog 81 2 2 3 1:=⟨⟨_,_,rfl,rfl,rfl,rfl⟩,rfl,Aa0⟩
theorem Gs:Az Tryz.prog 81 3 3 79 1:=⟨⟨_,_,rfl,rfl,rfl,rfl⟩,rfl,Aa0⟩
theorem Eh:BG Tryz.prog 99:=⟨⟨_,rfl,rfl⟩,rfl⟩
theorem Y7:Ju Tryz.prog 100 4 99 1:=⟨rfl,rfl⟩
theorem Y2:Fa Tryz.prog 100 4:=⟨⟨_,rfl,rfl⟩,rfl⟩
theorem BW:Ju Tryz.prog 101 4 99 1:=⟨rfl,rfl⟩
theorem AU:Fa Tryz.prog 101 4:=⟨⟨_,rfl,rfl⟩,rfl⟩
theorem VW:Az Tryz.prog 104 0 0 101 4:=⟨⟨_,_,rfl,rfl,rfl,rfl⟩,rfl,Aa0⟩
theorem Rt:Az Tryz.prog 105 0 0 28 1:=⟨⟨_,_,rfl,rfl,rfl,rfl⟩,rfl,Aa0⟩
theorem Ru:Az Tryz.prog 105 1 1 28 1:=⟨⟨_,_,rfl,rfl,rfl,rfl⟩,rfl,Aa0⟩
theorem Rd:BG Tryz.prog 106:=⟨⟨_,rfl,rfl⟩,rfl⟩
theorem DU:SlT Tryz.prog 106 101 4 32 (Tryz.t101.zero.getD undef):=⟨rfl,⟨_,rfl,rfl,rfl,rfl⟩,rfl⟩
theorem WV:Ju Tryz.prog 107 256 5 1:=⟨rfl,rfl⟩
theorem K5:Az Tryz.prog 109 0 0 106 1:=⟨⟨_,_,rfl,rfl,rfl,rfl⟩,rfl,Aa0⟩
theorem Rv:Az Tryz.prog 109 1 1 107 256:=⟨⟨_,_,rfl,rfl,rfl,rfl⟩,rfl,Aa0⟩
theorem F5:Az Tryz.prog 109 2 257 35 1:=⟨⟨_,_,rfl,rfl,rfl,rfl⟩,rfl,Aa0⟩
theorem Nk:Az Tryz.prog 109 3 258 36 1:=⟨⟨_,_,rfl,rfl,rfl,rfl⟩,rfl,Aa0⟩
theorem IU:Az Tryz.prog 109 4 259 36 1:=⟨⟨_,_,rfl,rfl,rfl,rfl⟩,rfl,Aa0⟩
theorem RW:SlT Tryz.prog 117 157 256 256 (Tryz.t157.zero.getD undef):=⟨rfl,⟨_,rfl,rfl,rfl,rfl⟩,rfl⟩
theorem WW:Ju Tryz.prog 125 1024 41 1:=⟨rfl,rfl⟩
theorem CH:Ju Tryz.prog 129 2 3 1:=⟨rfl,rfl⟩
theorem K6:Az Tryz.prog 139 0 0 9 1:=⟨⟨_,_,rfl,rfl,rfl,rfl⟩,rfl,Aa0⟩
theorem AC:Az Tryz.prog 139 1 1 3 1:=⟨⟨_,_,rfl,rfl,rfl,rfl⟩,rfl,Aa0⟩
theorem F6:Az Tryz.prog 139 2 2 41 1:=⟨⟨_,_,rfl,rfl,rfl,rfl⟩,rfl,Aa0⟩
theorem Re:BG Tryz.prog 140:=⟨⟨_,rfl,rfl⟩,rfl⟩
theorem AO:Fa Tryz.prog 142 2:=⟨⟨_,rfl,rfl⟩,rfl⟩
theorem K7:Az Tryz.prog 142 0 0 3 1:=⟨⟨_,_,rfl,rfl,rfl,rfl⟩,rfl,Aa0⟩
theorem K8:Az Tryz.prog 142 1 1 140 1:=⟨⟨_,_,rfl,rfl,rfl,rfl⟩,rfl,Aa0⟩
theorem Cj:BG Tryz.prog 146:=⟨⟨_,rfl,rfl⟩,rfl⟩
theorem EG:SlT Tryz.prog 146 150 6 48 (Tryz.t150.zero.getD undef):=⟨rfl,⟨_,rfl,rfl,rfl,rfl⟩,rfl⟩
theorem BQ:Az Tryz.prog 148 0 0 54 1:=⟨⟨_,_,rfl,rfl,rfl,rfl⟩,rfl,Aa0⟩
theorem Bc:Az Tryz.prog 148 1 1 146 1:=⟨⟨_,_,rfl,rfl,rfl,rfl⟩,rfl,Aa0⟩
theorem Y3:Fa Tryz.prog 150 6:=⟨⟨_,rfl,rfl⟩,rfl⟩
theorem VX:Az Tryz.prog 150 0 0 3 1:=⟨⟨_,_,rfl,rfl,rfl,rfl⟩,rfl,Aa0⟩
theorem HC:Az Tryz.prog 150 1 1 3 1:=⟨⟨_,_,rfl,rfl,rfl,rfl⟩,rfl,Aa0⟩
theorem C8:Az Tryz.prog 150 2 2 3 1:=⟨⟨_,_,rfl,rfl,rfl,rfl⟩,rfl,Aa0⟩
theorem K9:Az Tryz.prog 150 3 3 5 1:=⟨⟨_,_,rfl,rfl,rfl,rfl⟩,rfl,Aa0⟩
theorem Co:Az Tryz.prog 150 4 4 3 1:=⟨⟨_,_,rfl,rfl,rfl,rfl⟩,rfl,Aa0⟩
theorem C9:Az Tryz.prog 150 5 5 3 1:=⟨⟨_,_,rfl,rfl,rfl,rfl⟩,rfl,Aa0⟩
theorem C1:Ju Tryz.prog 157 256 4 1:=⟨rfl,rfl⟩
theorem KW:Fa Tryz.prog 157 256:=⟨⟨_,rfl,rfl⟩,rfl⟩
theorem Do:Fa Tryz.prog 159 261:=⟨⟨_,rfl,rfl⟩,rfl⟩
theorem AN:Az Tryz.prog 159 0 0 3 1:=⟨⟨_,_,rfl,rfl,rfl,rfl⟩,rfl,Aa0⟩
theorem KA:Az Tryz.prog 159 1 1 157 256:=⟨⟨_,_,rfl,rfl,rfl,rfl⟩,rfl,Aa0⟩
theorem Bh:Az Tryz.prog 159 2 257 3 1:=⟨⟨_,_,rfl,rfl,rfl,rfl⟩,rfl,Aa0⟩
theorem CA:Az Tryz.prog 159 3 258 3 1:=⟨⟨_,_,rfl,rfl,rfl,rfl⟩,rfl,Aa0⟩
theorem Rw:Az Tryz.prog 159 4 259 3 1:=⟨⟨_,_,rfl,rfl,rfl,rfl⟩,rfl,Aa0⟩
theorem F7:Az Tryz.prog 159 5 260 3 1:=⟨⟨_,_,rfl,rfl,rfl,rfl⟩,rfl,Aa0⟩
theorem Mo:BG Tryz.prog 168:=⟨⟨_,rfl,rfl⟩,rfl⟩
theorem Ov:BG Tryz.prog 170:=⟨⟨_,rfl,rfl⟩,rfl⟩
theorem Pp:SlT Tryz.prog 170 74 1 24 (.slice none 0 0):=⟨rfl,⟨_,rfl,rfl,rfl,rfl⟩,rfl⟩
theorem KB:Az Tryz.prog 172 0 0 35 1:=⟨⟨_,_,rfl,rfl,rfl,rfl⟩,rfl,Aa0⟩
theorem IV:Az Tryz.prog 172 1 1 170 1:=⟨⟨_,_,rfl,rfl,rfl,rfl⟩,rfl,Aa0⟩
theorem KC:Az Tryz.prog 172 2 2 3 1:=⟨⟨_,_,rfl,rfl,rfl,rfl⟩,rfl,Aa0⟩
theorem QU:Fa Tryz.prog 174 7:=⟨⟨_,rfl,rfl⟩,rfl⟩
theorem IW:Az Tryz.prog 174 0 0 3 1:=⟨⟨_,_,rfl,rfl,rfl,rfl⟩,rfl,Aa0⟩
theorem Nl:Az Tryz.prog 174 1 1 3 1:=⟨⟨_,_,rfl,rfl,rfl,rfl⟩,rfl,Aa0⟩
theorem VY:Az Tryz.prog 174 2 2 4 1:=⟨⟨_,_,rfl,rfl,rfl,rfl⟩,rfl,Aa0⟩
theorem Rx:Az Tryz.prog 174 3 3 101 4:=⟨⟨_,_,rfl,rfl,rfl,rfl⟩,rfl,Aa0⟩
theorem WS:Fa Tryz.prog 185 259:=⟨⟨_,rfl,rfl⟩,rfl⟩
theorem KE:Az Tryz.prog 185 0 0 3 1:=⟨⟨_,_,rfl,rfl,rfl,rfl⟩,rfl,Aa0⟩
theorem HD:Az Tryz.prog 185 1 1 3 1:=⟨⟨_,_,rfl,rfl,rfl,rfl⟩,rfl,Aa0⟩
theorem Nm:Az Tryz.prog 185 2 2 4 1:=⟨⟨_,_,rfl,rfl,rfl,rfl⟩,rfl,Aa0⟩
theorem Ry:Az Tryz.prog 185 3 3 157 256:=⟨⟨_,_,rfl,rfl,rfl,rfl⟩,rfl,Aa0⟩
theorem DN:Az Tryz.prog 190 0 0 35 1:=⟨⟨_,_,rfl,rfl,rfl,rfl⟩,rfl,Aa0⟩
theorem IX:Az Tryz.prog 190 1 1 125 1024:=⟨⟨_,_,rfl,rfl,rfl,rfl⟩,rfl,Aa0⟩
theorem Ow:BG Tryz.prog 191:=⟨⟨_,rfl,rfl⟩,rfl⟩
theorem Pq:SlT Tryz.prog 191 79 1 24 (.slice none 0 0):=⟨rfl,⟨_,rfl,rfl,rfl,rfl⟩,rfl⟩
theorem Gp:Az Tryz.prog 193 0 0 3 1:=⟨⟨_,_,rfl,rfl,rfl,rfl⟩,rfl,Aa0⟩
theorem IY:Az Tryz.prog 193 1 1 191 1:=⟨⟨_,_,rfl,rfl,rfl,rfl⟩,rfl,Aa0⟩
theorem Gq:Az Tryz.prog 193 2 2 36 1:=⟨⟨_,_,rfl,rfl,rfl,rfl⟩,rfl,Aa0⟩
theorem Xk:SlT Tryz.prog 201 5 1 1 (.int .u8 0):=⟨rfl,⟨_,rfl,rfl,rfl,rfl⟩,rfl⟩
theorem YE:BG Tryz.prog 238:=⟨⟨_,rfl,rfl⟩,rfl⟩
theorem DO:Az Tryz.prog 246 0 0 76 4:=⟨⟨_,_,rfl,rfl,rfl,rfl⟩,rfl,Aa0⟩
theorem HE:Az Tryz.prog 246 2 5 24 1:=⟨⟨_,_,rfl,rfl,rfl,rfl⟩,rfl,Aa0⟩
theorem Xb:BG Tryz.prog 256:=⟨⟨_,rfl,rfl⟩,rfl⟩
theorem JV:BG Tryz.prog 257:=⟨⟨_,rfl,rfl⟩,rfl⟩
theorem RX:SlT Tryz.prog 257 9 1 16 (Tryz.t9.zero.getD undef):=⟨rfl,⟨_,rfl,rfl,rfl,rfl⟩,rfl⟩
theorem Rz:Az Tryz.prog 259 0 0 256 1:=⟨⟨_,_,rfl,rfl,rfl,rfl⟩,rfl,Aa0⟩
theorem F8:Az Tryz.prog 259 1 1 257 1:=⟨⟨_,_,rfl,rfl,rfl,rfl⟩,rfl,Aa0⟩
theorem VZ:Az Tryz.prog 259 2 2 3 1:=⟨⟨_,_,rfl,rfl,rfl,rfl⟩,rfl,Aa0⟩
theorem WX:Ju Tryz.prog 263 2 101 4:=⟨rfl,rfl⟩
theorem Ox:BG Tryz.prog 264:=⟨⟨_,rfl,rfl⟩,rfl⟩
theorem Pr:SlT Tryz.prog 264 267 1 24 (.slice none 0 0):=⟨rfl,⟨_,rfl,rfl,rfl,rfl⟩,rfl⟩
theorem Wa:Az Tryz.prog 266 0 0 56 2:=⟨⟨_,_,rfl,rfl,rfl,rfl⟩,rfl,Aa0⟩
theorem F9:Az Tryz.prog 266 1 2 9 1:=⟨⟨_,_,rfl,rfl,rfl,rfl⟩,rfl,Aa0⟩
theorem IZ:Az Tryz.prog 266 2 3 264 1:=⟨⟨_,_,rfl,rfl,rfl,rfl⟩,rfl,Aa0⟩
theorem Rf:BG Tryz.prog 267:=⟨⟨_,rfl,rfl⟩,rfl⟩
theorem RY:SlT Tryz.prog 267 36 1 24 (.slice none 0 0):=⟨rfl,⟨_,rfl,rfl,rfl,rfl⟩,rfl⟩
theorem R0:Az Tryz.prog 305 0 0 28 1:=⟨⟨_,_,rfl,rfl,rfl,rfl⟩,rfl,Aa0⟩
theorem R1:Az Tryz.prog 305 1 1 28 1:=⟨⟨_,_,rfl,rfl,rfl,rfl⟩,rfl,Aa0⟩
theorem R2:Az Tryz.prog 310 0 0 28 1:=⟨⟨_,_,rfl,rfl,rfl,rfl⟩,rfl,Aa0⟩
theorem Y4:Fa Tryz.prog 335 2:=⟨⟨_,rfl,rfl⟩,rfl⟩
theorem Wb:Az Tryz.prog 335 0 0 5 1:=⟨⟨_,_,rfl,rfl,rfl,rfl⟩,rfl,Aa0⟩
theorem Wc:Az Tryz.prog 335 1 1 5 1:=⟨⟨_,_,rfl,rfl,rfl,rfl⟩,rfl,Aa0⟩
theorem Y8:Ju Tryz.prog 336 3 335 2:=⟨rfl,rfl⟩
theorem Y5:Fa Tryz.prog 336 6:=⟨⟨_,rfl,rfl⟩,rfl⟩
theorem Nn:Az Tryz.prog 357 0 0 9 1:=⟨⟨_,_,rfl,rfl,rfl,rfl⟩,rfl,Aa0⟩
theorem A9:Az Tryz.prog 357 1 1 3 1:=⟨⟨_,_,rfl,rfl,rfl,rfl⟩,rfl,Aa0⟩
def wd(s:BitVec 256)(i:Nat):Nat:=(s.toNat / 2 ^ (64*i)) % 2 ^ 64
def Bm(s:BitVec 256):Value:=.agg #[.int .u64 (wd s 0),.int .u64 (wd s 1),.int .u64 (wd s 2),.int .u64 (wd s 3)]
def Af(s:BitVec 256):List Value:=[.int .u64 (wd s 0),.int .u64 (wd s 1),.int .u64 (wd s 2),.int .u64 (wd s 3)]
theorem Hy(s:BitVec 256)(i:Nat):wd s i<2 ^ 64:=AbE _ (by decide)
theorem DF(s:BitVec 256)(i:Nat):inK .u64 (wd s i:Int):=by
 have:=Hy s i;refine⟨?_,?_⟩<;>simp only [IntKind.min,IntKind.max,IntKind.signed,IntKind.bits]<;>simp<;>omega
theorem DY(s:BitVec 256)(i j:Nat)(hj:j<64):(wd s i).testBit j=s.getLsbD (64*i+j):=by
 unfold wd;rw [Nat.testBit_mod_two_pow,Nat.testBit_div_two_pow,BitVec.testBit_toNat];simp [hj];congr 1;omega
theorem Vv{s t:BitVec 256}(h:∀i,i<4→wd s i=wd t i):s=t:=by
 apply AaL;intro k hk;have h1:=DY s (k / 64) (k % 64) (AbE _ (by decide));have h2:=DY t (k / 64) (k % 64) (AbE _ (by decide));rw [show 64*(k / 64)+k % 64=k by omega]at h1 h2;rw [←h1,←h2,h _ (by omega)]
theorem Zh{s t:BitVec 256}(h:Bm s=Bm t):s=t:=by
 unfold Bm at h;simp only [Value.agg.injEq,Array.mk.injEq,List.cons.injEq,Value.int.injEq,true_and,and_true,AbU]at h;apply Vv;intro i hi
 match i,hi with
 | 0,_=>exact h.1
 | 1,_=>exact h.2.1
 | 2,_=>exact h.2.2.1
 | 3,_=>exact h.2.2.2
theorem Us(s:BitVec 256)(b:Nat)(hb:b<256)(H:Aa):B8 Tryz.prog 92 #[Bm s,.int .u8 b] H (.bool (s.getLsbD b)):=by
 refine Al.of_vc Tryz.func92 rfl (Tryz.call92 _) ?_;(conv=>whnf);refine B0 (Af s) rfl ?_;intro p H1 hp hs1 hb1 ha1;refine LW (b:=6) (by decide) (ixa BW (by omega) (by omega) (ld1 Eh (v:=.int .u64 (wd s (b / 64))) ?_ trivial ?_))
 ·rw [hb1.cell];have:b / 2 ^ 6<4:=by omega
  rw [show b / 64=b / 2 ^ 6 by omega];generalize b / 2 ^ 6=q at this
  match q,this with
  | 0,_=>rfl
  | 1,_=>rfl
  | 2,_=>rfl
  | 3,_=>rfl
 refine Js (b:=63) ⟨by simp [IntKind.min,IntKind.signed],by simp [IntKind.max,IntKind.signed,IntKind.bits];omega⟩ ⟨by decide,by decide⟩ ?_;refine LW (Nat.le_trans Nat.and_le_right (by decide)) (Js (b:=1) (Qf (DF s _) (Nat.div_le_self _ _)) ⟨by decide,by decide⟩ ?_);(conv=>whnf);refine⟨?_,by rw [←hp];exact ha1⟩
 congr 1
 have e1:b &&& 63=b % 64:=by rw [show(63:Nat)=2 ^ 6 - 1 by decide,AaT]
 have h1:=DY s (b / 64) (b % 64) (AbE _ (by decide));rw [show 64*(b / 64)+b % 64=b by omega]at h1;rw [e1,←h1,Nat.testBit_eq_decide_div_mod_eq,Nat.and_one_is_mod];have:=Nat.mod_two_eq_zero_or_one (wd s (b / 64) / 2 ^ (b % 64));rcases this with h | h<;>simp [h]
theorem NN(a b:BitVec 256)(i:Nat):wd (a &&& b) i=wd a i &&& wd b i:=by
 apply AaU;intro j;rw [Nat.testBit_and];by_cases hj:j<64
 ·rw [DY _ _ _ hj,DY _ _ _ hj,DY _ _ _ hj,BitVec.getLsbD_and]
 ·rw [Aa1 (Aa2 (Hy _ _) (Aa8 (by decide) (by omega))),
   Aa1 (x:=wd a i) (Aa2 (Hy _ _) (Aa8 (by decide) (by omega)))];rfl
theorem Sk(a b:BitVec 256)(i:Nat):wd (a ||| b) i=wd a i ||| wd b i:=by
 apply AaU;intro j;rw [AbA];by_cases hj:j<64
 ·rw [DY _ _ _ hj,DY _ _ _ hj,DY _ _ _ hj,AaZ]
 ·rw [Aa1 (Aa2 (Hy _ _) (Aa8 (by decide) (by omega))),
   Aa1 (x:=wd a i) (Aa2 (Hy _ _) (Aa8 (by decide) (by omega))),
   Aa1 (x:=wd b i) (Aa2 (Hy _ _) (Aa8 (by decide) (by omega)))];rfl
theorem Qp(a b:BitVec 256)(H:Aa):B8 Tryz.prog 144 #[Bm a,Bm b] H (Bm (a &&& b)):=by
 refine Al.of_vc Tryz.func144 rfl (Tryz.call144 _) (B0 (Af a) rfl ?_);intro p H1 hp hs1 hb1 ha1;refine B0 (Af b) rfl ?_;intro q H2 hq hs2 hb2 ha2;refine Ak (Bm 0) (Af 0) rfl rfl ?_;intro r H3 hr hs3 hb3 ha3;replace hb1:=(hb1.agr ha2 (show p<q by omega)).agr ha3 (show p<r by omega);replace hb2:=hb2.agr ha3 (show q<r by omega);refine ixa BW (by decide) (by decide) (ld1 Eh ((hb1.cell _).trans rfl) trivial (ixa BW (by decide) (by decide) (ld1 Eh ((hb2.cell _).trans rfl) trivial (Js (DF a _) (DF b _) (ixa BW (by decide) (by decide) (ld1 Eh ((hb1.cell _).trans rfl) trivial (ixa BW (by decide) (by decide) (ld1 Eh ((hb2.cell _).trans rfl) trivial (Js (DF a _) (DF b _) (ixa BW (by decide) (by decide) (ld1 Eh ((hb1.cell _).trans rfl) trivial (ixa BW (by decide) (by decide) (ld1 Eh ((hb2.cell _).trans rfl) trivial (Js (DF a _) (DF b _) (ixa BW (by decide) (by decide) (ld1 Eh ((hb1.cell _).trans rfl) trivial (ixa BW (by decide) (by decide) (ld1 Eh ((hb2.cell _).trans rfl) trivial (Js (DF a _) (DF b _) (Cv BW (Bm 0) rfl [Value.int .u64 ((wd a 0 &&& wd b 0:Nat):Int),Value.int .u64 ((wd a 1 &&& wd b 1:Nat):Int),Value.int .u64 ((wd a 2 &&& wd b 2:Nat):Int),Value.int .u64 ((wd a 3 &&& wd b 3:Nat):Int)] rfl (stN rfl hb3 (show 0+4≤4 by decide) rfl ?_)))))))))))))))))))));intro H4 hb4 ha4 hs4;refine ldN (cs:=[Value.int .u64 ((wd a 0 &&& wd b 0:Nat):Int),Value.int .u64 ((wd a 1 &&& wd b 1:Nat):Int),Value.int .u64 ((wd a 2 &&& wd b 2:Nat):Int),Value.int .u64 ((wd a 3 &&& wd b 3:Nat):Int)]) AU (hb4.cells (fun j v hv=>by simpa [Ae,Af]using hv)) trivial (⟨?_,?_⟩)
 ·unfold Bm;rw [NN,NN,NN,NN]
 ·intro k hk;rw [ha4 k (by omega),ha3 k (by omega),ha2 k (by omega),ha1 k (by omega)]
theorem FG(a b:BitVec 256)(H:Aa):B8 Tryz.prog 162 #[Bm a,Bm b] H (Bm (a ||| b)):=by
 refine Al.of_vc Tryz.func162 rfl (Tryz.call162 _) (B0 (Af a) rfl ?_);intro p H1 hp hs1 hb1 ha1;refine B0 (Af b) rfl ?_;intro q H2 hq hs2 hb2 ha2;refine Ak (Bm 0) (Af 0) rfl rfl ?_;intro r H3 hr hs3 hb3 ha3;replace hb1:=(hb1.agr ha2 (show p<q by omega)).agr ha3 (show p<r by omega);replace hb2:=hb2.agr ha3 (show q<r by omega);refine ixa BW (by decide) (by decide) (ld1 Eh ((hb1.cell _).trans rfl) trivial (ixa BW (by decide) (by decide) (ld1 Eh ((hb2.cell _).trans rfl) trivial (vor (DF a _) (DF b _) (ixa BW (by decide) (by decide) (ld1 Eh ((hb1.cell _).trans rfl) trivial (ixa BW (by decide) (by decide) (ld1 Eh ((hb2.cell _).trans rfl) trivial (vor (DF a _) (DF b _) (ixa BW (by decide) (by decide) (ld1 Eh ((hb1.cell _).trans rfl) trivial (ixa BW (by decide) (by decide) (ld1 Eh ((hb2.cell _).trans rfl) trivial (vor (DF a _) (DF b _) (ixa BW (by decide) (by decide) (ld1 Eh ((hb1.cell _).trans rfl) trivial (ixa BW (by decide) (by decide) (ld1 Eh ((hb2.cell _).trans rfl) trivial (vor (DF a _) (DF b _) (Cv BW (Bm 0) rfl [Value.int .u64 ((wd a 0 ||| wd b 0:Nat):Int),Value.int .u64 ((wd a 1 ||| wd b 1:Nat):Int),Value.int .u64 ((wd a 2 ||| wd b 2:Nat):Int),Value.int .u64 ((wd a 3 ||| wd b 3:Nat):Int)] rfl (stN rfl hb3 (show 0+4≤4 by decide) rfl ?_)))))))))))))))))))));intro H4 hb4 ha4 hs4;refine ldN (cs:=[Value.int .u64 ((wd a 0 ||| wd b 0:Nat):Int),Value.int .u64 ((wd a 1 ||| wd b 1:Nat):Int),Value.int .u64 ((wd a 2 ||| wd b 2:Nat):Int),Value.int .u64 ((wd a 3 ||| wd b 3:Nat):Int)]) AU (hb4.cells (fun j v hv=>by simpa [Ae,Af]using hv)) trivial (⟨?_,?_⟩)
 ·unfold Bm;rw [Sk,Sk,Sk,Sk]
 ·intro k hk;rw [ha4 k (by omega),ha3 k (by omega),ha2 k (by omega),ha1 k (by omega)]
theorem WT(b:Nat):b &&& 63=b % 64:=by rw [show(63:Nat)=2 ^ 6 - 1 by decide,AaT]
theorem LO(s:BitVec 256)(b:Nat)(hb:b<256):(Af s)[b / 2 ^ 6]? =some (.int .u64 (wd s (b / 64))):=by
 have:b / 2 ^ 6<4:=by omega
 rw [show b / 64=b / 2 ^ 6 by omega];generalize b / 2 ^ 6=q at this
 match q,this with
 | 0,_=>rfl
 | 1,_=>rfl
 | 2,_=>rfl
 | 3,_=>rfl
theorem NP(s:BitVec 256)(b i:Nat)(hb:b<256):wd (s ||| AbF 256 b) i=if i=b / 64 then wd s i ||| 2 ^ (b % 64)else wd s i:=by
 apply AaU;intro j;by_cases hj:j<64
 ·rw [DY _ _ _ hj,AaZ,AbB];by_cases hi:i=b / 64
  ·rw [if_pos hi,AbA,DY _ _ _ hj,AbG]
   congr 1
   by_cases h:b % 64=j
   ·have:b=64*i+j:=by omega
    simp [h,←this,hb]
   ·have:¬b=64*i+j:=by omega
    simp [h,this]
  ·rw [if_neg hi,DY _ _ _ hj];have:¬b=64*i+j:=by omega
   simp [this]
 ·have hbig:2 ^ 64≤2 ^ j:=Aa8 (by decide) (by omega);rw [Aa1 (Aa2 (Hy _ _) hbig)];split
  ·rw [AbA,Aa1 (Aa2 (Hy _ _) hbig),AbG];simp;omega
  ·rw [Aa1 (Aa2 (Hy _ _) hbig)]
theorem Pi(s:BitVec 256)(b:Nat)(hb:b<256):(Af s).set (b / 64) (.int .u64 ((wd s (b / 64) ||| 2 ^ (b % 64):Nat):Int))=Af (s ||| AbF 256 b):=by
 have h:b / 64<4:=by omega
 unfold Af;rw [NP s b 0 hb,NP s b 1 hb,NP s b 2 hb,NP s b 3 hb];generalize b / 64=q at h
 match q,h with
 | 0,_=>rfl
 | 1,_=>rfl
 | 2,_=>rfl
 | 3,_=>rfl
theorem Yb(lo hi:Nat)(hlo:lo<256)(hhi:hi<256)(H:Aa):Al Tryz.prog 124 #[.int .u8 lo,.int .u8 hi] H fun v H'=>
  (∃s,v=Bm s∧∀b,b<256→s.getLsbD b=(decide (lo≤b)&&decide (b≤hi)))∧Agr (Old H) H H':=by
 refine Al.of_vc Tryz.func124 rfl (Tryz.call124 _) (Ak (Bm 0) (Af 0) rfl rfl ?_);intro r H1 hr hs1 hb1 ha1;refine Ak (Bm 0) (Af 0) rfl rfl ?_;intro p H2 hp hs2 hb2 ha2;replace hb1:=hb1.agr ha2 (show r<p by omega);(conv=>whnf);rw [w64 (x:=(lo:Int)) (by omega) (by omega)];refine A3.mk [6] (fun b:Nat=>[.int .i64 b]) (fun b H3=>lo≤b∧(b≤hi+1∨b=lo)∧Agr (fun k=>k≠p) H2 H3∧H3.size=H2.size∧∃s:BitVec 256,Blk H3 p 101 (Af s)∧∀c,c<256→s.getLsbD c=(decide (lo≤c)&&decide (c<b))) (fun b _=>256 - b) ?_ ?_
 ·(conv=>whnf);exact⟨lo,rfl,by omega,by omega,Agr.refl _ _,rfl,0,hb2,fun c hc=>by simp⟩
 ·rintro b H3 junk ⟨h1,h2,ha3,hs3,s,hb3,hs⟩;(conv=>whnf);rw [w64 (x:=(hi:Int)) (by omega) (by omega)];refine AB.mk (fun h=>?_) (fun h=>?_)<;>simp only [decide_eq_true_eq,decide_eq_false_iff_not]at h
  ·(conv=>whnf);refine Ar.tail 9 (sq [0,1,2,3,4,5,6,7,8] (.f 9 .e)) rfl (by kernel_rfl) (LW (b:=6) (by decide) (ixa BW (by omega) (by omega) ?_));refine ld1 Eh (v:=.int .u64 (wd s (b / 64))) (by rw [hb3.cell,AbI,AbO];exact LO s b (by omega)) trivial ?_;refine Js (b:=63) (Bs (by omega)) (Bs (by decide)) ?_;have hpow:2 ^ (b % 64)<2 ^ 64:=Nat.pow_lt_pow_right (by decide) (by omega);rw [WT];have hin:inK .u64 ((1*2 ^ (b % 64):Nat):Int):=Hd (by omega);refine Yn (a:=1) (by simp [IntKind.bits];omega) hin ?_;refine vor (DF s _) hin (ixa BW (by omega) (by omega) ?_);refine st1 Eh hb3 (by simp [Af];omega) rfl ?_;intro H4 hb4 ha4 hs4;(conv=>whnf);rw [w64 (x:=(b:Int)+1) (by omega) (by omega)];refine⟨rfl,b+1,by simp,⟨by omega,by omega,ha3.trans ha4,by omega,s ||| AbF 256 b,?_,fun c hc=>?_⟩,by omega⟩
   ·rw [AbI,AbO,Nat.one_mul]at hb4;rw [←Pi s b (by omega)];exact hb4
   ·rw [AaZ,hs c hc,AbB];by_cases hbc:b=c
    ·subst hbc;simp [hc,h1]
    ·have:(decide (c<b+1))=decide (c<b):=by simp;omega
     simp [hbc,this]
  ·(conv=>whnf);refine ldN (cs:=Af s) AU (hb3.cells (fun j v hv=>by simpa using hv)) trivial (stN rfl (hb1.agr ha3 (show r≠p by omega)) (show 0+4≤4 by decide) rfl ?_);intro H4 hb4 ha4 hs4;refine ldN (cs:=Af s) AU (hb4.cells (fun j v hv=>by simpa [Ae,Af]using hv)) trivial (⟨⟨s,rfl,fun c hc=>?_⟩,fun k hk=>?_⟩)
   ·rw [hs c hc];rcases h2 with h2 | h2
    ·have:(decide (c<b))=decide (c≤hi):=by simp;omega
     rw [this]
    ·subst h2;by_cases hcl:b≤c
     ·simp [show¬c<b by omega,show¬c≤hi by omega]
     ·simp [hcl]
   ·unfold Old at hk;rw [ha4 k (by omega),ha3 k (by omega),ha2 k (by omega),ha1 k (by omega)]
def Dz:Ty (BitVec 256) where
 size:=4
 rep _ _ cs s:=cs=Af s
 len h:=by rw [h];rfl
 frame h _:=h
 mono h _:=h
def GD(s:BitVec 256):List Lit:=[.int .u64 (wd s 0),.int .u64 (wd s 1),.int .u64 (wd s 2),.int .u64 (wd s 3)]
theorem Pj(a b:BitVec 256):decide (a=b)=true↔GD a=GD b:=by
 rw [decide_eq_true_eq];constructor
 ·rintro rfl;rfl
 ·intro h;unfold GD at h;simp only [List.cons.injEq,Lit.int.injEq,true_and,and_true,AbU]at h;apply Vv;intro i hi
  match i,hi with
  | 0,_=>exact h.1
  | 1,_=>exact h.2.1
  | 2,_=>exact h.2.2.1
  | 3,_=>exact h.2.2.2
theorem XW(s:BitVec 256)(i:Nat):(Lit.int .u64 (wd s i)).wf=true:=by
 have:=DF s i;unfold Lit.wf;simp only [Aa5,decide_eq_true_eq];exact this
theorem Pk(s:BitVec 256):Tryz.prog.keyLits 2 101 (Af s)=some (GD s):=by
 have c1:Tryz.prog.cellsOf 101=4:=rfl;have c2:Tryz.prog.cellsOf 99=1:=rfl;simp [Program.keyLits,Tryz.underlying101,Tryz.underlying99,c1,c2,Af,GD,XW,AaR,AaR.loop]
theorem NI(a b:BitVec 256){x y:Operand}{S:Nat→Prop}{H:Aa}{K:Value→Prop}(k:K (.bool (!decide (a=b)))):
  AH Tryz.prog (do eqGuard .neq 101 x y (Bm a) (Bm b);binOp .neq 101 (Bm a) (Bm b)) S H K:=
 Zr (m:=2) (la:=GD a) (lb:=GD b) rfl (by decide) (Tryz.eqGuardType101) rfl rfl (Pk a) (Pk b) (Pj a b) k
def AE(lo hi:Nat):BitVec 256:=BitVec.ofNat 256 ((2 ^ (hi+1 - lo) - 1) <<< lo)
theorem CT(lo hi b:Nat)(hb:b<256):(AE lo hi).getLsbD b=(decide (lo≤b)&&decide (b≤hi)):=by
 unfold AE;rw [BitVec.getLsbD_ofNat,Nat.testBit_shiftLeft,Nat.testBit_two_pow_sub_one];by_cases h:lo≤b
 ·simp only [hb,decide_true,AbW,h,ge_iff_le]
  congr 1
  rw [eq_iff_iff];omega
 ·simp [h]
theorem Fu(lo hi:Nat)(hlo:lo<256)(hhi:hi<256)(H:Aa):B8 Tryz.prog 124 #[.int .u8 lo,.int .u8 hi] H (Bm (AE lo hi)):=by
 refine(Yb lo hi hlo hhi H).mono ?_;rintro v H' ⟨⟨s,rfl,hs⟩,ha⟩;refine⟨?_,ha⟩
 congr 1
 apply AaL;intro b hb;rw [hs b hb,CT lo hi b hb]
theorem IA:AE 0 255=BitVec.allOnes 256:=by
 apply AaL;intro b hb;rw [CT 0 255 b hb,BitVec.getLsbD_allOnes];simp [hb];omega
structure EdM where
 fr:Int
 to:Int
 sil:Bool
 set:BitVec 256
structure NfM where
 st:Int
 start:Int
 fin:Int
 edges:List EdM
def NfM.has(a:NfM)(q:Int):Bool:=decide (0≤q)&&decide (q<a.st)&&decide (a.st≤65536)
theorem NfM.has_iff{a:NfM}{q:Int}:a.has q=true↔0≤q∧q<a.st∧a.st≤65536:=by
 unfold NfM.has;simp only [Aa5,decide_eq_true_eq,and_assoc]
inductive Tv(a:NfM):Int→Int→Prop
 | refl (p:Int):Tv a p p
 | step {p:Int} {e:EdM}:Tv a p e.fr→e∈a.edges→e.sil=true→a.has e.to=true→Tv a p e.to
abbrev PS:=Int→Prop
def clS(a:NfM)(X:PS):PS:=fun q=>∃p,X p∧Tv a p q
def EI(a:NfM):PS:=clS a fun q=>q=a.start∧a.has a.start=true
def Je(a:NfM)(X:PS)(b:Nat):PS:=fun q=>∃e∈a.edges,e.sil=false∧e.set.getLsbD b=true∧X e.fr∧a.has e.to=true∧q=e.to
def goS(a:NfM)(X:PS)(b:Nat):PS:=clS a (Je a X b)
def Ks(a:NfM)(s:List Nat):PS:=s.foldl (goS a) (EI a)
def NU(a:NfM)(X:PS):Prop:=∀e∈a.edges,e.sil=true→a.has e.to=true→X e.fr→X e.to
theorem PN{a:NfM}{X:PS}{q:Int}(h:X q):clS a X q:=⟨q,h,.refl q⟩
theorem IK(a:NfM)(X:PS):NU a (clS a X):=fun e h1 h2 h3 ⟨p,hp,hs⟩=>⟨p,hp,.step hs h1 h2 h3⟩
theorem FX{a:NfM}{X Y:PS}(h:∀q,X q→Y q)(hs:NU a Y):∀q,clS a X q→Y q:=by
 rintro q ⟨p,hp,hq⟩
 induction hq with
 | refl=>exact h _ hp
 | step _ h1 h2 h3 ih=>exact hs _ h1 h2 h3 ih
theorem F1{a:NfM}{X:PS}(h:∀q,X q→a.has q=true):∀q,clS a X q→a.has q=true:=FX h fun e _ _ h3 _=>h3
theorem DK(a:NfM):∀q,EI a q→a.has q=true:=F1 fun q ⟨e,h⟩=>e ▸ h
theorem Np(a:NfM)(X:PS)(b:Nat):∀q,goS a X b q→a.has q=true:=F1 fun q ⟨e,_,_,_,_,h,hq⟩=>hq ▸ h
theorem JL(a:NfM)(s:List Nat)(b:Nat):Ks a (s++[b])=goS a (Ks a s) b:=by unfold Ks;rw [List.foldl_append];rfl
theorem OB(a:NfM):∀(s:List Nat) (X:PS),(∀q,X q→a.has q=true)→∀q,s.foldl (goS a) X q→a.has q=true
 | [],X,h=>h
 | b::s,X,h=>OB a s (goS a X b) (Np a X b)
theorem UR(a:NfM)(s:List Nat):∀q,Ks a s q→a.has q=true:=OB a s _ (DK a)
theorem Mv(a:NfM):∀(s:List Nat) (X:PS),NU a X→NU a (s.foldl (goS a) X)
 | [],X,h=>h
 | b::s,X,h=>Mv a s (goS a X b) (IK a _)
theorem SW(a:NfM)(s:List Nat):NU a (Ks a s):=Mv a s _ (IK a _)
theorem Pt:∀{l m:List Int},l.Pairwise (·<·)→m.Pairwise (·<·)→(∀q,q∈l↔q∈m)→l=m
 | [],[],_,_,_=>rfl
 | [],y::m,_,_,h=>by have:=(h y).2 (by simp);cases this
 | x::l,[],_,_,h=>by have:=(h x).1 (by simp);cases this
 | x::l,y::m,hl,hm,h=>by
   obtain⟨h1,h2⟩:=AbK.1 hl;obtain⟨k1,k2⟩:=AbK.1 hm;have hxy:x=y:=by
    have hx:=(h x).1 (by simp);have hy:=(h y).2 (by simp);rcases AaC.1 hx with e | hx
    ·exact e
    ·rcases AaC.1 hy with e | hy
     ·exact e.symm
     ·have:=h1 y hy;have:=k1 x hx;omega
   subst hxy
   congr 1
   refine Pt h2 k2 fun q=>⟨fun hq=>?_,fun hq=>?_⟩
   ·rcases AaC.1 ((h q).1 (by simp [hq]))with e | h3
    ·have:=h1 q hq;omega
    ·exact h3
   ·rcases AaC.1 ((h q).2 (by simp [hq]))with e | h3
    ·have:=k1 q hq;omega
    ·exact h3
open Classical in
noncomputable def Cu(X:PS):List Int:=((AaR 65536).map fun(n:Nat)=>(n:Int)).filter fun q=>decide (X q)
theorem U1(X:PS):(Cu X).Pairwise (·<·):=by
 unfold Cu;refine List.Pairwise.filter _ ?_;rw [List.pairwise_map];exact List.pairwise_lt_range.imp fun h=>by omega
open Classical in
theorem Fi{X:PS}(h:∀q,X q→0≤q∧q<65536)(q:Int):q∈Cu X↔X q:=by
 unfold Cu;rw [List.mem_filter,decide_eq_true_eq,List.mem_map];constructor
 ·exact fun⟨_,hx⟩=>hx
 ·intro hx;obtain⟨h1,h2⟩:=h q hx;exact⟨⟨q.toNat,List.mem_range.2 (by omega),by omega⟩,hx⟩
theorem HG{X:PS}{l:List Int}(h:∀q,X q→0≤q∧q<65536)(hs:l.Pairwise (·<·))(hm:∀q,q∈l↔X q):l=Cu X:=
 Pt hs (U1 X) fun q=>(hm q).trans (Fi h q).symm
theorem Hi(X:PS):(Cu X).length≤65536:=by
 unfold Cu;exact Nat.le_trans (List.length_filter_le _ _) (by simp)
theorem Dk{a:NfM}{X:PS}(h:∀q,X q→a.has q=true):∀q,X q→0≤q∧q<65536:=fun q hq=>by
 have:=NfM.has_iff.1 (h q hq);omega
noncomputable def Q1(a:NfM)(s:List Nat):List Int:=Cu (Ks a s)
theorem Pb(a:NfM)(s:List Nat)(q:Int):q∈Q1 a s↔Ks a s q:=Fi (Dk (UR a s)) q
open Classical in
noncomputable def Tz(a:NfM)(s:List Nat):Bool:=decide (Ks a s a.fin)
theorem NX(a:NfM)(s:List Nat):Tz a s=true↔Ks a s a.fin:=by unfold Tz;simp
inductive Way(a:NfM):Int→List Nat→Int→Prop
 | nil {p:Int}:a.has p=true→Way a p [] p
 | sil {e:EdM} {s:List Nat} {q:Int}:e∈a.edges→e.sil=true→a.has e.fr=true→Way a e.to s q→Way a e.fr s q
 | hop {e:EdM} {b:Nat} {s:List Nat} {q:Int}:e∈a.edges→e.sil=false→e.set.getLsbD b=true→a.has e.fr=true→Way a e.to s q→Way a e.fr (b::s) q
end Go.Proofs.YtfbghcpdinlmcaaGreatDoor
