/- Parts of the proof: VBase, VHeap, VTy, VOps, VFacts, PClass, PReM, VMem -/
import Derived.OrdersHeld
import Derived.Deep.Quiet
import Derived.StillTail
import Derived.Tactics
import Derived.NoCompiler
import Derived.WalkKit
import Derived.Deep.MidRow
import Derived.Deep.AppendSrc
import Derived.DeepKeys
import Derived.Test.YtlnmhfhdjnenoaaGreatDoorProg
import Derived.Laws.Pointers
set_option maxHeartbeats 64000000
open Array renaming getElem?_eq_some_iff → Vd, toArray_toList → Vg, toList_map → Vm, ext' → Vn, map → Vr, replicate → V0, getElem?_eq_getElem → V9, getElem?_eq_none → VI, getElem?_modify → VM
open BitVec renaming getLsbD_or → V8, ofInt → VE, eq_of_getLsbD_eq → VG, getLsbD_twoPow → VO, ofInt_natCast → VQ, twoPow → VT, toNat_ofNat → VW
open Bool renaming false_eq_true → UV, and_eq_true → UZ, not_eq_true' → V7, or_eq_true → VH, true_and → Wj
open Int renaming reducePow → Vz, natCast_inj → We
open List renaming getElem?_eq_some_iff → UM, mem_of_getElem? → UN, pairwise_iff_getElem → UO, getElem?_eq_getElem → UQ, getD_eq_getElem?_getD → UU, length_append → UW, length_cons → Va, length_set → Vc, ext_getElem? → Ve, append_assoc → Vf, getElem?_take → Vi, eq_nil_of_length_eq_zero → Vj, getElem?_eq_none → Vk, replicate → Vl, getElem?_append_right → Vo, getElem?_append_left → Vp, rec → Vq, mem_singleton → Vt, getElem?_set → Vu, getElem?_set_self → Vw, map_cons → Vx, getElem?_of_mem → V3, take_length_add_append → V4, drop_length_add_append → V5, length_take → VB, getElem?_cons_succ → VF, set_getElem_self → VK, length_singleton → VP, getElem?_set_ne → VS, getElem_set → Wb, range → Wc, take_left' → Wd, mem_append → Wg, mem_cons → Wh
open Nat renaming noConfusion → UL, testBit_lt_two_pow → UP, lt_of_lt_of_le → UR, mod_eq_of_lt → US, or_lt_two_pow → UT, mul_le_mul_right → UX, pow_le_pow_right → UY, ne_of_beq_eq_false → Vb, min_eq_left → Vh, succ_mul → Vs, le_refl → Vv, reduceSub → Vy, and_two_pow_sub_one_eq_mod → V1, eq_of_testBit_eq → V2, lt_or_gt_of_ne → V6, beq → VA, zero_add → VD, zero_le → VJ, eq_of_beq_eq_true → VL, testBit_or → VN, mod_lt → VR, testBit_two_pow → VU, lt_or_ge → VV, le_trans → VX, add_mul → VY, mul_one → VZ, div_le_self → Wf, reducePow → Wi
open Option renaming bind_some → Wa
set_option linter.unusedSimpArgs false
set_option linter.unusedVariables false
set_option maxRecDepth 100000
namespace Go.VC
abbrev Aa:=Array Obj
abbrev Fr:=List Value
structure Env(w w':World):Prop where
 os:w'.os=w.os
 tape:w'.tape=w.tape
 output:w'.output=w.output
theorem Env.refl(w:World):Env w w:=⟨rfl,rfl,rfl⟩
theorem Env.trans{a b c:World}(h:Env a b)(k:Env b c):Env a c:=
 ⟨k.os.trans h.os,k.tape.trans h.tape,k.output.trans h.output⟩
def Ao(P:Program)(f:FuncId)(args:Array Value)(H:Aa)(R:Value→Aa→Prop):Prop:=
 ∀w:World,w.heap=H→(callFunc f args).run P w= .ok (.enter f args) w∧
  Calls P f args w fun e w'=>∃v,e= .returned v∧Env w w'∧R v w'.heap
theorem Ao.mono{P:Program}{f:FuncId}{args:Array Value}{H:Aa}{R R':Value→Aa→Prop}
  (h:Ao P f args H R) (hr:∀v H',R v H'→R' v H'):Ao P f args H R':=fun w hw=>
 ⟨(h w hw).1,(h w hw).2.mono fun _ _ ⟨v,he,hv,r⟩=>⟨v,he,hv,hr _ _ r⟩⟩
def Agr(S:Nat→Prop)(H H':Aa):Prop:=∀k,S k→H'[k]? =H[k]?
theorem Agr.refl(S:Nat→Prop)(H:Aa):Agr S H H:=fun _ _=>rfl
theorem Agr.trans{S:Nat→Prop}{a b c:Aa}(h:Agr S a b)(k:Agr S b c):Agr S a c:=
 fun i hi=>(k i hi).trans (h i hi)
theorem Agr.mono{S S':Nat→Prop}{a b:Aa}(h:Agr S a b)(hs:∀k,S' k→S k):Agr S' a b:=
 fun i hi=>h i (hs i hi)
structure AB(P:Program)(m:Sem Value)(S:Nat→Prop)(H:Aa)(K:Value→Prop):Prop where
 in_::
 out_:∃v,(∀w:World,Agr S H w.heap→m.run P w= .ok v w)∧K v
structure BQ(P:Program)(m:Sem Value)(H:Aa)(K:Value→Aa→Prop):Prop where
 in_::
 out_:∀w:World,w.heap=H→∃v w',m.run P w= .ok v w'∧Env w w'∧K v w'.heap
structure CP(P:Program)(m:Sem Unit)(H:Aa)(K:Aa→Prop):Prop where
 in_::
 out_:∀w:World,w.heap=H→∃w',m.run P w= .ok () w'∧Env w w'∧K w'.heap
structure Ai(P:Program)(f:FuncId)(args:Array Value)(H:Aa)(K:Value→Aa→Prop):Prop where
 in_::
 out_:Ao P f args H K
structure Ho(P:Program)(f:FuncId)(args:Array Value)(S:Nat→Prop)(H:Aa)(K:Value→Prop):Prop where
 in_::
 out_:∃v,(∀H',Agr S H H'→Ao P f args H' fun v' H''=>v'=v∧Agr S H' H'')∧K v
theorem AB.mk{P:Program}{m:Sem Value}{S:Nat→Prop}{H:Aa}{K:Value→Prop}(v:Value)
  (h:∀w:World,Agr S H w.heap→m.run P w= .ok v w) (k:K v):AB P m S H K:=by
 exact⟨⟨v,h,k⟩⟩
theorem BQ.mk{P:Program}{m:Sem Value}{H:Aa}{K:Value→Aa→Prop}
  (h:∀w:World,w.heap=H→∃v w',m.run P w= .ok v w'∧Env w w'∧K v w'.heap):BQ P m H K:=by
 exact⟨h⟩
theorem CP.mk{P:Program}{m:Sem Unit}{H:Aa}{K:Aa→Prop}
  (h:∀w:World,w.heap=H→∃w',m.run P w= .ok () w'∧Env w w'∧K w'.heap):CP P m H K:=by
 exact⟨h⟩
theorem Ai.mk{P:Program}{f:FuncId}{args:Array Value}{H:Aa}{K R:Value→Aa→Prop}
  (h:Ao P f args H R) (k:∀v H',R v H'→K v H'):Ai P f args H K:=by
 exact⟨h.mono k⟩
theorem Ho.mk{P:Program}{f:FuncId}{args:Array Value}{S:Nat→Prop}{H:Aa}{K:Value→Prop}(v:Value)
  (h:∀H',Agr S H H'→Ao P f args H' fun v' H''=>v'=v∧Agr S H' H'') (k:K v):Ho P f args S H K:=by
 exact⟨⟨v,h,k⟩⟩
def AQ(b:Bool)(p q:Prop):Prop:=match b with | true=>p | false=>q
theorem AQ.mk{b:Bool}{p q:Prop}(h:b=true→p)(k:b=false→q):AQ b p q:=by
 cases b;exact k rfl;exact h rfl
noncomputable def rdK{R:Type}(l:Fr):Nat→(Value→R)→R:=
 Vq (motive:=fun _=>Nat→(Value→R)→R) (fun _ K=>K undef) (fun v _ ih n K=>Nat.casesOn n (K v) fun m=>ih m K) l
noncomputable def wrK{R:Type}(l:Fr):Nat→Value→(Fr→R)→R:=
 Vq (motive:=fun _=>Nat→Value→(Fr→R)→R) (fun _ _ K=>K []) (fun x l ih n v K=>Nat.casesOn n (K (v::l)) fun m=>ih m v fun l'=>K (x::l')) l
noncomputable def evK{R:Type}(fr:Fr)(x:Operand)(K:Value→R):R:=
 match x with
 | .tmp t=>rdK fr t K
 | .const v=>K v
 | .global g=>K (.pointer (some ⟨g,0,none⟩))
 | .func f=>K (.func (.func f) #[] #[])
noncomputable def FM{R:Type}(fr:Fr)(l:List Operand):(List Value→R)→R:=
 Vq (motive:=fun _=>(List Value→R)→R) (fun K=>K []) (fun x _ ih K=>evK fr x fun v=>ih fun vs=>K (v::vs)) l
noncomputable def Cj{R:Type}(dst:Option Tmp)(fr:Fr)(v:Value)(K:Fr→R):R:=
 match dst with
 | none=>K fr
 | some d=>wrK fr d v K
def rd(fr:Fr)(i:Nat):Value:=fr.getD i undef
def evF(fr:Fr):Operand→Value
 | .tmp t=>rd fr t
 | .const v=>v
 | .global g=>.pointer (some ⟨g,0,none⟩)
 | .func f=>.func (.func f) #[] #[]
theorem CF{R:Type}(K:Value→R):∀(fr:Fr) (i:Nat),rdK fr i K=K (rd fr i)
 | [],_=>rfl
 | _::_,0=>rfl
 | _::l,n+1=>by show rdK l n K=_;rw [CF K l n];simp [rd]
theorem D6{R:Type}:∀(fr:Fr) (i:Nat) (v:Value) (K:Fr→R),wrK fr i v K=K (fr.set i v)
 | [],_,_,_=>rfl
 | _::_,0,_,_=>rfl
 | x::l,n+1,v,K=>by show wrK l n v (fun l'=>K (x::l'))=_;rw [D6 l n v];rfl
theorem FL{R:Type}(fr:Fr)(x:Operand)(K:Value→R):evK fr x K=K (evF fr x):=by
 cases x<;>first | rfl | exact CF K fr _
theorem FN{R:Type}(fr:Fr):∀(l:List Operand) (K:List Value→R),FM fr l K=K (l.map (evF fr))
 | [],_=>rfl
 | x::l,K=>by show evK fr x (fun v=>FM fr l fun vs=>K (v::vs))=_;simp only [FL,FN fr l,Vx]
theorem BF{R:Type}(dst:Option Tmp)(fr:Fr)(v:Value)(K:Fr→R):
  Cj dst fr v K=K (match dst with | none=>fr | some d=>fr.set d v):=by
 cases dst with
 | none=>rfl
 | some d=>exact D6 fr d v K
structure At(fr:Fr)(a:Act):Prop where
 tmps:a.tmps.toList=fr
 defers:a.defers=[]
theorem At.eval{fr:Fr}{a:Act}(h:At fr a)(x:Operand):a.eval x=evF fr x:=by
 cases x with
 | tmp t=>obtain⟨rfl,_⟩:=h;simp [Act.eval,evF,rd]
 | const v=>rfl
 | global g=>rfl
 | func f=>rfl
theorem At.evalF{fr:Fr}{a:Act}(h:At fr a):a.eval=evF fr:=funext h.eval
theorem At.put{fr:Fr}{a:Act}(h:At fr a)(dst:Option Tmp)(v:Value):
  At (match dst with | none=>fr | some d=>fr.set d v) (a.put dst v):=by
 obtain⟨rfl,h2⟩:=h;cases dst with
 | none=>exact⟨rfl,h2⟩
 | some d=>exact⟨by simp [Act.put],h2⟩
def kEq:IntKind→IntKind→Bool
 | .i8,.i8 | .i16,.i16 | .i32,.i32 | .i64,.i64 | .u8,.u8 | .u16,.u16 | .u32,.u32 | .u64,.u64=>true
 | _,_=>false
theorem SO{a b:IntKind}(h:kEq a b=true):a=b:=by cases a<;>cases b<;>first | rfl | simp [kEq]at h
def KU:BinOp→Value→Value→Option Value
 | .add,.int k a,.int k' b=>match kEq k k' with | true=>some (.int k (k.wrap (a+b))) | false=>none
 | .sub,.int k a,.int k' b=>match kEq k k' with | true=>some (.int k (k.wrap (a - b))) | false=>none
 | .mul,.int k a,.int k' b=>match kEq k k' with | true=>some (.int k (k.wrap (a*b))) | false=>none
 | .eql,.int k a,.int k' b=>match kEq k k' with | true=>some (.bool (a==b)) | false=>none
 | .neq,.int k a,.int k' b=>match kEq k k' with | true=>some (.bool (a != b)) | false=>none
 | .lss,.int k a,.int k' b=>match kEq k k' with | true=>some (.bool (decide (a<b))) | false=>none
 | .leq,.int k a,.int k' b=>match kEq k k' with | true=>some (.bool (decide (a≤b))) | false=>none
 | .gtr,.int k a,.int k' b=>match kEq k k' with | true=>some (.bool (decide (b<a))) | false=>none
 | .geq,.int k a,.int k' b=>match kEq k k' with | true=>some (.bool (decide (b≤a))) | false=>none
 | .eql,.string a,.string b=>some (.bool (a.toList==b.toList))
 | .neq,.string a,.string b=>some (.bool (!(a.toList==b.toList)))
 | _,_,_=>none
theorem BS{P:Program}(op:BinOp)(t:TypeId)(x y:Operand)(k k':IntKind)(a b:Int)(w:World):
  (eqGuard op t x y (.int k a) (.int k' b)).run P w= .ok () w:=by
 cases op<;>simp [eqGuard]
theorem EZ{P:Program}(op:BinOp)(t:TypeId)(x y:Operand)(a b:ByteArray)(w:World):
  (eqGuard op t x y (.string a) (.string b)).run P w= .ok () w:=by
 cases op<;>simp [eqGuard]
theorem LY{P:Program}{op:BinOp}{t:TypeId}{x y:Operand}{a b v:Value}(h:KU op a b=some v)(w:World):
  (do eqGuard op t x y a b;binOp op t a b:Sem Value).run P w= .ok v w:=by
 unfold KU at h;split at h
 all_goals try (split at h)
 all_goals first
  | (cases h;done)
  | (rename_i hk;obtain rfl:=SO hk;cases h;simp [BS,binOp,Op.intArith,Op.intCmp];done)
  | (cases h;simp [EZ,binOp,Op.stringOp];done)
def ND:UnOp→Value→Option Value
 | .not,.bool b=>some (.bool (!b))
 | .neg,.int k n=>some (.int k (k.wrap (0 - n)))
 | _,_=>none
theorem NE{P:Program}{op:UnOp}{a v:Value}(h:ND op a=some v)(w:World):(Op.unary op a).run P w= .ok v w:=by
 unfold ND at h;split at h<;>cases h<;>simp [Op.unary,Op.intArith]
noncomputable def OM{R:Type}(fr:Fr)(x:Option Operand)(K:Option Value→R):R:=
 match x with
 | none=>K none
 | some x=>evK fr x fun v=>K (some v)
theorem NX{R:Type}(fr:Fr)(x:Option Operand)(K:Option Value→R):OM fr x K=K (x.map (evF fr)):=by
 cases x<;>simp [OM,FL]
noncomputable def Rs{R:Type}(fr:Fr)(l:List (Nat×Operand)):(List (Nat×Value)→R)→R:=
 Vq (motive:=fun _=>(List (Nat×Value)→R)→R) (fun K=>K []) (fun p _ ih K=>evK fr p.2 fun v=>ih fun vs=>K ((p.1,v)::vs)) l
theorem Ld{R:Type}(fr:Fr):∀(l:List (Nat×Operand)) (K:List (Nat×Value)→R),Rs fr l K=K (l.map fun(i,x)=>(i,evF fr x))
 | [],_=>rfl
 | (i,x)::l,K=>by show evK fr x (fun v=>Rs fr l fun vs=>K ((i,v)::vs))=_;simp only [FL,Ld fr l,Vx]
def Ly:Option TypeDesc→List Value→Option Value
 | some (.slice _),[.slice _ n _]=>some (.int .i64 n)
 | some .string,[.string s]=>some (.int .i64 s.size)
 | _,_=>none
theorem Mr{P:Program}{t ty:TypeId}{vs:List Value}{v:Value}(h:Ly (P.underlying t) vs=some v)(w:World):
  (Builtin.len_ #[t] ty vs.toArray).run P w= .ok v w:=by
 unfold Ly at h;split at h<;>cases h<;>rename_i hu<;>simp [Builtin.len_,run_underlying hu,goInt]
def JA:Option TypeDesc→Option TypeDesc→Value→Option Value
 | some _,some (.int k),.int _ n=>some (.int k (k.wrap n))
 | some _,some .string,.string s=>some (.string s)
 | _,_,_=>none
theorem La{P:Program}{s d:TypeId}{x v:Value}(h:JA (P.underlying s) (P.underlying d) x=some v)(w:World):
  (convert s d x).run P w= .ok v w:=by
 unfold JA at h;split at h<;>cases h<;>rename_i h1 h2
 ·simp [convert,run_underlying h1,run_underlying h2,Conv.intToInt]
 ·simp [convert,run_underlying h1,run_underlying h2]
def Kh(P:Program)(S:Nat→Prop)(o:Oper)(fr:Fr)(H:Aa)(K:Value→Prop):Prop:=
 match o.op with
 | .move x=>evK fr x K
 | .assign x=>evK fr x K
 | .pick c a b=>evK fr c fun vc=>match vc with
   | .bool b'=>AQ b' (evK fr a K) (evK fr b K)
   | _=>False
 | .binOp op t x y _=>evK fr x fun a=>evK fr y fun b=>match KU op a b with
   | some v=>K v
   | none=>AB P (do eqGuard op t x y a b;binOp op t a b) S H K
 | .unOp op _ x=>evK fr x fun a=>match ND op a with
   | some v=>K v
   | none=>AB P (Op.unary op a) S H K
 | .convert s d x=>evK fr x fun a=>match JA (P.underlying s) (P.underlying d) a with
   | some v=>K v
   | none=>AB P (convert s d a) S H K
 | .extract x i=>evK fr x fun a=>match a with
   | .tuple vs=>match vs.toList[i]? with
     | some v=>K v
     | none=>False
   | _=>False
 | .nilCheck x=>evK fr x fun a=>match a with
   | .pointer (some p)=>K (.pointer (some p))
   | _=>False
 | .makeInterface t x=>evK fr x fun a=>match P.underlying t with
   | some (.interface _)=>False
   | some _=>K (.iface t a)
   | none=>False
 | .makeFunc fn first cap=>FM fr first.toList fun vs=>FM fr cap.toList fun us=>K (.func fn vs.toArray us.toArray)
 | .load t a=>evK fr a fun p=>AB P (Instr.loadAt t p) S H K
 | .index t x i=>evK fr x fun a=>evK fr i fun j=>AB P (Instr.index t a j) S H K
 | .indexAddr t x i=>evK fr x fun a=>evK fr i fun j=>AB P (Instr.indexAt t a j) S H K
 | .fieldAddr s x f=>evK fr x fun a=>AB P (Instr.fieldAt s a f) S H K
 | .field t x f=>evK fr x fun a=>AB P (Instr.field t a f) S H K
 | .slice t x lo hi mx=>evK fr x fun a=>OM fr lo fun l=>OM fr hi fun h=>OM fr mx fun m=>AB P (Instr.sliceAt t a l h m) S H K
 | .lookup t x i ok=>evK fr x fun a=>evK fr i fun j=>AB P (Instr.lookup t a j ok) S H K
 | .build t ps=>Rs fr ps.toList fun vs=>AB P (Instr.build t vs.toArray) S H K
 | .typeAssert x t a ok=>evK fr x fun v=>AB P (Instr.typeAssert v t a ok) S H K
 | .call {callee:=.builtin .len,args,argTypes}=>FM fr args.toList fun vs=>
   match argTypes.toList with
   | [t]=>match Ly (P.underlying t) vs with
     | some v=>K v
     | none=>AB P (Builtin.len_ argTypes o.type vs.toArray) S H K
   | _=>AB P (Builtin.len_ argTypes o.type vs.toArray) S H K
 | .call {callee:=.builtin .cap,args,argTypes}=>FM fr args.toList fun vs=>AB P (Builtin.cap_ argTypes o.type vs.toArray) S H K
 | .call {callee:=.builtin .min,args,argTypes}=>FM fr args.toList fun vs=>AB P (Builtin.min_ argTypes o.type vs.toArray) S H K
 | .call {callee:=.builtin .max,args,argTypes}=>FM fr args.toList fun vs=>AB P (Builtin.max_ argTypes o.type vs.toArray) S H K
 | _=>False
def IF(o:Oper):Bool:=
 match o.op with
 | .move _ | .assign _ | .pick .. | .binOp .. | .unOp .. | .convert .. | .extract .. | .nilCheck _ | .makeInterface .. | .makeFunc .. | .load .. | .index ..
 | .indexAddr .. | .fieldAddr .. | .field .. | .slice .. | .lookup .. | .build .. | .typeAssert .. =>true
 | .call {callee:=.builtin .len, .. } | .call {callee:=.builtin .cap, .. } | .call {callee:=.builtin .min, .. } | .call {callee:=.builtin .max, .. }=>true
 | _=>false
theorem AB.out{P:Program}{m:Sem Value}{S:Nat→Prop}{H:Aa}{K:Value→Prop}(h:AB P m S H K):
  ∃v,(∀w:World,Agr S H w.heap→m.run P w= .ok v w)∧K v:=by exact h.out_
theorem Bn{P:Program}{m:Sem Value}{v:Value}{w w':World}(h:m.run P w= .ok v w'):
  (do pure (Next.value (←m)):Sem Next).run P w= .ok (.value v) w':=by simp [h]
theorem QA{P:Program}{m:Sem Unit}{w w':World}(h:m.run P w= .ok () w'):
  (do m;pure Next.skip:Sem Next).run P w= .ok .skip w':=by simp [h]
theorem DW{P:Program}{S:Nat→Prop}{o:Oper}{fr:Fr}{H:Aa}{K:Value→Prop}(h:Kh P S o fr H K):
  ∃v,(∀w:World,Agr S H w.heap→(execOp (evF fr) o).run P w= .ok (.value v) w)∧K v:=by
 unfold Kh at h;split at h<;>rename_i ho<;>simp only [FL,FN,NX,Ld]at h
 all_goals simp only [execOp,ho]
 case h_1=>exact⟨_,fun w _=>by simp,h⟩
 case h_2=>exact⟨_,fun w _=>by simp,h⟩
 case h_3=>
  split at h
  ·rename_i b hb;cases b
   ·exact⟨_,fun w _=>by simp [hb,asBool],h⟩
   ·exact⟨_,fun w _=>by simp [hb,asBool],h⟩
  ·exact h.elim
 case h_4=>
  split at h
  ·rename_i v hv;exact⟨v,fun w _=>Bn (LY hv w),h⟩
  ·obtain⟨v,hv,k⟩:=h.out;exact⟨v,fun w hw=>Bn (hv w hw),k⟩
 case h_5=>
  split at h
  ·rename_i v hv;exact⟨v,fun w _=>Bn (NE hv w),h⟩
  ·obtain⟨v,hv,k⟩:=h.out;exact⟨v,fun w hw=>Bn (hv w hw),k⟩
 case h_6=>
  split at h
  ·rename_i v hv;exact⟨v,fun w _=>Bn (La hv w),h⟩
  ·obtain⟨v,hv,k⟩:=h.out;exact⟨v,fun w hw=>Bn (hv w hw),k⟩
 case h_7=>
  split at h
  ·split at h
   ·rename_i vs hvs _ v hv;refine⟨v,fun w _=>Bn ?_,h⟩;simp at hv;simp [Instr.extract,hvs,hv]
   ·exact h.elim
  ·exact h.elim
 case h_8=>
  split at h
  ·rename_i p hp;exact⟨_,fun w _=>by simp [hp],h⟩
  ·exact h.elim
 case h_9=>
  split at h
  ·exact h.elim
  ·rename_i d hn hd;refine⟨_,fun w _=>Bn ?_,h⟩;cases d<;>first | (exact(hn _ rfl).elim) | simp [Instr.makeInterface,run_underlying hd]
  ·exact h.elim
 case h_10=>
  refine⟨_,fun w _=>Bn ?_,h⟩;simp only [←Vm,Vg];simp [Instr.makeFunc]
 all_goals try
  obtain⟨v,hv,k⟩:=h.out;exact⟨v,fun w hw=>Bn (hv w hw),k⟩
 case h_18=>
  obtain⟨v,hv,k⟩:=h.out;simp only [←Vm,Vg]at hv;exact⟨v,fun w hw=>Bn (hv w hw),k⟩
 all_goals simp only [←Vm,Vg]at h
 case h_20=>
  split at h
  ·rename_i t ht;split at h
   ·rename_i v hv;refine⟨v,fun w _=>Bn (m:=Builtin.len_ _ _ _) ?_,h⟩;have e:∀{A:Array TypeId},A.toList=[t]→A= #[t]:=fun h=>Vn (by simpa using h);obtain rfl:=e ht;have h3:=Mr (ty:=o.type) hv w;rwa [Vg]at h3
   ·obtain⟨v,hv,k⟩:=h.out;exact⟨v,fun w hw=>Bn (m:=Builtin.len_ _ _ _) (hv w hw),k⟩
  ·obtain⟨v,hv,k⟩:=h.out;exact⟨v,fun w hw=>Bn (m:=Builtin.len_ _ _ _) (hv w hw),k⟩
 case h_21=>
  obtain⟨v,hv,k⟩:=h.out;exact⟨v,fun w hw=>Bn (m:=Builtin.cap_ _ _ _) (hv w hw),k⟩
 case h_22=>
  obtain⟨v,hv,k⟩:=h.out;exact⟨v,fun w hw=>Bn (m:=Builtin.min_ _ _ _) (hv w hw),k⟩
 case h_23=>
  obtain⟨v,hv,k⟩:=h.out;exact⟨v,fun w hw=>Bn (m:=Builtin.max_ _ _ _) (hv w hw),k⟩
 all_goals exact h.elim
structure Hd(P:Program)(t:TypeId)(x:Value)(name:String)(args:Array Value)(H:Aa)(K:Value→Aa→Prop):Prop where
 in_::
 out_:∃f as1,(∀w:World,w.heap=H→(callMethod (.iface t x) name args).run P w= .ok (.enter f as1) w)∧Ao P f as1 H K
def NS(P:Program)(q:Bool)(S:Nat→Prop)(f:Value)(args:List Value)(H:Aa)(K:Value→Aa→Prop):Prop:=
 match f with
 | .func (.func g) first cap=>match q with
   | true=>Ho P g (first.toList++args++cap.toList).toArray S H fun v=>K v H
   | false=>Ai P g (first.toList++args++cap.toList).toArray H K
 | _=>False
def SC(P:Program)(o:Oper)(fr:Fr)(H:Aa)(K:Value→Aa→Prop):Prop:=
 match o.op with
 | .alloc t=>BQ P (Instr.alloc t true (.tuple #[])) H K
 | .box t x=>evK fr x fun v=>BQ P (Instr.box t v) H K
 | .buildSlice t n ps=>Rs fr ps.toList fun vs=>BQ P (Instr.buildSlice t n vs.toArray) H K
 | .store t a x=>evK fr a fun p=>evK fr x fun v=>CP P (Instr.storeAt t p v) H fun H'=>K undef H'
 | .makeMap t r=>OM fr r fun v=>BQ P (Instr.makeMap t v) H K
 | .makeSlice t l c=>evK fr l fun n=>evK fr c fun m=>BQ P (Instr.makeSlice t n m) H K
 | .mapUpdate t m k x=>evK fr m fun r=>evK fr k fun j=>evK fr x fun v=>CP P (Instr.mapUpdate t r j v) H fun H'=>K undef H'
 | .insert t m k x=>evK fr m fun r=>evK fr k fun j=>evK fr x fun v=>CP P (Instr.mapUpdate t r j v) H fun H'=>K undef H'
 | .mapEntry t m k=>evK fr m fun r=>evK fr k fun j=>BQ P (Instr.mapEntry t r j) H K
 | .entryStore t m s x=>evK fr m fun r=>evK fr s fun j=>evK fr x fun v=>CP P (Instr.entryStore t r j v) H fun H'=>K undef H'
 | .range t x=>evK fr x fun v=>BQ P (Instr.range t v) H K
 | .next it s=>evK fr it fun v=>BQ P (Instr.next v s o.type) H K
 | .entry it=>evK fr it fun v=>BQ P (Instr.entry v) H K
 | .convert s d x=>evK fr x fun v=>BQ P (convert s d v) H K
 | .call {callee:=.builtin .append,args,argTypes}=>FM fr args.toList fun vs=>BQ P (Builtin.append_ argTypes o.type vs.toArray) H K
 | .call {callee:=.builtin .copy,args,argTypes}=>FM fr args.toList fun vs=>BQ P (Builtin.copy_ argTypes o.type vs.toArray) H K
 | .call {callee:=.builtin .delete,args,argTypes}=>FM fr args.toList fun vs=>BQ P (Builtin.delete_ argTypes o.type vs.toArray) H K
 | .call {callee:=.builtin .clear,args,argTypes}=>FM fr args.toList fun vs=>BQ P (Builtin.clear_ argTypes o.type vs.toArray) H K
 | .call {callee:=.invoke r name,args, .. }=>evK fr r fun v=>FM fr args.toList fun vs=>match v with
   | .iface t x=>Hd P t x name vs.toArray H K
   | _=>False
 | .call {callee:=.value f,args, .. }=>evK fr f fun g=>FM fr args.toList fun vs=>NS P false (fun _=>True) g vs H K
 | _=>False
def Fh(P:Program)(o:Oper):Bool:=
 match o.op with
 | .convert s d _=>match P.underlying s,P.underlying d with
   | some (.slice _),_=>false
   | some .string,some (.slice _)=>false
   | _,_=>true
 | _=>true
def opK(P:Program)(q:Bool)(S:Nat→Prop)(o:Oper)(fr:Fr)(H:Aa)(K:Value→Aa→Prop):Prop:=
 match IF o&&Fh P o with
 | true=>Kh P S o fr H fun v=>K v H
 | false=>match q with
   | true=>match o.op with
     | .call {callee:=.value f,args, .. }=>evK fr f fun g=>FM fr args.toList fun vs=>NS P true S g vs H K
     | _=>False
   | false=>SC P o fr H K
theorem BQ.out{P:Program}{m:Sem Value}{H:Aa}{K:Value→Aa→Prop}(h:BQ P m H K):
  ∀w:World,w.heap=H→∃v w',m.run P w= .ok v w'∧Env w w'∧K v w'.heap:=by exact h.out_
theorem CP.out{P:Program}{m:Sem Unit}{H:Aa}{K:Aa→Prop}(h:CP P m H K):
  ∀w:World,w.heap=H→∃w',m.run P w= .ok () w'∧Env w w'∧K w'.heap:=by exact h.out_
theorem Ai.out{P:Program}{f:FuncId}{args:Array Value}{H:Aa}{K:Value→Aa→Prop}(h:Ai P f args H K):Ao P f args H K:=by
 exact h.out_
theorem Ho.out{P:Program}{f:FuncId}{args:Array Value}{S:Nat→Prop}{H:Aa}{K:Value→Prop}(h:Ho P f args S H K):
  ∃v,(∀H',Agr S H H'→Ao P f args H' fun v' H''=>v'=v∧Agr S H' H'')∧K v:=by exact h.out_
theorem Hd.out{P:Program}{t:TypeId}{x:Value}{name:String}{args:Array Value}{H:Aa}{K:Value→Aa→Prop}(h:Hd P t x name args H K):
  ∃f as1,(∀w:World,w.heap=H→(callMethod (.iface t x) name args).run P w= .ok (.enter f as1) w)∧Ao P f as1 H K:=by exact h.out_
theorem Hd.mk{P:Program}{t:TypeId}{x:Value}{name:String}{args:Array Value}{H:Aa}{K R:Value→Aa→Prop}(f:FuncId)(as1:Array Value)
  (hm:∀w:World,(callMethod (.iface t x) name args).run P w= .ok (.enter f as1) w) (h:Ao P f as1 H R) (k:∀v H',R v H'→K v H'):Hd P t x name args H K:=by
 exact⟨⟨f,as1,fun w _=>hm w,h.mono k⟩⟩
def LO(P:Program)(o:Oper)(a:Act)(w:World)(K:Value→Aa→Prop):Prop:=
 ∀Q:Exit→Act→World→Prop,o.wp P a w (fun a' w'=>∃v,a'=a.put o.dst v∧Env w w'∧K v w'.heap) Q
theorem JK{P:Program}{o:Oper}{a:Act}{w w':World}{K:Value→Aa→Prop}{v:Value}
  (h:(execOp a.eval o).run P w= .ok (.value v) w') (he:Env w w') (k:K v w'.heap):LO P o a w K:=by
 intro Q;unfold Oper.wp;rw [h];exact⟨v,rfl,he,k⟩
theorem OV{P:Program}{o:Oper}{a:Act}{w w':World}{K:Value→Aa→Prop}
  (h:(execOp a.eval o).run P w= .ok .skip w') (he:Env w w') (k:K undef w'.heap):LO P o a w K:=by
 intro Q;unfold Oper.wp;rw [h];exact⟨undef,rfl,he,k⟩
theorem JJ{P:Program}{o:Oper}{a:Act}{w:World}{K:Value→Aa→Prop}{f:FuncId}{args:Array Value}
  (h:(execOp a.eval o).run P w=(callFunc f args).run P w) (k:Ao P f args w.heap K):LO P o a w K:=by
 intro Q;unfold Oper.wp;rw [h,(k w rfl).1];refine(k w rfl).2.mono ?_;rintro e w' ⟨v,rfl,he,hk⟩;exact⟨v,rfl,he,hk⟩
theorem Nf{P:Program}{o:Oper}{fr:Fr}{a:Act}{w:World}{K:Value→Aa→Prop}(hat:At fr a)
  (h:SC P o fr w.heap K):LO P o a w K:=by
 have he:=hat.evalF;unfold SC at h;split at h<;>rename_i ho<;>try simp only [FL,FN,NX,Ld,←Vm,Vg]at h
 all_goals try (
  obtain⟨v,w',hr,henv,hk⟩:=h.out w rfl;exact JK (by rw [he];simp only [execOp,ho];exact Bn hr) henv hk)
 all_goals try (
  obtain⟨w',hr,henv,hk⟩:=h.out w rfl;exact OV (by rw [he];simp only [execOp,ho];exact QA hr) henv hk)
 case h_19=>
  split at h
  ·rename_i t x hx;obtain⟨f,as1,h1,h2⟩:=h.out;refine JJ ?_ h2;rw [he];simp only [execOp,ho,resolve,hx];rw [(h2 w rfl).1,←h1 w rfl];have e1:∀A:Array Value,(#[Value.iface t x]++A)[0]? =some (Value.iface t x):=fun A=>by simp [Array.getElem?_append]
   rename_i args argTypes _;have e2:(Vr (evF fr) args).extract 0 args.size=Vr (evF fr) args:=by
    rw [show args.size=(Vr (evF fr) args).size by simp];exact Array.extract_size
   simp [invoke,e1,e2]
  ·exact h.elim
 case h_20=>
  unfold NS at h;rename_i f' args argTypes;split at h
  ·rename_i g first cap hg
   refine JJ ?_ h.out;rw [he];have e:(first.toList++(Vr (evF fr) args).toList++cap.toList).toArray=first++Vr (evF fr) args++cap:=Vn (by simp)
   rw [e];simp only [execOp,ho,resolve,hg,Deferred.ofValue];simp [invoke]
  ·exact h.elim
 all_goals exact h.elim
theorem Co{P:Program}{o:Oper}{fr:Fr}{a:Act}{w:World}{K:Value→Aa→Prop}(hat:At fr a)
  (h:opK P false (fun _=>True) o fr w.heap K):LO P o a w K:=by
 unfold opK at h;split at h
 ·obtain⟨v,hr,hk⟩:=DW h;exact JK (by rw [hat.evalF];exact hr w (Agr.refl _ _)) (Env.refl w) hk
 ·exact Nf hat h
def Cls(w0:World)(S:Nat→Prop)(w:World):Prop:=Env w0 w∧Agr S w0.heap w.heap
theorem OU{P:Program}{S:Nat→Prop}{o:Oper}{fr:Fr}{a:Act}{w0:World}{K:Value→Aa→Prop}(hat:At fr a)
  (h:opK P true S o fr w0.heap K):∃v,(∀w,Cls w0 S w→o.quietAt P a (Cls w0 S) w v)∧K v w0.heap:=by
 unfold opK at h;split at h
 ·obtain⟨v,hr,hk⟩:=DW h;refine⟨v,fun w hw=>?_,hk⟩;unfold Oper.quietAt;rw [hat.evalF,hr w hw.2];exact⟨rfl,rfl⟩
 ·dsimp only at h;split at h
  ·rename_i f args argTypes ho;simp only [FL,FN,←Vm]at h;unfold NS at h;split at h
   ·rename_i g first cap hg
    obtain⟨v,hv,hk⟩:=h.out;refine⟨v,fun w hw=>?_,hk⟩;obtain⟨h1,h2⟩:=hv w.heap hw.2 w rfl;have h3:(execOp a.eval o).run P w=(callFunc g (first.toList++(Vr (evF fr) args).toList++cap.toList).toArray).run P w:=by
     rw [hat.evalF];have e:(first.toList++(Vr (evF fr) args).toList++cap.toList).toArray=first++Vr (evF fr) args++cap:=Vn (by simp)
     rw [e];simp only [execOp,ho,resolve,hg,Deferred.ofValue];simp [invoke]
    unfold Oper.quietAt;rw [h3,h1];refine⟨rfl,h2.mono ?_⟩;rintro e w' ⟨v',rfl,henv,rfl,hh⟩;exact⟨rfl,hw.1.trans henv,hw.2.trans hh⟩
   ·exact h.elim
  ·exact h.elim
def apK(K:Fr→Aa→Prop)(fr:Fr)(H:Aa):Prop:=K fr H
def Lt(P:Program)(q:Bool)(S:Nat→Prop)(o:Oper)(want:Bool)(t:Nat)(fr:Fr)(H:Aa)(K:Fr→Aa→Prop):Prop:=
 rdK fr t fun v=>match v with
  | .bool b=>AQ b
    (wrK fr t (.bool true) fun fr1=>match want with
     | true=>opK P q S o fr1 H fun v H'=>Cj o.dst fr1 v fun fr'=>apK K fr' H'
     | false=>Cj o.dst fr1 undef fun fr'=>apK K fr' H)
    (wrK fr t (.bool false) fun fr1=>match want with
     | false=>opK P q S o fr1 H fun v H'=>Cj o.dst fr1 v fun fr'=>apK K fr' H'
     | true=>Cj o.dst fr1 undef fun fr'=>apK K fr' H)
  | .tuple _=>Cj o.dst fr undef fun fr'=>apK K fr' H
  | _=>False
def Hh(P:Program)(q:Bool)(S:Nat→Prop)(all:List Oper)(l:List Oper):Fr→Aa→(Fr→Aa→Prop)→Prop:=
 Vq (motive:=fun _=>Fr→Aa→(Fr→Aa→Prop)→Prop) (fun fr H K=>K fr H) (fun o _ ih fr H K=>
  match o.guard with
  | none=>opK P q S o fr H fun v H'=>Cj o.dst fr v fun fr'=>ih fr' H' K
  | some (j,want)=>match(all[j]?).bind (·.dst)with
    | none=>False
    | some t=>Lt P q S o want t fr H fun fr' H'=>ih fr' H' K) l
theorem K4(P:Program)(q:Bool)(S:Nat→Prop)(all rest:List Oper)(o:Oper)(fr:Fr)(H:Aa)(K:Fr→Aa→Prop):Hh P q S all (o::rest) fr H K=
  (match o.guard with
  | none=>opK P q S o fr H fun v H'=>Cj o.dst fr v fun fr'=>Hh P q S all rest fr' H' K
  | some (j,want)=>match(all[j]?).bind (·.dst)with
    | none=>False
    | some t=>Lt P q S o want t fr H fun fr' H'=>Hh P q S all rest fr' H' K):=rfl
theorem Cs{fr:Fr}{t:Nat}{v:Value}(h:rd fr t=v)(hv:v≠undef):fr.set t v=fr:=by
 unfold rd at h;rcases VV t fr.length with hl | hl
 ·rw [UU,UQ hl]at h;subst h;exact VK hl
 ·rw [UU,Vk hl]at h;exact absurd h.symm hv
theorem Fc{ops:List Oper}{fr:Fr}{a:Act}(hat:At fr a){j t:Nat}(hj:(ops[j]?).bind (·.dst)=some t){b:Bool}(hv:rd fr t= .bool b):
  yielded ops.toArray a.tmps j=some b:=by
 obtain⟨rfl,_⟩:=hat;unfold yielded;have:((ops.toArray[j]?).bind (·.dst))=some t:=by simpa using hj
 rw [this];unfold rd at hv;rw [UU]at hv;simp only [Wa];cases h:a.tmps[t]? with
 | none=>simp [h,undef]at hv
 | some v=>simp [h]at hv;simp [hv]
theorem Fd{ops:List Oper}{fr:Fr}{a:Act}(hat:At fr a){j t:Nat}(hj:(ops[j]?).bind (·.dst)=some t){vs:Array Value}(hv:rd fr t= .tuple vs):
  yielded ops.toArray a.tmps j=none:=by
 obtain⟨rfl,_⟩:=hat;unfold yielded;have:((ops.toArray[j]?).bind (·.dst))=some t:=by simpa using hj
 rw [this];unfold rd at hv;rw [UU]at hv;simp only [Wa];cases h:a.tmps[t]? with
 | none=>rfl
 | some v=>simp [h]at hv;simp [hv]
theorem HH{P:Program}{all:List Oper}{Q:Exit→Act→World→Prop}:∀(l:List Oper) (fr:Fr) (a:Act) (w:World) (K:Fr→Aa→Prop),At fr a→
  (∀fr' a' w',At fr' a'→Env w w'→K fr' w'.heap→Q .normal a' w')→
  Hh P false (fun _=>True) all l fr w.heap K→wpList P all.toArray Q l a w
 | [],fr,a,w,K,hat,hq,h=>hq fr a w hat (Env.refl w) h
 | o::l,fr,a,w,K,hat,hq,h=>by
   have go:∀(want:Bool),(want=true→LO P o a w fun v H'=>Cj o.dst fr v fun fr'=>Hh P false (fun _=>True) all l fr' H' K)→
     (want=false→Cj o.dst fr undef fun fr'=>Hh P false (fun _=>True) all l fr' w.heap K)→
     Region.wanted o (yielded all.toArray a.tmps)=want→wpList P all.toArray Q (o::l) a w:=by
    intro want h1 h2 hw;unfold wpList;rw [hw];cases want with
    | true=>
      refine .inl (Oper.wp_mono ?_ (h1 rfl _));rintro a' w' ⟨v,rfl,henv,hk⟩;rw [BF]at hk;exact HH l _ _ _ K (hat.put o.dst v) (fun fr' a' w'' h1 h2 h3=>hq fr' a' w'' h1 (henv.trans h2) h3) hk
    | false=>
      have h3:=h2 rfl;rw [BF]at h3;exact HH l _ _ _ K (hat.put o.dst undef) hq h3
   rw [K4]at h;split at h
   ·rename_i hg;exact go true (fun _=>Co hat h) (fun h=>by cases h) (by simp [Region.wanted,hg])
   ·rename_i j want hg;split at h
    ·exact h.elim
    ·rename_i t ht;unfold Lt at h;simp only [apK]at h;rw [CF]at h;split at h
     ·rename_i b hb;have hy:=Fc hat ht hb;have hs:fr.set t (.bool b)=fr:=Cs hb (by simp [undef]);cases b<;>cases want<;>simp only [AQ,D6,hs]at h
      ·exact go true (fun _=>Co hat h) (fun h=>by cases h) (by simp [Region.wanted,hg,hy])
      ·exact go false (fun h=>by cases h) (fun _=>h) (by simp [Region.wanted,hg,hy])
      ·exact go false (fun h=>by cases h) (fun _=>h) (by simp [Region.wanted,hg,hy])
      ·exact go true (fun _=>Co hat h) (fun h=>by cases h) (by simp [Region.wanted,hg,hy])
     ·rename_i vs hb;exact go false (fun h=>by cases h) (fun _=>h) (by simp [Region.wanted,hg,Fd hat ht hb])
     ·exact h.elim
theorem OA{P:Program}{id:Nat}{l:List Oper}{Q:Exit→Act→World→Prop}{fr:Fr}{a:Act}{w:World}{K:Fr→Aa→Prop}(hat:At fr a)
  (hq:∀fr' a' w',At fr' a'→Env w w'→K fr' w'.heap→Q .normal a' w')
  (h:Hh P false (fun _=>True) l l fr w.heap K):(Code.region id l.toArray false).wp P Q a w:=
 wp_region_lit (HH l fr a w K hat hq h)
theorem FS{P:Program}{S:Nat→Prop}{all:List Oper}{w0:World}:∀(l:List Oper) (fr:Fr) (a:Act) (K:Fr→Aa→Prop) (Q:Act→Prop),At fr a→
  (∀fr' a',At fr' a'→K fr' w0.heap→Q a')→
  Hh P true S all l fr w0.heap K→wpQuiet P all.toArray (Cls w0 S) Q l a
 | [],fr,a,K,Q,hat,hq,h=>hq fr a hat h
 | o::l,fr,a,K,Q,hat,hq,h=>by
   have go:∀(want:Bool),(want=true→opK P true S o fr w0.heap fun v H'=>Cj o.dst fr v fun fr'=>Hh P true S all l fr' H' K)→
     (want=false→Cj o.dst fr undef fun fr'=>Hh P true S all l fr' w0.heap K)→
     Region.wanted o (yielded all.toArray a.tmps)=want→wpQuiet P all.toArray (Cls w0 S) Q (o::l) a:=by
    intro want h1 h2 hw;unfold wpQuiet;rw [hw];cases want with
    | true=>
      obtain⟨v,hv,hk⟩:=OU hat (h1 rfl);rw [BF]at hk;exact⟨v,hv,FS l _ _ K Q (hat.put o.dst v) hq hk⟩
    | false=>
      have h3:=h2 rfl;rw [BF]at h3;exact FS l _ _ K Q (hat.put o.dst undef) hq h3
   rw [K4]at h;split at h
   ·rename_i hg;exact go true (fun _=>h) (fun h=>by cases h) (by simp [Region.wanted,hg])
   ·rename_i j want hg;split at h
    ·exact h.elim
    ·rename_i t ht;unfold Lt at h;simp only [apK]at h;rw [CF]at h;split at h
     ·rename_i b hb;have hy:=Fc hat ht hb;have hs:fr.set t (.bool b)=fr:=Cs hb (by simp [undef]);cases b<;>cases want<;>simp only [AQ,D6,hs]at h
      ·exact go true (fun _=>h) (fun h=>by cases h) (by simp [Region.wanted,hg,hy])
      ·exact go false (fun h=>by cases h) (fun _=>h) (by simp [Region.wanted,hg,hy])
      ·exact go false (fun h=>by cases h) (fun _=>h) (by simp [Region.wanted,hg,hy])
      ·exact go true (fun _=>h) (fun h=>by cases h) (by simp [Region.wanted,hg,hy])
     ·rename_i vs hb;exact go false (fun h=>by cases h) (fun _=>h) (by simp [Region.wanted,hg,Fd hat ht hb])
     ·exact h.elim
structure As(P:Program)(l:List Oper)(fr:Fr)(H:Aa)(K:Fr→Aa→Prop):Prop where
 in_::
 out_:∀(id:Nat) (Q:Exit→Act→World→Prop) (a:Act) (w:World),At fr a→w.heap=H→(∀c a w,¬Q (.panic c) a w)→
  (∀fr' a' w',At fr' a'→Env w w'→K fr' w'.heap→Q .normal a' w')→(Code.region id l.toArray true).wp P Q a w
theorem As.quiet{P:Program}{l:List Oper}{fr:Fr}{H:Aa}{K:Fr→Aa→Prop}(S:Nat→Prop)(hm:P.follows .mixedOrders=true)
  (hB:Region.lexB .any l.toArray=true) (h:Hh P true S l l fr H fun fr' _=>∀H',Agr S H H'→K fr' H'):As P l fr H K:=by
 refine⟨?_⟩;intro id Q a w hat hw _ hq;subst hw;refine wp_region_quiet (C:=Cls w S) hm hB ⟨⟨rfl,rfl,rfl⟩,Agr.refl _ _⟩ ?_;exact FS l fr a _ _ hat (fun fr' a' hat' hk w' hw'=>hq fr' a' w' hat' hw'.1 (hk _ hw'.2)) h
theorem NN{H H':Aa}(h:Agr (fun _=>True) H H'):H'=H:=Array.ext_getElem? fun i=>h i trivial
theorem As.lex{P:Program}{l:List Oper}{fr:Fr}{H:Aa}{K:Fr→Aa→Prop}(hm:P.follows .mixedOrders=true)
  (hB:Region.lexB .any l.toArray=true) (h:Hh P true (fun _=>True) l l fr H K):As P l fr H K:=by
 refine⟨?_⟩;intro id Q a w hat hw _ hq;subst hw;refine wp_region_quiet (C:=Cls w fun _=>True) hm hB ⟨⟨rfl,rfl,rfl⟩,Agr.refl _ _⟩ ?_;exact FS l fr a K _ hat (fun fr' a' hat' hk w' hw'=>hq fr' a' w' hat' hw'.1 (by rw [NN hw'.2];exact hk)) h
def Ka(P:Program)(ops:Array Oper)(Q:Exit→Act→World→Prop)(S:World→Prop)(z:Nat):Nat→Array Bool→Act→World→Prop
 | 0,listed,a,w=>Region.ready .any ops listed=[]∧Q .normal a w
 | fuel+1,listed,a,w=>
   (Region.ready .any ops listed=[]→Q .normal a w)∧
   ∀i∈Region.ready .any ops listed,wpOp P ops Q i (fun a' w'=>(i≠z→S w')∧Ka P ops Q S z fuel (listed.setIfInBounds i true) a' w') a w
theorem Kb{P:Program}{ops:Array Oper}{Q:Exit→Act→World→Prop}{S:World→Prop}{z:Nat}:∀(fuel:Nat) (listed:Array Bool) (a:Act) (w:World),
  Ka P ops Q S z fuel listed a w→wpAny P .any ops Q fuel listed a w
 | 0,_,_,_,h=>h
 | fuel+1,_,_,_,h=>⟨h.1,fun i hi=>wpOp_mono (fun a' w' h'=>Kb fuel _ a' w' h'.2) (h.2 i hi)⟩
theorem LJ{P:Program}{ops:Array Oper}{Q:Exit→Act→World→Prop}{S:World→Prop}{z:Nat}{i:Nat}{oi:Oper}{v:Value}(hi:ops[i]? =some oi)
  (hsel:∀(j:Nat) (o:Oper) cs b,ops[j]? =some o→o.op≠ .select cs b)
  (hQ:∀c a w,Q (.panic c) (a.put oi.dst v) w→Q (.panic c) a w) (hiz:i≠z) (hz:∀oz,ops[z]? =some oz→∃e∈oz.after,Region.binds .any e=true∧e.on=i):
  ∀(fuel:Nat) (listed:Array Bool) (a:Act) (w:World),
   (∀j oj,ops[j]? =some oj→j≠i→listed.getD j true=false→(∀e∈oj.after,Region.binds .any e=true→e.on≠i)→oi.apart ops oj=true)→
   i∈Region.ready .any ops listed→YieldsIf P ops S oi v a→S w→
   Ka P ops Q S z fuel (listed.setIfInBounds i true) (a.put oi.dst v) w→Ka P ops Q S z (fuel+1) listed a w:=by
 intro fuel
 induction fuel with
 | zero=>
   intro listed a w _ hr hy hS H;refine⟨fun h=>(by rw [h]at hr;cases hr),fun j hj=>?_⟩;by_cases hji:j=i
   ·subst hji;exact hy.wpOp hi hS ⟨fun _=>hS,H⟩
   ·have:=ready_mono hj hji;rw [H.1]at this;cases this
 | succ fuel ih=>
   intro listed a w hfree hr hy hS H;refine⟨fun h=>(by rw [h]at hr;cases hr),fun j hj=>?_⟩;by_cases hji:j=i
   ·subst hji;exact hy.wpOp hi hS ⟨fun _=>hS,H⟩
   ·have h1:=H.2 j (ready_mono hj hji);obtain⟨hjun,oj,hoj,hall⟩:=mem_ready.1 hj;have hnot:∀e∈oj.after,Region.binds .any e=true→e.on≠i:=fun e he hb heq=>by
     have h1:=hall e he hb;have h0:=(mem_ready.1 hr).1;rw [heq]at h1;rcases VV i listed.size with h' | h'
     ·simp [h']at h0 h1;rw [h0]at h1;cases h1
     ·simp [VI h']at h1
    have hjz:j≠z:=by
     intro hjz;subst hjz;obtain⟨e,he,hb,hon⟩:=hz oj hoj;exact hnot e he hb hon
    have h2:=wpOp_putIf hoj (hfree j oj hoj hji hjun hnot) (fun cs b=>hsel i oi cs b hi) (fun cs b=>hsel j oj cs b hoj) hQ hy h1;have hfree':∀k ok,ops[k]? =some ok→k≠i→(listed.setIfInBounds j true).getD k true=false→
      (∀e∈ok.after,Region.binds .any e=true→e.on≠i)→oi.apart ops ok=true:=fun k ok hk hki hun hno=>by
     refine hfree k ok hk hki ?_ hno;by_cases hjk:j=k
     ·subst hjk;exact hjun
     ·rw [getD_set_ne true hjk]at hun;exact hun
    refine wpOp_mono (fun a' w' h3=>⟨fun _=>h3.2.1 hjz,ih (listed.setIfInBounds j true) a' w' hfree' (ready_mono hr (Ne.symm hji)) h3.1 (h3.2.1 hjz) ?_⟩) h2;rw [Array.setIfInBounds_comm _ _ hji];exact h3.2.2
inductive Sch where
 | e
 | q (i:Nat) (s:Sch)
 | f (i:Nat) (s:Sch)
 | b (i:Nat) (s:Sch) (j:Nat) (s':Sch)
def sq:List Nat→Sch→Sch
 | [],s=>s
 | i::l,s=>.q i (sq l s)
def MG(P:Program)(S:Nat→Prop)(z:Nat)(H0:Aa)(all:List Oper)(i:Nat)(fr:Fr)(H:Aa)(next:Fr→Aa→Prop):Prop:=
 match all[i]? with
 | none=>False
 | some o=>match o.guard with
   | some _=>False
   | none=>match VA i z with
     | true=>opK P false (fun _=>True) o fr H fun v H'=>Cj o.dst fr v fun fr'=>next fr' H'
     | false=>opK P false (fun _=>True) o fr H fun v H'=>Agr S H0 H'∧Cj o.dst fr v fun fr'=>next fr' H'
def Mo(P:Program)(S:Nat→Prop)(z:Nat)(H0:Aa)(all:List Oper)(s:Sch):Fr→Aa→(Fr→Aa→Prop)→Prop:=
 Sch.rec (motive:=fun _=>Fr→Aa→(Fr→Aa→Prop)→Prop) (fun fr H K=>K fr H)
  (fun i _ ih fr H K=>match all[i]? with
   | none=>False
   | some o=>match o.guard with
     | some _=>False
     | none=>match IF o&&Fh P o with
       | true=>Kh P S o fr H fun v=>Cj o.dst fr v fun fr'=>ih fr' H K
       | false=>False)
  (fun i _ ih fr H K=>MG P S z H0 all i fr H fun fr' H'=>ih fr' H' K)
  (fun i _ j _ ih ih' fr H K=>(MG P S z H0 all i fr H fun fr' H'=>ih fr' H' K)∧MG P S z H0 all j fr H fun fr' H'=>ih' fr' H' K) s
theorem Rz(P:Program)(S:Nat→Prop)(z:Nat)(H0:Aa)(all:List Oper)(i:Nat)(s:Sch)(fr:Fr)(H:Aa)(K:Fr→Aa→Prop):Mo P S z H0 all (.q i s) fr H K=
  (match all[i]? with
   | none=>False
   | some o=>match o.guard with
     | some _=>False
     | none=>match IF o&&Fh P o with
       | true=>Kh P S o fr H fun v=>Cj o.dst fr v fun fr'=>Mo P S z H0 all s fr' H K
       | false=>False):=rfl
def Gx(ops:Array Oper)(z:Nat):Sch→Array Bool→Bool
 | .e,listed=>(Region.ready .any ops listed).isEmpty
 | .q i s,listed=>(Region.ready .any ops listed).contains i&&Region.free .any ops listed i&& !(VA i z)&&(decide (ops.size≤z)|| Region.waitsFor .any ops z i)&&Gx ops z s (listed.setIfInBounds i true)
 | .f i s,listed=>Region.ready .any ops listed==[i]&&(!(VA i z)|| (match s with | .e=>true | _=>false))&&Gx ops z s (listed.setIfInBounds i true)
 | .b i s j s',listed=>Region.ready .any ops listed==[i,j]&& !(VA i z)&& !(VA j z)&&Gx ops z s (listed.setIfInBounds i true)&&Gx ops z s' (listed.setIfInBounds j true)
def Sch.len:Sch→Nat
 | .e=>0
 | .q _ s=>s.len+1
 | .f _ s=>s.len+1
 | .b _ s _ _=>s.len+1
def Sch.even:Sch→Bool
 | .e=>true
 | .q _ s=>s.even
 | .f _ s=>s.even
 | .b _ s _ s'=>s.even&&s'.even&&s.len==s'.len
theorem GN{P:Program}{S:Nat→Prop}{z:Nat}{w0:World}{all:List Oper}{Q:Exit→Act→World→Prop}{i:Nat}{fr:Fr}{a:Act}{w:World}{next:Fr→Aa→Prop}{N:Act→World→Prop}
  (hat:At fr a) (hc:Env w0 w) (h:MG P S z w0.heap all i fr w.heap next)
  (hn:∀fr' a' w',At fr' a'→Env w0 w'→(i≠z→Cls w0 S w')→next fr' w'.heap→N a' w'):wpOp P all.toArray Q i N a w:=by
 unfold MG at h;split at h
 ·exact h.elim
 ·rename_i o ho;have ho':all.toArray[i]? =some o:=by simpa using ho
  split at h
  ·exact h.elim
  ·rename_i hg;have hwant:Region.wanted o (yielded all.toArray a.tmps)=true:=by simp [Region.wanted,hg]
   unfold wpOp;rw [ho'];dsimp only;rw [if_pos hwant];split at h
   ·rename_i hz;refine .inl (Oper.wp_mono ?_ (Co hat h _));rintro a' w' ⟨v,rfl,henv,hk⟩;rw [BF]at hk;exact hn _ _ _ (hat.put o.dst v) (hc.trans henv) (fun hne=>absurd (VL hz) hne) hk
   ·refine .inl (Oper.wp_mono ?_ (Co hat h _));rintro a' w' ⟨v,rfl,henv,hagr,hk⟩;rw [BF]at hk;exact hn _ _ _ (hat.put o.dst v) (hc.trans henv) (fun _=>⟨hc.trans henv,hagr⟩) hk
theorem Eo{P:Program}{S:Nat→Prop}{z:Nat}{w0:World}{all:List Oper}{Q:Exit→Act→World→Prop}(hs:Region.noSelect all.toArray=true)
  (hp:∀c a w,¬Q (.panic c) a w):∀(l:Sch) (listed:Array Bool) (fr:Fr) (a:Act) (w:World) (K:Fr→Aa→Prop),At fr a→(l= .e→Env w0 w)→(l≠ .e→Cls w0 S w)→
  (∀fr' a' w',At fr' a'→Env w0 w'→K fr' w'.heap→Q .normal a' w')→Gx all.toArray z l listed=true→l.even=true→
  Mo P S z w0.heap all l fr w.heap K→Ka P all.toArray Q (Cls w0 S) z l.len listed a w
 | .e,listed,fr,a,w,K,hat,he,_,hq,hB,_,h=>⟨by simpa [Gx]using hB,hq fr a w hat (he rfl) h⟩
 | .q i s,listed,fr,a,w,K,hat,_,hc,hq,hB,hev,h=>by
   have hc:=hc (by simp);simp only [Gx,UZ,VH,decide_eq_true_eq,V7]at hB;obtain⟨⟨⟨⟨b1,b2⟩,b3⟩,b4⟩,hB2⟩:=hB;rw [Rz]at h;split at h
   ·exact h.elim
   ·rename_i o ho;have ho':all.toArray[i]? =some o:=by simpa using ho
    split at h
    ·exact h.elim
    ·rename_i hg;have hwant:Region.wanted o (yielded all.toArray a.tmps)=true:=by simp [Region.wanted,hg]
     split at h
     ·obtain⟨v,hv,hk⟩:=DW h;rw [BF]at hk;refine LJ (v:=v) ho' (Region.noSelect_spec hs) (fun c a' w' hh=>(hp _ _ _ hh).elim) (Vb b3) ?_ s.len listed a w (Region.free_spec ho' b2) (by simpa using b1)
       (.inl ⟨hwant,fun w' hw'=>?_⟩) hc ?_
      ·intro oz hoz;rcases b4 with b4 | b4
       ·rw [VI b4]at hoz;cases hoz
       ·obtain⟨oj,hoj,e,he,hb,hon⟩:=Region.waitsFor_spec b4;have:oj=oz:=Option.some.inj (hoj.symm.trans hoz);subst this;exact⟨e,he,hb,hon⟩
      ·rw [hat.evalF];exact hv w' fun k hk=>(hw'.2 k hk).trans (hc.2 k hk).symm
      ·exact Eo hs hp s _ _ _ w K (hat.put o.dst v) (fun _=>hc.1) (fun _=>hc) hq hB2 hev hk
     ·exact h.elim
 | .f i s,listed,fr,a,w,K,hat,_,hc,hq,hB,hev,h=>by
   have hcl:=hc (by simp);simp only [Gx,UZ,VH,V7,beq_iff_eq]at hB;obtain⟨⟨b1,b2⟩,hB2⟩:=hB;refine⟨(fun h0=>by rw [b1]at h0;cases h0),fun j hj=>?_⟩;rw [b1]at hj;obtain rfl:j=i:=by simpa using hj
   refine GN hat hcl.1 h fun fr' a' w' h1 h2 h3 h4=>⟨h3,Eo hs hp s _ _ _ w' K h1 (fun _=>h2) (fun hne=>h3 fun hjz=>?_) hq hB2 hev h4⟩;rcases b2 with b2 | b2
   ·exact Vb b2 hjz
   ·cases s<;>first | exact hne rfl | cases b2
 | .b i s j s',listed,fr,a,w,K,hat,_,hc,hq,hB,hev,h=>by
   have hcl:=hc (by simp);simp only [Gx,UZ,V7,beq_iff_eq]at hB;obtain⟨⟨⟨⟨b1,b2⟩,b3⟩,hB2⟩,hB3⟩:=hB;simp only [Sch.even,UZ,beq_iff_eq]at hev;obtain⟨⟨e1,e2⟩,e3⟩:=hev;refine⟨(fun h0=>by rw [b1]at h0;cases h0),fun k hk=>?_⟩;rw [b1]at hk;rcases Wh.1 hk with rfl | hk
   ·exact GN hat hcl.1 h.1 fun fr' a' w' h1 h2 h3 h4=>⟨h3,Eo hs hp s _ _ _ w' K h1 (fun _=>h2) (fun _=>h3 (Vb b2)) hq hB2 e1 h4⟩
   ·obtain rfl:k=j:=by simpa using hk
    rw [e3];exact GN hat hcl.1 h.2 fun fr' a' w' h1 h2 h3 h4=>⟨h3,Eo hs hp s' _ _ _ w' K h1 (fun _=>h2) (fun _=>h3 (Vb b3)) hq hB3 e2 h4⟩
theorem As.held{P:Program}{l:List Oper}{fr:Fr}{H:Aa}{K:Fr→Aa→Prop}(S:Nat→Prop)(z:Nat)(sched:Sch)(hm:P.follows .mixedOrders=true)
  (hB:(Region.noSelect l.toArray&&(sched.len==l.length)&&sched.even&&Gx l.toArray z sched (V0 l.length false))=true)
  (h:Mo P S z H l sched fr H K):As P l fr H K:=by
 refine⟨?_⟩;intro id Q a w hat hw hp hq;subst hw;simp only [UZ,beq_iff_eq]at hB;refine wp_region_any hm (Kb (S:=Cls w S) (z:=z) _ _ _ _ ?_);have:=Eo (P:=P) (S:=S) (z:=z) (w0:=w) (Q:=Q) hB.1.1.1 hp sched (V0 l.length false) fr a {w with drawn:=w.drawn+1} K hat (fun _=>⟨rfl,rfl,rfl⟩) (fun _=>⟨⟨rfl,rfl,rfl⟩,Agr.refl _ _⟩) hq hB.2 hB.1.2 h;rw [hB.1.1.2]at this;simpa using this
theorem As.tail{P:Program}{l:List Oper}{fr:Fr}{H:Aa}{K:Fr→Aa→Prop}(z:Nat)(sched:Sch)(hm:P.follows .mixedOrders=true)
  (hB:(Region.noSelect l.toArray&&(sched.len==l.length)&&sched.even&&Gx l.toArray z sched (V0 l.length false))=true)
  (h:Mo P (fun _=>True) z H l sched fr H K):As P l fr H K:=As.held _ z sched hm hB h
theorem As.out{P:Program}{l:List Oper}{fr:Fr}{H:Aa}{K:Fr→Aa→Prop}(h:As P l fr H K):
  ∀(id:Nat) (Q:Exit→Act→World→Prop) (a:Act) (w:World),At fr a→w.heap=H→(∀c a w,¬Q (.panic c) a w)→
  (∀fr' a' w',At fr' a'→Env w w'→K fr' w'.heap→Q .normal a' w')→(Code.region id l.toArray true).wp P Q a w:=by
 exact h.out_
def Ez(w0:World)(Q:Exit→Fr→Aa→Prop):Exit→Act→World→Prop
 | .panic _,_,_=>False
 | .outgrown,_,_=>False
 | e,a,w=>∃fr,At fr a∧Env w0 w∧Q e fr w.heap
def IE(X:List (Nat×(Fr→Aa→Prop)))(id:Nat)(fr:Fr)(H:Aa):Prop:=
 match X with
 | []=>False
 | (j,k)::X=>match VA j id with
   | true=>k fr H
   | false=>IE X id fr H
def Qx(kn:Fr→Aa→Prop)(X:List (Nat×(Fr→Aa→Prop)))(kr:Fr→Aa→Prop)(e:Exit)(fr:Fr)(H:Aa):Prop:=
 match e with
 | .normal=>kn fr H
 | .exit id=>IE X id fr H
 | .ret=>kr fr H
 | _=>False
structure AH(P:Program)(c:Code)(fr:Fr)(H:Aa)(X:List (Nat×(Fr→Aa→Prop)))(kr:Fr→Aa→Prop):Prop where
 in_::
 out_:∀(a:Act) (w:World),At fr a→w.heap=H→(Code.loop c).wp P (Ez w (Qx (fun _ _=>False) X kr)) a w
def Hx:Code→Bool
 | .ret | .exit _ | .goto _=>false
 | .seq a b=>Hx a&&Hx b
 | .cond _ a b=>Hx a|| Hx b
 | _=>true
def FO(id:Nat):Code→Nat
 | .exit j=>match VA j id with
   | true=>1
   | false=>0
 | .seq a b=>FO id a+FO id b
 | .cond _ a b=>FO id a+FO id b
 | .block _ c=>FO id c
 | .loop c=>FO id c
 | _=>0
def HD:Code→Bool
 | .seq _ b=>HD b
 | .cond _ a b=>Hx a&&Hx b
 | .block id (.loop c)=>Nat.blt 1 (FO id c)
 | .block id c=>(Hx c&&Nat.blt 0 (FO id c))|| Nat.blt 1 (FO id c)|| HD c
 | _=>false
structure Al(P:Program)(x y:Code)(fr:Fr)(H:Aa)(kn:Fr→Aa→Prop)(X:List (Nat×(Fr→Aa→Prop)))(kr:Fr→Aa→Prop):Prop where
 in_::
 out_:∀(a:Act) (w:World),At fr a→w.heap=H→(Code.seq x y).wp P (Ez w (Qx kn X kr)) a w
def vc(P:Program)(c:Code):Fr→Aa→(Fr→Aa→Prop)→List (Nat×(Fr→Aa→Prop))→(Fr→Aa→Prop)→Prop:=
 Code.rec (motive:=fun _=>Fr→Aa→(Fr→Aa→Prop)→List (Nat×(Fr→Aa→Prop))→(Fr→Aa→Prop)→Prop)
  (fun fr H kn _ _=>kn fr H)
  (fun _ ops draw fr H kn _ _=>match draw with
   | false=>Hh P false (fun _=>True) ops.toList ops.toList fr H kn
   | true=>As P ops.toList fr H kn)
  (fun a b iha ihb fr H kn X kr=>match HD a with
   | true=>Al P a b fr H kn X kr
   | false=>iha fr H (fun fr' H'=>ihb fr' H' kn X kr) X kr)
  (fun c _ _ ihx ihy fr H kn X kr=>match c with
   | .tmp t=>rdK fr t fun v=>match v with
     | .bool b=>AQ b (wrK fr t (.bool true) fun fr1=>ihx fr1 H kn X kr) (wrK fr t (.bool false) fun fr1=>ihy fr1 H kn X kr)
     | _=>False
   | .const (.bool b)=>AQ b (ihx fr H kn X kr) (ihy fr H kn X kr)
   | _=>False)
  (fun id _ ih fr H kn X kr=>ih fr H kn ((id,kn)::X) kr)
  (fun c _ fr H _ X kr=>AH P c fr H X kr)
  (fun _ _ _ _ _ _ _ _ _ _ _=>False)
  (fun id fr H _ X _=>IE X id fr H)
  (fun _ _ _ _ _ _ _=>False)
  (fun _ _ _ _ _ _=>False)
  (fun _ _ _ _ _ _=>False)
  (fun fr H _ _ kr=>kr fr H)
  (fun _ _ _ _ _ _=>False) c
section
variable(P:Program)(a b:Code)(fr:Fr)(H:Aa)(kn:Fr→Aa→Prop)(X:List (Nat×(Fr→Aa→Prop)))(kr:Fr→Aa→Prop)
theorem Pw(id:Nat)(ops:Array Oper)(draw:Bool):vc P (.region id ops draw) fr H kn X kr=(match draw with
   | false=>Hh P false (fun _=>True) ops.toList ops.toList fr H kn
   | true=>As P ops.toList fr H kn):=rfl
theorem Tt:vc P (.seq a b) fr H kn X kr=(match HD a with
   | true=>Al P a b fr H kn X kr
   | false=>vc P a fr H (fun fr' H'=>vc P b fr' H' kn X kr) X kr):=rfl
theorem RY(c:Operand):vc P (.cond c a b) fr H kn X kr=(match c with
   | .tmp t=>rdK fr t fun v=>match v with
     | .bool x=>AQ x (wrK fr t (.bool true) fun fr1=>vc P a fr1 H kn X kr) (wrK fr t (.bool false) fun fr1=>vc P b fr1 H kn X kr)
     | _=>False
   | .const (.bool x)=>AQ x (vc P a fr H kn X kr) (vc P b fr H kn X kr)
   | _=>False):=rfl
theorem QT(id:Nat):vc P (.block id a) fr H kn X kr=vc P a fr H kn ((id,kn)::X) kr:=rfl
end
theorem AH.out{P:Program}{c:Code}{fr:Fr}{H:Aa}{X:List (Nat×(Fr→Aa→Prop))}{kr:Fr→Aa→Prop}(h:AH P c fr H X kr):
  ∀(a:Act) (w:World),At fr a→w.heap=H→(Code.loop c).wp P (Ez w (Qx (fun _ _=>False) X kr)) a w:=by exact h.out_
theorem Al.out{P:Program}{x y:Code}{fr:Fr}{H:Aa}{kn:Fr→Aa→Prop}{X:List (Nat×(Fr→Aa→Prop))}{kr:Fr→Aa→Prop}(h:Al P x y fr H kn X kr):
  ∀(a:Act) (w:World),At fr a→w.heap=H→(Code.seq x y).wp P (Ez w (Qx kn X kr)) a w:=by exact h.out_
theorem Ez.env{w0 w1:World}{Q:Exit→Fr→Aa→Prop}(henv:Env w0 w1):∀{e:Exit} {a:Act} {w:World},Ez w1 Q e a w→Ez w0 Q e a w
 | .normal,_,_,⟨fr,h1,h2,h3⟩ | .exit _,_,_,⟨fr,h1,h2,h3⟩ | .goto _,_,_,⟨fr,h1,h2,h3⟩ | .ret,_,_,⟨fr,h1,h2,h3⟩=>⟨fr,h1,henv.trans h2,h3⟩
theorem Ez.mono{w0:World}{Q Q':Exit→Fr→Aa→Prop}(hq:∀e fr H,Q e fr H→Q' e fr H):∀{e:Exit} {a:Act} {w:World},Ez w0 Q e a w→Ez w0 Q' e a w
 | .normal,_,_,⟨fr,h1,h2,h3⟩ | .exit _,_,_,⟨fr,h1,h2,h3⟩ | .goto _,_,_,⟨fr,h1,h2,h3⟩ | .ret,_,_,⟨fr,h1,h2,h3⟩=>⟨fr,h1,h2,hq _ _ _ h3⟩
theorem GL{P:Program}{x y:Code}{kn k1:Fr→Aa→Prop}{X:List (Nat×(Fr→Aa→Prop))}{kr:Fr→Aa→Prop}{a:Act}{w:World}
  (hx:x.wp P (Ez w (Qx k1 X kr)) a w)
  (hy:∀fr a' w',At fr a'→Env w w'→k1 fr w'.heap→y.wp P (Ez w' (Qx kn X kr)) a' w'):(Code.seq x y).wp P (Ez w (Qx kn X kr)) a w:=by
 refine wp_seq (Code.wp_mono ?_ hx);intro e a' w' h;cases e with
 | normal=>
   obtain⟨fr,h1,h2,h3⟩:=h;exact Code.wp_mono (fun e a w h=>Ez.env h2 h) (hy fr a' w' h1 h2 h3)
 | exit id=>exact h
 | goto l=>exact h
 | ret=>exact h
 | panic c=>exact h
 | outgrown=>exact h
theorem BH{P:Program}:∀(c:Code) (fr:Fr) (kn:Fr→Aa→Prop) (X:List (Nat×(Fr→Aa→Prop))) (kr:Fr→Aa→Prop) (a:Act) (w:World),At fr a→
  vc P c fr w.heap kn X kr→c.wp P (Ez w (Qx kn X kr)) a w
 | .skip,fr,kn,X,kr,a,w,hat,h=>wp_skip ⟨fr,hat,Env.refl w,h⟩
 | .region id ops draw,fr,kn,X,kr,a,w,hat,h=>by
   rw [Pw]at h;cases draw with
   | false=>
     have:=OA (P:=P) (id:=id) (l:=ops.toList) (Q:=Ez w (Qx kn X kr)) hat (fun fr' a' w' h1 h2 h3=>⟨fr',h1,h2,h3⟩) h;simpa using this
   | true=>
     have:=h.out id (Ez w (Qx kn X kr)) a w hat rfl (fun _ _ _ h=>h) (fun fr' a' w' h1 h2 h3=>⟨fr',h1,h2,h3⟩);simpa using this
 | .seq x y,fr,kn,X,kr,a,w,hat,h=>by
   rw [Tt]at h;split at h
   ·exact h.out a w hat rfl
   ·exact GL (BH x fr _ X kr a w hat h) fun fr' a' w' h1 _ h3=>BH y fr' kn X kr a' w' h1 h3
 | .cond c x y,fr,kn,X,kr,a,w,hat,h=>by
   rw [RY]at h;split at h
   ·rename_i t;rw [CF]at h;split at h
    ·rename_i b hb;have hs:fr.set t (.bool b)=fr:=Cs hb (by simp [undef]);have he:a.eval (.tmp t)= .bool b:=by rw [hat.eval];exact hb
     cases b<;>simp only [AQ,D6,hs]at h
     ·exact wp_cond_false he (BH y fr kn X kr a w hat h)
     ·exact wp_cond_true he (BH x fr kn X kr a w hat h)
    ·exact h.elim
   ·rename_i b;cases b<;>simp only [AQ]at h
    ·exact wp_cond_false rfl (BH y fr kn X kr a w hat h)
    ·exact wp_cond_true rfl (BH x fr kn X kr a w hat h)
   ·exact h.elim
 | .block id c,fr,kn,X,kr,a,w,hat,h=>by
   rw [QT]at h;refine wp_block (Code.wp_mono ?_ (BH c fr kn _ kr a w hat h));intro e a' w' h;cases e with
   | exit id'=>
     obtain⟨fr',h1,h2,h3⟩:=h;simp only [Qx,IE]at h3;simp only [Exit.inBlock];split at h3
     ·rename_i hid;have:=VL hid;rw [if_pos this.symm];exact⟨fr',h1,h2,h3⟩
     ·rename_i hid;have:id≠id':=Vb hid;rw [if_neg (Ne.symm this)];exact⟨fr',h1,h2,h3⟩
   | normal=>exact h
   | goto l=>exact h
   | ret=>exact h
   | panic c=>exact h
   | outgrown=>exact h
 | .loop c,fr,kn,X,kr,a,w,hat,h=>Code.wp_mono (fun e a w=>Ez.mono fun e fr H hq=>by
   cases e<;>first | exact hq | exact hq.elim) (h.out a w hat rfl)
 | .exit id,fr,kn,X,kr,a,w,hat,h=>wp_exit ⟨fr,hat,Env.refl w,h⟩
 | .ret,fr,kn,X,kr,a,w,hat,h=>wp_ret ⟨fr,hat,Env.refl w,h⟩
 | .rangeFunc ..,_,_,_,_,_,_,_,h=>h.elim
 | .scope _,_,_,_,_,_,_,_,h=>h.elim
 | .label _,_,_,_,_,_,_,_,h=>h.elim
 | .goto _,_,_,_,_,_,_,_,h=>h.elim
 | .refuse _,_,_,_,_,_,_,_,h=>h.elim
noncomputable def IX{R:Type}(fr:Fr)(ts:List Nat):(List Value→R)→R:=
 Vq (motive:=fun _=>(List Value→R)→R) (fun K=>K []) (fun t _ ih K=>rdK fr t fun v=>ih fun vs=>K (v::vs)) ts
noncomputable def LK{R:Type}(fr:Fr)(ts:List Nat)(vs:List Value)(K:Fr→R):R:=
 Vq (motive:=fun _=>List Value→Fr→R) (fun _ fr=>K fr) (fun t _ ih vs fr=>List.casesOn vs (K fr) fun v vs=>wrK fr t v fun fr'=>ih vs fr') ts vs fr
noncomputable def ET{R:Type}(f:Nat→Value)(fr:Fr)(ts:List Nat)(K:Fr→R):R:=
 Vq (motive:=fun _=>Fr→R) (fun fr=>K fr) (fun t _ ih fr=>wrK fr t (f t) fun fr'=>ih fr') ts fr
def wrs(fr:Fr):List Nat→List Value→Fr
 | t::ts,v::vs=>wrs (fr.set t v) ts vs
 | _,_=>fr
def En(f:Nat→Value)(fr:Fr):List Nat→Fr
 | []=>fr
 | t::ts=>En f (fr.set t (f t)) ts
theorem DM{R:Type}(fr:Fr):∀(ts:List Nat) (K:List Value→R),IX fr ts K=K (ts.map (rd fr))
 | [],_=>rfl
 | t::ts,K=>by show rdK fr t (fun v=>IX fr ts fun vs=>K (v::vs))=_;simp only [CF,DM fr ts,Vx]
theorem Fs{R:Type}:∀(ts:List Nat) (vs:List Value) (fr:Fr) (K:Fr→R),LK fr ts vs K=K (wrs fr ts vs)
 | [],vs,fr,K=>by cases vs<;>rfl
 | _::_,[],_,_=>rfl
 | t::ts,v::vs,fr,K=>by show wrK fr t v (fun fr'=>LK fr' ts vs K)=_;simp only [D6,wrs];exact Fs ts vs _ K
theorem BK{R:Type}(f:Nat→Value):∀(ts:List Nat) (fr:Fr) (K:Fr→R),ET f fr ts K=K (En f fr ts)
 | [],_,_=>rfl
 | t::ts,fr,K=>by show wrK fr t (f t) (fun fr'=>ET f fr' ts K)=_;simp only [D6,En];exact BK f ts _ K
theorem I4(f:Nat→Value):∀(ts:List Nat) (fr:Fr) (i:Nat),(En f fr ts)[i]? =if i∈ts∧i<fr.length then some (f i)else fr[i]?
 | [],fr,i=>by simp [En]
 | t::ts,fr,i=>by
   simp only [En,I4 f ts,Vc,Wh,Vu];by_cases h1:i∈ts<;>by_cases h2:i<fr.length<;>by_cases h3:t=i
   all_goals simp [h1,h2,h3]
   all_goals first | (subst h3;simp [h2];done) | (rw [if_neg (by omega)];done) | (have:¬i=t:=fun h=>h3 h.symm;simp [this];done) | skip
theorem Ib(f:Nat→Value):∀(ts:List Nat) (fr:Fr),(En f fr ts).length=fr.length
 | [],_=>rfl
 | t::ts,fr=>by simp only [En,Ib f ts,Vc]
theorem Cd{ws:List Nat}{fr fr':Fr}(h:En (fun _=>undef) fr' ws=En (fun _=>undef) fr ws):En (rd fr') fr ws=fr':=by
 have hl:fr'.length=fr.length:=by have:=congrArg List.length h;simpa [Ib]using this
 apply Ve;intro i;rw [I4];have hi:=congrArg (fun l:List Value=>l[i]?) h;simp only [I4,hl]at hi;by_cases h1:i∈ws∧i<fr.length
 ·rw [if_pos h1];simp [rd,UQ (hl ▸ h1.2)]
 ·rw [if_neg h1]at hi ⊢;rw [if_neg h1]at hi;exact hi.symm
theorem Ey:∀(ts:List Nat) (fr:Fr),wrs fr ts (ts.map (rd fr))=fr
 | [],_=>rfl
 | t::ts,fr=>by
   have hs:fr.set t (rd fr t)=fr:=by
    unfold rd;rcases VV t fr.length with hl | hl
    ·rw [UU,UQ hl];exact VK hl
    ·exact List.set_eq_of_length_le hl
   simp only [Vx,wrs,hs];exact Ey ts fr
def Fl(ws:List Nat)(fr fr':Fr)(p:Prop):Prop:=
 ET (fun _=>undef) fr' ws fun a=>ET (fun _=>undef) fr ws fun b=>a=b∧p
theorem IT{P:Program}{c:Code}{Q:Exit→Act→World→Prop}(J:Nat→Act→World→Prop)
  (round:∀n a w,J n a w→c.wp P (Exit.then (fun a' w'=>∃n',n'<n∧J n' a' w') Q) a w):∀n a w,J n a w→(Code.loop c).wp P Q a w:=by
 intro n0 a0 w0 h0 b k cs;have key:∀n a w,J n a w→∃e a' w',Q e a' w'∧Arrives P (lone (b.at a (.code c:: .inLoop c::k)) cs w) b k cs e a' w':=by
  intro n
  induction n using Nat.strongRecOn with
  | _ n ih=>
    intro a w hI;obtain⟨e,a₁,w₁,hq,harr⟩:=round n a w hI b (.inLoop c::k) cs;cases e with
    | normal=>
      obtain⟨n',hlt,hI₁⟩:=hq;obtain⟨e₂,a₂,w₂,hq₂,harr₂⟩:=ih n' hlt a₁ w₁ hI₁;exact⟨e₂,a₂,w₂,hq₂,.of_steps (Steps.trans harr (.one step_inLoop)) harr₂⟩
    | exit id=>exact⟨_,a₁,w₁,hq,.pass (x:=.inLoop c) rfl (fun _ _=>.inl (by simp)) harr⟩
    | goto l=>exact⟨_,a₁,w₁,hq,.pass (x:=.inLoop c) rfl (fun _ _=>.inl (by simp)) harr⟩
    | ret=>exact⟨_,a₁,w₁,hq,.pass (x:=.inLoop c) rfl (fun _ _=>.inl (by simp)) harr⟩
    | panic ch=>exact⟨_,a₁,w₁,hq,.pass (x:=.inLoop c) rfl (fun _ _=>.inl (by simp)) harr⟩
    | outgrown=>exact⟨_,a₁,w₁,hq,.pass (x:=.inLoop c) rfl (fun _ _=>.inl (by simp)) harr⟩
 obtain⟨e,a',w',hq,harr⟩:=key n0 a0 w0 h0;exact⟨e,a',w',hq,.of_steps (.one step_loop) harr⟩
def KM:List Oper→List Nat→List Nat
 | [],acc=>acc
 | o::l,acc=>match o.dst with
   | some d=>d::KM l acc
   | none=>KM l acc
def E4:Code→List Nat→List Nat
 | .region _ ops _,acc=>KM ops.toList acc
 | .seq a b,acc=>E4 a (E4 b acc)
 | .cond _ a b,acc=>E4 a (E4 b acc)
 | .block _ c,acc=>E4 c acc
 | .loop c,acc=>E4 c acc
 | .scope c,acc=>E4 c acc
 | _,acc=>acc
theorem AH.mk{P:Program}{c:Code}{fr:Fr}{H:Aa}{X:List (Nat×(Fr→Aa→Prop))}{kr:Fr→Aa→Prop}{α:Type}(ts:List Nat)(enc:α→List Value)(I:α→Aa→Prop)(m:α→Aa→Nat)
  (h0:IX fr ts fun vs=>∃x,vs=enc x∧I x H)
  (hr:∀(x:α) (H1:Aa) (junk:Nat→Value),I x H1→ET junk fr (E4 c []) fun fr0=>LK fr0 ts (enc x) fun fr1=>
   vc P c fr1 H1 (fun fr' H'=>Fl (E4 c []) fr fr' (IX fr' ts fun vs=>∃y,vs=enc y∧I y H'∧m y H'<m x H1)) X kr):AH P c fr H X kr:=by
 generalize E4 c []=ws at hr;refine⟨?_⟩;intro a w hat hw;subst hw;have h0':=h0;rw [DM]at h0';obtain⟨x0,hx0,hi0⟩:=h0'
 let J (n:Nat) (a':Act) (w':World):Prop:=∃fr' x,At fr' a'∧Env w w'∧En (fun _=>undef) fr' ws=En (fun _=>undef) fr ws∧ts.map (rd fr')=enc x∧I x w'.heap∧m x w'.heap=n
 refine IT J ?_ _ a w ⟨fr,x0,hat,Env.refl w,rfl,hx0,hi0,rfl⟩;rintro n a1 w1 ⟨fr1,x1,hat1,henv1,hk1,hx1,hi1,rfl⟩;have h:=hr x1 w1.heap (rd fr1) hi1;rw [BK,Fs,Cd hk1,←hx1,Ey ts fr1]at h;refine Code.wp_mono ?_ (BH c fr1 _ X kr a1 w1 hat1 h);intro e a2 w2 h2;cases e with
 | normal=>
   obtain⟨fr2,hat2,henv2,h2⟩:=h2;simp only [Qx,Fl,BK,DM]at h2;obtain⟨hk2,y,hy,hiy,hm⟩:=h2;exact⟨m y w2.heap,hm,fr2,y,hat2,henv1.trans henv2,hk2,hy,hiy,rfl⟩
 | exit id=>exact Ez.env henv1 h2
 | goto l=>exact Ez.env henv1 h2
 | ret=>exact Ez.env henv1 h2
 | panic c=>exact h2
 | outgrown=>exact h2
theorem Al.run{P:Program}{x y:Code}{fr:Fr}{H:Aa}{kn:Fr→Aa→Prop}{X:List (Nat×(Fr→Aa→Prop))}{kr:Fr→Aa→Prop}
  (h:vc P x fr H (fun fr' H'=>vc P y fr' H' kn X kr) X kr):Al P x y fr H kn X kr:=by
 refine⟨?_⟩;intro a w hat hw;subst hw;exact GL (BH x fr _ X kr a w hat h) fun fr' a' w' h1 _ h3=>BH y fr' kn X kr a' w' h1 h3
theorem Al.cut{P:Program}{x y:Code}{fr:Fr}{H:Aa}{kn:Fr→Aa→Prop}{X:List (Nat×(Fr→Aa→Prop))}{kr:Fr→Aa→Prop}{α:Type}(ts:List Nat)(enc:α→List Value)(I:α→Aa→Prop)
  (h:vc P x fr H (fun fr' H'=>Fl (E4 x []) fr fr' (IX fr' ts fun vs=>∃y,vs=enc y∧I y H')) X kr)
  (k:∀(z:α) (H1:Aa) (junk:Nat→Value),I z H1→ET junk fr (E4 x []) fun fr0=>LK fr0 ts (enc z) fun fr1=>vc P y fr1 H1 kn X kr):Al P x y fr H kn X kr:=by
 generalize E4 x []=ws at h k;refine⟨?_⟩;intro a w hat hw;subst hw;refine GL (BH x fr _ X kr a w hat h) fun fr1 a1 w1 h1 _ h3=>?_;simp only [Fl,BK,DM]at h3;obtain⟨hk,z,hz,hi⟩:=h3;have h:=k z w1.heap (rd fr1) hi;rw [BK,Fs,Cd hk,←hz,Ey ts fr1]at h;exact BH y fr1 kn X kr a1 w1 h1 h
def ldK(P:Program)(t:TypeId)(p:Value)(H:Aa)(K:Value→Prop):Prop:=
 match p with
 | .pointer (some a)=>AB P (Instr.loadAt t (.pointer (some a))) (fun _=>True) H K
 | _=>False
def Iq(P:Program)(rs:List ResultVar)(fr:Fr)(H:Aa)(R:Value→Aa→Prop):Prop:=
 match rs with
 | [.tmp t]=>rdK fr t fun v=>R v H
 | []=>R (.tuple #[]) H
 | [.tmp t,.tmp u]=>rdK fr t fun v=>rdK fr u fun x=>R (.tuple #[v,x]) H
 | [.tmp t,.tmp u,.tmp y]=>rdK fr t fun v=>rdK fr u fun x=>rdK fr y fun z=>R (.tuple #[v,x,z]) H
 | [.cell a t]=>rdK fr a fun p=>ldK P t p H fun v=>R v H
 | [.cell a t,.tmp u]=>rdK fr a fun p=>ldK P t p H fun v=>rdK fr u fun x=>R (.tuple #[v,x]) H
 | [.tmp u,.cell a t]=>rdK fr a fun p=>ldK P t p H fun v=>rdK fr u fun x=>R (.tuple #[x,v]) H
 | [.cell a t,.cell b u]=>rdK fr a fun p=>ldK P t p H fun v=>rdK fr b fun q=>ldK P u q H fun x=>R (.tuple #[v,x]) H
 | _=>False
theorem EG{P:Program}{t:TypeId}{p:Value}{w:World}{K:Value→Prop}(h:ldK P t p w.heap K):
  ∃a v,p= .pointer (some a)∧(loadVar t a).run P w= .ok v w∧K v:=by
 unfold ldK at h;split at h
 ·rename_i a;obtain⟨v,hv,k⟩:=h.out;have h1:=hv w (Agr.refl _ _);simp [Instr.loadAt,Instr.sureAddr]at h1;exact⟨a,v,rfl,h1,k⟩
 ·exact h.elim
theorem FV{P:Program}{fn:Func}{fr:Fr}{a:Act}{w:World}{R:Value→Aa→Prop}(hat:At fr a)(h:Iq P fn.results.toList fr w.heap R):
  ∃v,(results fn a.tmps).run P w= .ok v w∧R v w.heap:=by
 have hrd:∀t,a.tmps.getD t undef=rd fr t:=fun t=>hat.eval (.tmp t);have mk:∀l:List ResultVar,fn.results.toList=l→fn.results=l.toArray:=fun l hl=>Vn (by simpa using hl);unfold Iq at h;split at h<;>rename_i hr<;>(try simp only [CF]at h)<;>have hr':=mk _ hr
 ·exact⟨_,by simp [results,hr',hrd],h⟩
 ·exact⟨_,by simp [results,hr'],h⟩
 ·exact⟨_,by simp [results,hr',hrd],h⟩
 ·exact⟨_,by simp [results,hr',hrd],h⟩
 ·obtain⟨p,v,hp,hv,hR⟩:=EG h;exact⟨v,by simp [results,hr',hrd,hp,asAddr,hv],hR⟩
 ·obtain⟨p,v,hp,hv,hR⟩:=EG h;exact⟨_,by simp [results,hr',hrd,hp,asAddr,hv],hR⟩
 ·obtain⟨p,v,hp,hv,hR⟩:=EG h;exact⟨_,by simp [results,hr',hrd,hp,asAddr,hv],hR⟩
 ·obtain⟨p,v,hp,hv,hR⟩:=EG h;obtain⟨p',v',hp',hv',hR⟩:=EG hR;exact⟨_,by simp [results,hr',hrd,hp,hp',asAddr,hv,hv'],hR⟩
noncomputable def GD{R:Type}(l:Fr):(Fr→R)→R:=
 Vq (motive:=fun _=>(Fr→R)→R) (fun K=>K []) (fun v _ ih K=>ih fun l'=>K (v::l')) l
theorem DH{R:Type}:∀(l:Fr) (K:Fr→R),GD l K=K l
 | [],_=>rfl
 | v::l,K=>by show GD l (fun l'=>K (v::l'))=_;exact DH l _
theorem Ao.of_vc{P:Program}{f:FuncId}{fn:Func}{c:Code}{args:Array Value}{H:Aa}{R:Value→Aa→Prop}(hf:P.funcs[f]? =some fn)(hb:fn.body=some c)
  (hcall:∀w:World,(callFunc f args).run P w= .ok (.enter f args) w)
  (h:GD (args.toList++Vl (fn.ntmps - args.size) undef) fun fr=>vc P c fr H (fun fr' H'=>Iq P fn.results.toList fr' H' R) [] (fun fr' H'=>Iq P fn.results.toList fr' H' R)):
  Ao P f args H R:=by
 intro w hw;subst hw;refine⟨hcall w,?_⟩;refine calls_of_wp hf hb ?_;rw [DH]at h;have hat:At (args.toList++Vl (fn.ntmps - args.size) undef) {tmps:=args++V0 (fn.ntmps - args.size) undef,defers:=[]}:=⟨by simp,rfl⟩;refine Code.wp_mono ?_ (BH c _ _ _ _ _ w hat h);intro e a' w' h2;have fin:∀fr,At fr a'→Env w w'→Iq P fn.results.toList fr w'.heap R→a'.defers=[]∧∃v,(results fn a'.tmps).run P w'= .ok v w'∧∃v',Ending.returned v= .returned v'∧Env w w'∧R v' w'.heap:=by
  intro fr h1 h2 h3;obtain⟨v,hv,hR⟩:=FV h1 h3;exact⟨h1.defers,v,hv,v,rfl,h2,hR⟩
 cases e with
 | normal=>obtain⟨fr,h1,h2,h3⟩:=h2;exact fin fr h1 h2 h3
 | ret=>obtain⟨fr,h1,h2,h3⟩:=h2;exact fin fr h1 h2 h3
 | exit id=>obtain⟨fr,h1,h2,h3⟩:=h2;exact h3.elim
 | goto l=>obtain⟨fr,h1,h2,h3⟩:=h2;exact h3.elim
 | panic c=>exact h2.elim
 | outgrown=>exact h2.elim
structure SlT(P:Program)(t e:TypeId)(sz by_:Nat)(z:Value):Prop where
 under:P.underlying t=some (.slice e)
 info:∃i,P.info? e=some i∧i.size=sz∧i.bytes=by_∧i.zero=some z
 zsz:z.cells.size=sz
structure C3(P:Program)(t:TypeId):Prop where
 under:∃d,P.underlying t=some d∧d.isRow=false
 size:(P.info? t).map (·.size)=some 1
structure E9(P:Program)(t:TypeId)(n:Nat):Prop where
 under:∃d,P.underlying t=some d∧d.isRow=true
 size:(P.info? t).map (·.size)=some n
structure Az(P:Program)(s f off ft n:Nat):Prop where
 under:∃fs fd,P.underlying s=some (.struct fs)∧fs[f]? =some fd∧fd.offset=off∧fd.type=ft
 size:(P.info? ft).map (·.size)=some n
 pos:n≠0
structure KN(P:Program)(t len e sz:Nat):Prop where
 under:P.underlying t=some (.array len e)
 size:(P.info? e).map (·.size)=some sz
def cell(H:Aa)(b o:Nat):Option Value:=match H[b]? with
 | some (.cells c _ _)=>c[o]?
 | _=>none
def Bo(H:Aa)(b o:Nat)(cs:List Value):Prop:=∀j v,cs[j]? =some v→cell H b (o+j)=some v
def Blk(H:Aa)(b:Nat)(e:TypeId)(l:List Value):Prop:=H[b]? =some (.cells l.toArray e (0,0))
theorem Fu(w:World)(b o:Nat):w.cell? ⟨b,o,none⟩=cell w.heap b o:=by
 unfold World.cell? cell;cases h:w.heap[b]? with
 | none=>rfl
 | some x=>cases x<;>rfl
theorem Je{H H':Aa}{b o:Nat}(h:H'[b]? =H[b]?):cell H' b o=cell H b o:=by unfold cell;rw [h]
theorem Bo.eq{H H':Aa}{b o:Nat}{cs:List Value}(hc:Bo H b o cs)(h:H'[b]? =H[b]?):Bo H' b o cs:=
 fun j v hv=>by rw [Je h];exact hc j v hv
theorem Blk.cell{H:Aa}{b:Nat}{e:TypeId}{l:List Value}(h:Blk H b e l)(o:Nat):VC.cell H b o=l[o]? :=by
 unfold VC.cell;rw [h];simp
theorem Blk.cells{H:Aa}{b:Nat}{e:TypeId}{l cs:List Value}(h:Blk H b e l){o:Nat}(hc:∀j v,cs[j]? =some v→l[o+j]? =some v):Bo H b o cs:=
 fun j v hv=>by rw [h.cell];exact hc j v hv
theorem Blk.lt{H:Aa}{b:Nat}{e:TypeId}{l:List Value}(h:Blk H b e l):b<H.size:=(Vd.1 h).1
theorem Blk.agr{S:Nat→Prop}{H H':Aa}{b:Nat}{e:TypeId}{l:List Value}(h:Blk H b e l)(k:Agr S H H')(hb:S b):Blk H' b e l:=(k b hb).trans h
theorem P7{n:Nat}{H H':Aa}(h:Agr (fun k=>k<n) H H')(hn:n≤H.size):n≤H'.size:=by
 rcases Nat.eq_zero_or_pos n with h0 | h0
 ·omega
 ·have:=h (n - 1) (by omega);rw [V9 (show n - 1<H.size by omega)]at this;have:=(Vd.1 this).1;omega
theorem O1{w:World}{H:Aa}{b o:Nat}{cs:List Value}(hc:Bo H b o cs)(h:w.heap[b]? =H[b]?):w.rangeAt b o cs:=fun j v hv=>by
 rw [Fu,Je h];exact hc j v hv
theorem ld1{P:Program}{t:TypeId}{b o:Nat}{S:Nat→Prop}{H:Aa}{K:Value→Prop}{v:Value}(ht:C3 P t)(hc:cell H b o=some v)(hS:S b)(k:K v):
  AB P (Instr.loadAt t (.pointer (some ⟨b,o,none⟩))) S H K:=by
 refine AB.mk v (fun w hw=>?_) k;obtain⟨d,hu,hd⟩:=ht.under;have h1:w.cell? ⟨b,o,none⟩=some v:=by rw [Fu,Je (hw b hS)];exact hc
 have hagg:(isAgg t).run P w= .ok false w:=by
  unfold isAgg;rw [Sem.run_bind,run_underlying hu w];cases d<;>simp_all
 simp [Instr.loadAt,Instr.sureAddr,loadVar,hagg,load,Sem.run,h1]
theorem ldN{P:Program}{t:TypeId}{b o:Nat}{S:Nat→Prop}{H:Aa}{K:Value→Prop}{cs:List Value}(ht:E9 P t cs.length)(hc:Bo H b o cs)(hS:S b)(k:K (.agg cs.toArray)):
  AB P (Instr.loadAt t (.pointer (some ⟨b,o,none⟩))) S H K:=by
 refine AB.mk _ (fun w hw=>?_) k;obtain⟨d,hu,hd⟩:=ht.under;exact run_loadAt_mid w b o t cs d (O1 hc (hw b hS)) hu hd ht.size
theorem ix{P:Program}{t e:TypeId}{sz by_:Nat}{z:Value}{b o n cap:Nat}{k:IntKind}{i:Int}{S:Nat→Prop}{H:Aa}{K:Value→Prop}(ht:SlT P t e sz by_ z)(h0:0≤i)(h1:i<n)
  (hk:K (.pointer (some ⟨b,o+i.toNat*sz,none⟩))):AB P (Instr.indexAt t (.slice (some ⟨b,o,none⟩) n cap) (.int k i)) S H K:=by
 obtain⟨inf,hi,hs,_,_⟩:=ht.info;refine AB.mk _ (fun w _=>?_) hk;have ha:(⟨b,o,none⟩:Addr).add (i.toNat*sz)=⟨b,o+i.toNat*sz,none⟩:=Addr.add_mid _ _ _;simp [Instr.indexAt,asIntOf,run_underlying ht.under,h0,h1,sizeOf,typeInfo,hi,hs,ha]
theorem Dx(H:Aa)(o:Obj):Agr (fun k=>k<H.size) H (H.push o):=fun k hk=>by
 rw [Array.getElem?_push,if_neg (by omega)]
theorem EM(w:World)(o:Obj):(w.alloc o).heap=w.heap.push o:=rfl
def New(H:Aa)(K:Nat→Aa→Prop)(e:TypeId)(l:List Value):Prop:=
 ∀b H',b=H.size→H'.size=b+1→Blk H' b e l→Agr (fun k=>k<b) H H'→K b H'
theorem New.go{H:Aa}{K:Nat→Aa→Prop}{e:TypeId}{l:List Value}(h:New H K e l):K H.size (H.push (.cells l.toArray e)):=
 h H.size _ rfl (by simp) (by unfold Blk;simp) (Dx H _)
theorem BM{P:Program}{t:TypeId}{v:Value}{H:Aa}{K:Value→Aa→Prop}(l:List Value)(hv:v.cells=l.toArray)
  (h:New H (fun b H'=>K (.pointer (some ⟨b,0,none⟩)) H') t l):BQ P (Instr.box t v) H K:=by
 refine BQ.mk fun w hw=>?_;subst hw;exact⟨_,w.alloc (.cells l.toArray t),by simp [Instr.box,newVar,hv,newRow],⟨rfl,rfl,rfl⟩,h.go⟩
theorem Ag{P:Program}{t:TypeId}{H:Aa}{K:Value→Aa→Prop}(z:Value)(l:List Value)(hz:(P.info? t).bind (·.zero)=some z)(hv:z.cells=l.toArray)
  (h:New H (fun b H'=>K (.pointer (some ⟨b,0,none⟩)) H') t l):BQ P (Instr.alloc t true (.tuple #[])) H K:=by
 refine BQ.mk fun w hw=>?_;subst hw;refine⟨_,w.alloc (.cells l.toArray t),?_,⟨rfl,rfl,rfl⟩,h.go⟩;cases hi:P.info? t with
 | none=>rw [hi]at hz;cases hz
 | some i=>
   have hz':i.zero=some z:=by simpa [hi]using hz
   simp [Instr.alloc,zeroValue,typeInfo,hi,hz',newVar,hv,newRow]
theorem QP{P:Program}{t e:TypeId}{sz by_:Nat}{z:Value}{n:Nat}{vs:Array (Nat×Value)}{H:Aa}{K:Value→Aa→Prop}(ht:SlT P t e sz by_ z)(l:List Value)(hn:n*sz≤16777216)(h0:0<n*sz)
  (hf:Instr.fill (fun i=>some (i*sz,sz)) ((Array.range (n*sz)).map (z.cells[· % z.cells.size]!)) vs.toList=some l.toArray)
  (h:New H (fun b H'=>K (.slice (some ⟨b,0,none⟩) n n) H') e l):BQ P (Instr.buildSlice t n vs) H K:=by
 refine BQ.mk fun w hw=>?_;subst hw;refine⟨_,w.alloc (.cells l.toArray e),?_,⟨rfl,rfl,rfl⟩,h.go⟩;obtain⟨inf,hi,hs,_,hz⟩:=ht.info;have h1:¬(16777216<n*sz):=by omega
 have h2:¬(n*sz=0):=by omega
 simp only [Instr.buildSlice,Sem.run_bind,run_underlying ht.under,Result.andThen_ok,sizeOf,typeInfo,zeroValue];simp [hi,hs,hz,h1,h2,hf,newRow]
theorem Up{P:Program}{t e:TypeId}{sz by_:Nat}{z:Value}{kl kc:IntKind}{l c:Int}{H:Aa}{K:Value→Aa→Prop}(ht:SlT P t e sz by_ z)(h0:0≤l)(hlc:l≤c)(hb:(by_:Int)*c≤281474976710656)
  (h63:c≤9223372036854775807)
  (h:New H (fun b H'=>K (.slice (some ⟨b,0,none⟩) l.toNat c.toNat) H') e ((Wc (c.toNat*sz)).map (z.cells[· % z.cells.size]!))):BQ P (Instr.makeSlice t (.int kl l) (.int kc c)) H K:=by
 refine BQ.mk fun w hw=>?_;subst hw;obtain⟨inf,hi,hs,hby,hz⟩:=ht.info;have hr:=run_make (P:=P) w t e inf z ht.under hi hz kl kc l c h0 hlc (by rw [hby];exact hb) h63;have e1:madeCells z.cells (c.toNat*inf.size)=((Wc (c.toNat*sz)).map (z.cells[· % z.cells.size]!)).toArray:=by
  rw [hs];unfold madeCells;apply Vn;simp
 rw [e1]at hr;exact⟨_,_,hr,⟨rfl,rfl,rfl⟩,h.go⟩
theorem LB(w:World)(b o:Nat)(v:Value):(w.setCell ⟨b,o,none⟩ v).heap=w.heap.modify b fun
   | .cells c elem frozen=>.cells (c.setIfInBounds o v) elem frozen
   | x=>x:=by
 unfold World.setCell;simp only [Option.isSome_none,UV,if_false]
 congr 1
theorem IN{w:World}{b o:Nat}{e:TypeId}{l:List Value}(hb:Blk w.heap b e l)(v:Value):
  Blk (w.setCell ⟨b,o,none⟩ v).heap b e (l.set o v)∧Agr (fun k=>k≠b) w.heap (w.setCell ⟨b,o,none⟩ v).heap∧(w.setCell ⟨b,o,none⟩ v).heap.size=w.heap.size:=by
 rw [LB];refine⟨?_,fun k hk=>?_,by simp⟩
 ·unfold Blk at hb ⊢;rw [VM,if_pos rfl,hb];simp
 ·rw [VM,if_neg (fun h=>hk h.symm)]
theorem HB{w:World}{b o:Nat}{e:TypeId}{l:List Value}(hb:Blk w.heap b e l):w.frozen? ⟨b,o,none⟩=false:=by
 unfold World.frozen?;simp only;rw [hb];simp
def T9(H:Aa)(K:Aa→Prop)(b:Nat)(e:TypeId)(l:List Value):Prop:=
 ∀H',Blk H' b e l→Agr (fun k=>k≠b) H H'→H'.size=H.size→K H'
theorem st1{P:Program}{t e:TypeId}{b o:Nat}{l:List Value}{v:Value}{H:Aa}{K:Aa→Prop}(ht:C3 P t)(hb:Blk H b e l)(ho:o<l.length)(hv:v.oneCell'=true)
  (h:T9 H K b e (l.set o v)):CP P (Instr.storeAt t (.pointer (some ⟨b,o,none⟩)) v) H K:=by
 refine CP.mk fun w hw=>?_;subst hw;have hc:w.cell? ⟨b,o,none⟩=some l[o]:=by rw [Fu,hb.cell];simp [ho]
 obtain⟨h1,h2,h3⟩:=IN (o:=o) hb v;refine⟨_,?_,?_,h _ h1 h2 h3⟩
 ·have hcs:v.cells= #[v]:=by cases v<;>simp_all [Value.cells,Value.oneCell']
  have hst:=run_storeCells_cells (P:=P) b o [v] 0 w (by simp [hc]) (by simp [HB hb]) (by simpa using hv);cases hq:P.info? t with
  | none=>have:=ht.size;simp [hq]at this
  | some i=>
    have hs:i.size=1:=by have:=ht.size;simpa [hq]using this
    simp only [Nat.add_zero]at hst;simp [Instr.storeAt,Instr.sureAddr,storeVar,sizeOf,typeInfo,hq,hcs,hs,hst,World.setCells]
 ·exact⟨rfl,rfl,rfl⟩
def Ac(l:List Value)(o:Nat)(cs:List Value):List Value:=l.take o++cs++l.drop (o+cs.length)
theorem Ei{l:List Value}{o:Nat}{cs:List Value}(h:o+cs.length≤l.length):(Ac l o cs).length=l.length:=by
 unfold Ac;simp;omega
theorem Db{l:List Value}{o:Nat}{cs:List Value}(h:o+cs.length≤l.length)(j:Nat):
  (Ac l o cs)[j]? =if o≤j∧j<o+cs.length then cs[j - o]? else l[j]? :=by
 unfold Ac;rw [Vf];by_cases h1:j<o
 ·rw [if_neg (by omega),Vp (by simp;omega),List.getElem?_take_of_lt h1]
 ·rw [Vo (by simp;omega)];simp only [VB,Vh (show o≤l.length by omega)];by_cases h2:j<o+cs.length
  ·rw [if_pos (by omega),Vp (by omega)]
  ·rw [if_neg (by omega),Vo (by omega),List.getElem?_drop]
   congr 1;omega
theorem FZ{b:Nat}{e:TypeId}:∀(cs:List Value) (o:Nat) (l:List Value) (w:World),Blk w.heap b e l→o+cs.length≤l.length→
  Blk (w.setCells b o cs).heap b e (Ac l o cs)∧Agr (fun k=>k≠b) w.heap (w.setCells b o cs).heap∧(w.setCells b o cs).heap.size=w.heap.size∧Env w (w.setCells b o cs)
 | [],o,l,w,hb,_=>⟨by simpa [Ac,World.setCells]using hb,Agr.refl _ _,rfl,Env.refl w⟩
 | v::cs,o,l,w,hb,hl=>by
   simp only [Va]at hl;obtain⟨h1,h2,h3⟩:=IN (o:=o) hb v;obtain⟨k1,k2,k3,k4⟩:=FZ cs (o+1) (l.set o v) (w.setCell ⟨b,o,none⟩ v) h1 (by simp;omega);refine⟨?_,h2.trans k2,k3.trans h3,⟨k4.os,k4.tape,k4.output⟩⟩;have e1:Ac (l.set o v) (o+1) cs=Ac l o (v::cs):=by
    apply Ve;intro j;rw [Db (by simp;omega),Db (by simp;omega)];simp only [Va];by_cases h:j=o
    ·subst h;rw [if_neg (by omega),if_pos (by omega)];simp [show j<l.length by omega]
    ·by_cases h':o+1≤j∧j<o+1+cs.length
     ·rw [if_pos h',if_pos (by omega)];rw [show j - o=(j - (o+1))+1 by omega,VF]
     ·rw [if_neg h',if_neg (by omega),Vu,if_neg (fun h2=>h h2.symm)]
   rw [←e1];exact k1
theorem stN{P:Program}{t e:TypeId}{b o:Nat}{l cs:List Value}{H:Aa}{K:Aa→Prop}(ht:(P.info? t).map (·.size)=some cs.length)(hb:Blk H b e l)(ho:o+cs.length≤l.length)(hv:cs.all (·.oneCell')=true)
  (h:T9 H K b e (Ac l o cs)):CP P (Instr.storeAt t (.pointer (some ⟨b,o,none⟩)) (.agg cs.toArray)) H K:=by
 refine CP.mk fun w hw=>?_;subst hw;have hthere:w.there b o cs.toArray.size:=fun j hj=>by
  simp only [List.size_toArray]at hj;refine⟨?_,HB hb⟩;rw [Fu,hb.cell];simp;omega
 obtain⟨h1,h2,h3,h4⟩:=FZ cs o l w hb ho;refine⟨_,run_storeAt_mid (P:=P) w b o t cs.toArray hthere (by simpa using ht) (by simpa using hv),by simpa using h4,?_⟩;simpa using h _ h1 h2 h3
def Sl(H:Aa)(lo:Nat)(e:TypeId)(sz:Nat)(v:Value)(n:Nat)(cs:List Value):Prop:=
 cs.length=n*sz∧((v= .slice none 0 0∧n=0)∨
  ∃b cap l,v= .slice (some ⟨b,0,none⟩) n cap∧lo≤b∧Blk H b e l∧n≤cap∧cap≤maxLen∧l.length=cap*sz∧l.take (n*sz)=cs)
def slB(v:Value)(k:Nat):Prop:=∃o n c,v= .slice (some ⟨k,o,none⟩) n c
theorem Sl.nil(H:Aa)(lo:Nat)(e:TypeId)(sz:Nat):Sl H lo e sz (.slice none 0 0) 0 []:=⟨by simp,.inl ⟨rfl,rfl⟩⟩
theorem Sl.made{H:Aa}{lo:Nat}{e:TypeId}{sz b n cap:Nat}{l:List Value}(hlo:lo≤b)(hb:Blk H b e l)(hn:n≤cap)(hc:cap≤maxLen)(hl:l.length=cap*sz):
  Sl H lo e sz (.slice (some ⟨b,0,none⟩) n cap) n (l.take (n*sz)):=
 ⟨by rw [VB,hl,Vh (UX _ hn)],.inr ⟨b,cap,l,rfl,hlo,hb,hn,hc,hl,rfl⟩⟩
theorem Sl.agr{S:Nat→Prop}{H H':Aa}{lo:Nat}{e:TypeId}{sz n:Nat}{v:Value}{cs:List Value}(h:Sl H lo e sz v n cs)(k:Agr S H H')(hS:∀b,slB v b→S b):Sl H' lo e sz v n cs:=by
 obtain⟨h1,h2⟩:=h;refine⟨h1,?_⟩;rcases h2 with h2 | ⟨b,cap,l,rfl,hlo,hb,r⟩
 ·exact .inl h2
 ·exact .inr ⟨b,cap,l,rfl,hlo,hb.agr k (hS b ⟨_,_,_,rfl⟩),r⟩
theorem Sl.lt{H:Aa}{lo:Nat}{e:TypeId}{sz n:Nat}{v:Value}{cs:List Value}(h:Sl H lo e sz v n cs){b:Nat}(hb:slB v b):lo≤b∧b<H.size:=by
 obtain⟨o,n',c,rfl⟩:=hb;rcases h.2 with⟨h2,_⟩ | ⟨b',cap,l,h2,hlo,hb,r⟩
 ·cases h2
 ·cases h2;exact⟨hlo,hb.lt⟩
theorem RU{P:Program}{t tx ty e:TypeId}{sz by_:Nat}{z:Value}{H:Aa}{K:Value→Aa→Prop}(ht:SlT P t e sz by_ z){lo n m:Nat}{v x:Value}{cs news:List Value}
  (hs:Sl H lo e sz v n cs) (hlo:lo≤H.size) (hx:∀w:World,w.heap=H→Src P sz tx x m news w) (h63:n+m≤maxLen) (hby:(n+m)*by_≤140737488355328)
  (h:∀v' H',Sl H' lo e sz v' (n+m) (cs++news)→Agr (fun k=>k<H.size∧¬slB v k) H H'→H.size≤H'.size→(∀k,slB v' k→slB v k∨H.size≤k)→K v' H'):
  BQ P (Builtin.append_ #[t,tx] ty [v,x].toArray) H K:=by
 refine BQ.mk fun w hw=>?_;subst hw;obtain⟨inf,hi,hsi,hbi,hz⟩:=ht.info;have hsrc:=hx w rfl;have hsrc':Src P inf.size tx x m news w:=by rw [hsi];exact hsrc
 have hnl:news.length=m*sz:=hsrc.newsLen;have h63':n+m≤9223372036854775807:=by simp only [maxLen]at h63;omega
 obtain⟨hcl,hs2⟩:=hs;have hlen:(cs++news).length=(n+m)*sz:=by rw [UW,hcl,hnl,VY]
 have grow:∀(base:Option Addr) (cap:Nat),v= .slice base n cap→cap<n+m→(Builtin.firstCells inf.size n (.slice base n cap)).run P w.drew= .ok cs.toArray w.drew→
   ∃v' w',(Builtin.append_ #[t,tx] ty [v,x].toArray).run P w= .ok v' w'∧Env w w'∧K v' w'.heap:=by
  intro base cap hv hcap hold;subst hv;have hr:=run_append_grow_src (P:=P) w t tx ty e inf z ht.under hi hz base n cap cs hold x m news hsrc' hcap (by omega) (growslice_fits (by omega) (by rw [hbi];exact hby));refine⟨_,_,hr,⟨rfl,rfl,rfl⟩,?_⟩;have hge:=grownCap_ge w (n+m) cap e;have hle:=grownCap_le_maxLen w (n+m) cap e h63;have hblk:Blk (w.drew.alloc (.cells ((cs++news).toArray++Builtin.zeroCells z.cells (grownCap w (n+m) cap e - (n+m))) e)).heap w.heap.size e
    ((cs++news)++(Builtin.zeroCells z.cells (grownCap w (n+m) cap e - (n+m))).toList):=by
   unfold Blk;have:(w.drew.alloc (.cells ((cs++news).toArray++Builtin.zeroCells z.cells (grownCap w (n+m) cap e - (n+m))) e)).heap=w.heap.push (.cells ((cs++news).toArray++Builtin.zeroCells z.cells (grownCap w (n+m) cap e - (n+m))) e):=rfl;rw [this];simp
  refine h _ _ ⟨hlen,.inr ⟨w.heap.size,_,_,rfl,hlo,hblk,hge,hle,?_,?_⟩⟩ ?_ ?_ ?_
  ·rw [UW,hlen,Array.length_toList,size_zeroCells,ht.zsz,←VY]
   congr 1;omega
  ·rw [←hlen,Wd];rfl
  ·intro k hk;exact Dx w.heap _ k hk.1
  ·show w.heap.size≤(w.heap.push _).size;simp
  ·rintro k ⟨o,n',c,hk⟩;cases hk;exact .inr (Vv _)
 rcases hs2 with⟨rfl,rfl⟩ | ⟨b,cap,l,rfl,hlob,hb,hnc,hcm,hll,htake⟩
 ·have hcs:cs=[]:=Vj (by simpa using hcl);subst hcs;by_cases hm:m=0
  ·subst hm;have hn:news=[]:=Vj (by simpa using hnl);subst hn;refine⟨.slice none 0 0,w,?_,Env.refl w,h _ _ (Sl.nil _ _ _ _) (Agr.refl _ _) (Vv _) (fun k hk=>.inl hk)⟩;rcases hsrc'.kind with⟨e',hk⟩ | hk<;>simp [Builtin.append_,run_underlying ht.under,run_underlying hk,sizeOf,typeInfo,hi,hsrc'.len,hsrc'.cells]
  ·exact grow none 0 rfl (by omega) (by simp [Builtin.firstCells])
 ·by_cases hroom:n+m≤cap
  ·have hfit:n*sz+news.length≤l.length:=by rw [hnl,hll,←VY];exact UX _ hroom
   have hr:=run_append_room_src (P:=P) w t tx ty e inf ht.under hi b 0 n cap x m news hsrc' hroom
    (fun j hj=>by rw [Fu,hb.cell];simp [hsi];omega) (fun j hj=>HB hb)
   obtain⟨h1,h2,h3,h4⟩:=FZ news (0+n*inf.size) l w hb (by rw [hsi];omega);refine⟨_,_,hr,h4,h _ _ ⟨hlen,.inr ⟨b,cap,_,rfl,hlob,h1,hroom,hcm,?_,?_⟩⟩ (h2.mono fun k hk=>?_) (by omega) ?_⟩
   ·rw [Ei (by rw [hsi];omega)];exact hll
   ·rw [hsi,VD];unfold Ac;rw [htake,←hlen,Wd];rfl
   ·intro hkb;subst hkb;exact hk.2 ⟨0,n,cap,rfl⟩
   ·rintro k ⟨o,n',c,hk⟩;cases hk;exact .inl ⟨0,n,cap,rfl⟩
  ·refine grow (some ⟨b,0,none⟩) cap rfl (by omega) ?_;have hc:Bo w.heap b 0 cs:=hb.cells fun j v hv=>by
    rw [←htake,Vi]at hv;split at hv
    ·simpa using hv
    ·cases hv
   have:=run_firstCells_some (P:=P) w.drew inf.size n ⟨b,0,none⟩ n cap cs (by rw [hsi];exact hcl) (fun j v hv=>by
    rw [Addr.add_mid];have:=O1 (w:=w.drew) (H:=w.heap) hc rfl j v hv;exact this)
   exact this
structure Ty(α:Type) where
 size:Nat
 rep:(Nat→Prop)→Aa→List Value→α→Prop
 len:∀{S H cs x},rep S H cs x→cs.length=size
 frame:∀{S H H' cs x},rep S H cs x→Agr S H H'→rep S H' cs x
 mono:∀{S S' H cs x},rep S H cs x→(∀k,S k→S' k)→rep S' H cs x
def Ty.reps{α:Type}(T:Ty α)(S:Nat→Prop)(H:Aa):List Value→List α→Prop
 | cs,[]=>cs=[]
 | cs,x::xs=>∃c r,cs=c++r∧T.rep S H c x∧T.reps S H r xs
section
variable{α β:Type}{T:Ty α}{S S':Nat→Prop}{H H':Aa}
theorem Ty.reps_len:∀{xs:List α} {cs:List Value},T.reps S H cs xs→cs.length=xs.length*T.size
 | [],_,h=>by cases h;simp
 | x::xs,_,⟨c,r,rfl,h1,h2⟩=>by
   rw [UW,T.len h1,Ty.reps_len h2,Va,Vs];omega
theorem Ty.reps_frame(k:Agr S H H'):∀{xs:List α} {cs:List Value},T.reps S H cs xs→T.reps S H' cs xs
 | [],_,h=>h
 | x::xs,_,⟨c,r,e,h1,h2⟩=>⟨c,r,e,T.frame h1 k,Ty.reps_frame k h2⟩
theorem Ty.reps_mono(k:∀i,S i→S' i):∀{xs:List α} {cs:List Value},T.reps S H cs xs→T.reps S' H cs xs
 | [],_,h=>h
 | x::xs,_,⟨c,r,e,h1,h2⟩=>⟨c,r,e,T.mono h1 k,Ty.reps_mono k h2⟩
theorem Ty.reps_append:∀{xs ys:List α} {cs ds:List Value},T.reps S H cs xs→T.reps S H ds ys→T.reps S H (cs++ds) (xs++ys)
 | [],_,_,_,h,h'=>by cases h;simpa using h'
 | x::xs,_,_,_,⟨c,r,e,h1,h2⟩,h'=>⟨c,r++_,by rw [e,Vf],h1,Ty.reps_append h2 h'⟩
theorem Ty.reps_one{c:List Value}{x:α}(h:T.rep S H c x):T.reps S H c [x]:=⟨c,[],by simp,h,rfl⟩
theorem Ty.reps_snoc{xs:List α}{cs c:List Value}{x:α}(h:T.reps S H cs xs)(h':T.rep S H c x):T.reps S H (cs++c) (xs++[x]):=Ty.reps_append h (Ty.reps_one h')
theorem Ty.reps_get:∀{xs:List α} {cs:List Value} {i:Nat} {x:α},T.reps S H cs xs→xs[i]? =some x→∃l c r,cs=l++c++r∧l.length=i*T.size∧T.rep S H c x
 | x::xs,_,0,y,⟨c,r,e,h1,h2⟩,hx=>by
   simp at hx;subst hx;exact⟨[],c,r,by simp [e],by simp,h1⟩
 | x::xs,_,i+1,y,⟨c,r,e,h1,h2⟩,hx=>by
   simp at hx;obtain⟨l,c',r',e',hl,hc⟩:=Ty.reps_get h2 hx;exact⟨c++l,c',r',by simp [e,e',Vf],by rw [UW,T.len h1,hl,Vs];omega,hc⟩
theorem Bo.mid{b o:Nat}{l c r:List Value}(h:Bo H b o (l++c++r)):Bo H b (o+l.length) c:=fun j v hv=>by
 have:=h (l.length+j) v (by
  rw [Vf,Vo (by omega),Vp (by
   have:=(UM.1 hv).1;omega)]
  rw [show l.length+j - l.length=j by omega];exact hv)
 rw [←Nat.add_assoc]at this;exact this
theorem Bo.one{b o:Nat}{v:Value}(h:Bo H b o [v]):cell H b o=some v:=by have:=h 0 v rfl;simpa using this
end
def inK(k:IntKind)(x:Int):Prop:=k.min≤x∧x≤k.max
def Kn(k:IntKind):Ty Int where
 size:=1
 rep _ _ cs x:=cs=[.int k x]∧inK k x
 len h:=by rw [h.1];rfl
 frame h _:=h
 mono h _:=h
def Uo:Ty Bool where
 size:=1
 rep _ _ cs x:=cs=[.bool x]
 len h:=by rw [h];rfl
 frame h _:=h
 mono h _:=h
def Ko:Ty ByteArray where
 size:=1
 rep _ _ cs x:=cs=[.string x]∧x.size≤maxLen
 len h:=by rw [h.1];rfl
 frame h _:=h
 mono h _:=h
def SlD{α:Type}(T:Ty α)(S:Nat→Prop)(H:Aa)(a:Option Addr)(cap:Nat)(xs:List α):Prop:=
 match a with
 | none=>xs=[]∧cap=0
 | some ad=>xs.length≤cap∧cap≤maxLen∧(cap=0∨ad.spot=none∧S ad.block∧∃ec,Bo H ad.block ad.off ec∧T.reps S H ec xs)
theorem SlD.intro{α:Type}{T:Ty α}{S:Nat→Prop}{H:Aa}{b o cap:Nat}{xs:List α}{ec:List Value}(h2:S b)(h3:xs.length≤cap)(h4:cap≤maxLen)(h5:Bo H b o ec)(h6:T.reps S H ec xs):SlD T S H (some ⟨b,o,none⟩) cap xs:=
 ⟨h3,h4,.inr ⟨rfl,h2,ec,h5,h6⟩⟩
theorem SlD.frame{α:Type}{T:Ty α}{S:Nat→Prop}{H H':Aa}{a:Option Addr}{cap:Nat}{xs:List α}(h:SlD T S H a cap xs)(k:Agr S H H'):SlD T S H' a cap xs:=by
 cases a with
 | none=>exact h
 | some ad=>
   obtain⟨h3,h4,h0 | ⟨h1,h2,ec,h5,h6⟩⟩:=h
   ·exact⟨h3,h4,.inl h0⟩
   ·exact⟨h3,h4,.inr ⟨h1,h2,ec,h5.eq (k _ h2),Ty.reps_frame k h6⟩⟩
theorem SlD.mono{α:Type}{T:Ty α}{S S':Nat→Prop}{H:Aa}{a:Option Addr}{cap:Nat}{xs:List α}(h:SlD T S H a cap xs)(k:∀i,S i→S' i):SlD T S' H a cap xs:=by
 cases a with
 | none=>exact h
 | some ad=>
   obtain⟨h3,h4,h0 | ⟨h1,h2,ec,h5,h6⟩⟩:=h
   ·exact⟨h3,h4,.inl h0⟩
   ·exact⟨h3,h4,.inr ⟨h1,k _ h2,ec,h5,Ty.reps_mono k h6⟩⟩
theorem SlD.le{α:Type}{T:Ty α}{S:Nat→Prop}{H:Aa}{a:Option Addr}{cap:Nat}{xs:List α}(h:SlD T S H a cap xs):xs.length≤cap∧cap≤maxLen:=by
 cases a with
 | none=>obtain⟨rfl,rfl⟩:=h;simp
 | some ad=>exact⟨h.1,h.2.1⟩
def tSl{α:Type}(T:Ty α):Ty (List α) where
 size:=1
 rep S H cs xs:=∃a cap,cs=[.slice a xs.length cap]∧SlD T S H a cap xs
 len:=by rintro S H cs x ⟨a,cap,rfl,_⟩;rfl
 frame:=by rintro S H H' cs x ⟨a,cap,e,h⟩ k;exact⟨a,cap,e,h.frame k⟩
 mono:=by rintro S S' H cs x ⟨a,cap,e,h⟩ k;exact⟨a,cap,e,h.mono k⟩
theorem SlD.get{α:Type}{T:Ty α}{S:Nat→Prop}{H:Aa}{a:Option Addr}{cap i:Nat}{xs:List α}{x:α}(h:SlD T S H a cap xs)(hx:xs[i]? =some x):
  ∃b o c,a=some ⟨b,o,none⟩∧S b∧Bo H b (o+i*T.size) c∧T.rep S H c x:=by
 cases a with
 | none=>obtain⟨rfl,_⟩:=h;simp at hx
 | some ad=>
   obtain⟨b,o,sp⟩:=ad;obtain⟨h3,h4,h0 | ⟨rfl,h2,ec,h5,h6⟩⟩:=h
   ·have:=(UM.1 hx).1;omega
   obtain⟨l,c,r,rfl,hl,hc⟩:=Ty.reps_get h6 hx;exact⟨b,o,c,rfl,h2,by rw [←hl];exact h5.mid,hc⟩
theorem ixr{α:Type}{T:Ty α}{P:Program}{t e by_:Nat}{z:Value}{cap i:Nat}{k:IntKind}{j:Int}{S S0:Nat→Prop}{H:Aa}{K:Value→Prop}{a:Option Addr}{xs:List α}{x:α}
  (ht:SlT P t e T.size by_ z) (h:SlD T S H a cap xs) (hx:xs[i]? =some x) (hj:j=(i:Int))
  (hk:∀b o c,S b→Bo H b o c→T.rep S H c x→K (.pointer (some ⟨b,o,none⟩))):AB P (Instr.indexAt t (.slice a xs.length cap) (.int k j)) S0 H K:=by
 obtain⟨b,o,c,rfl,h1,h2,h3⟩:=h.get hx;subst hj;have hi:=(UM.1 hx).1;exact ix ht (by omega) (by omega) (by simpa using hk b _ c h1 h2 h3)
theorem fa{P:Program}{s f off ft n b o:Nat}{S:Nat→Prop}{H:Aa}{K:Value→Prop}(ht:Az P s f off ft n)(k:K (.pointer (some ⟨b,o+off,none⟩))):
  AB P (Instr.fieldAt s (.pointer (some ⟨b,o,none⟩)) f) S H K:=by
 obtain⟨fs,fd,h1,h2,rfl,rfl⟩:=ht.under;refine AB.mk _ (fun w _=>?_) k;cases hi:P.info? fd.type with
 | none=>have:=ht.size;simp [hi]at this
 | some i=>
   have hs:i.size=n:=by have:=ht.size;simpa [hi]using this
   have hp:=ht.pos;have ha:(⟨b,o,none⟩:Addr).add fd.offset=⟨b,o+fd.offset,none⟩:=Addr.add_mid _ _ _;simp [Instr.fieldAt,run_underlying h1,h2,Instr.sureAddr,fieldPlace,sizeOf,typeInfo,hi,hs,hp,ha]
theorem ixa{P:Program}{t len e sz b o:Nat}{k:IntKind}{i:Int}{S:Nat→Prop}{H:Aa}{K:Value→Prop}(ht:KN P t len e sz)(h0:0≤i)(h1:i<len)
  (hk:K (.pointer (some ⟨b,o+i.toNat*sz,none⟩))):AB P (Instr.indexAt t (.pointer (some ⟨b,o,none⟩)) (.int k i)) S H K:=by
 refine AB.mk _ (fun w _=>?_) hk;cases hi:P.info? e with
 | none=>have:=ht.size;simp [hi]at this
 | some inf=>
   have hs:inf.size=sz:=by have:=ht.size;simpa [hi]using this
   have ha:(⟨b,o,none⟩:Addr).add (i.toNat*sz)=⟨b,o+i.toNat*sz,none⟩:=Addr.add_mid _ _ _;simp [Instr.indexAt,asIntOf,run_underlying ht.under,Instr.sureAddr,h0,h1,sizeOf,typeInfo,hi,hs,ha]
theorem Pn{P:Program}{t off:Nat}{cs:Array Value}{v:Value}(ht:C3 P t)(hv:cs[off]? =some v)(w:World):(part t cs off).run P w= .ok v w:=by
 obtain⟨d,hu,hd⟩:=ht.under;have hagg:(isAgg t).run P w= .ok false w:=by
  unfold isAgg;rw [Sem.run_bind,run_underlying hu w];cases d<;>simp_all
 simp [part,hagg,hv]
theorem Po{P:Program}{t off n:Nat}{cs:Array Value}(ht:E9 P t n)(w:World):(part t cs off).run P w= .ok (.agg (cs.extract off (off+n))) w:=by
 obtain⟨d,hu,hd⟩:=ht.under;have hagg:(isAgg t).run P w= .ok true w:=by
  unfold isAgg;rw [Sem.run_bind,run_underlying hu w];cases d<;>simp_all
 cases hi:P.info? t with
 | none=>have:=ht.size;simp [hi]at this
 | some i=>
   have hs:i.size=n:=by have:=ht.size;simpa [hi]using this
   simp [part,hagg,sizeOf,typeInfo,hi,hs]
theorem U6{P:Program}{t len e sz:Nat}{k:IntKind}{i:Int}{cs:Array Value}{v:Value}{S:Nat→Prop}{H:Aa}{K:Value→Prop}(ht:KN P t len e sz)(hc:C3 P e)(h0:0≤i)(h1:i<len)
  (hv:cs[i.toNat*sz]? =some v) (hk:K v):AB P (Instr.index t (.agg cs) (.int k i)) S H K:=by
 refine AB.mk _ (fun w _=>?_) hk;cases hi:P.info? e with
 | none=>have:=ht.size;simp [hi]at this
 | some inf=>
   have hs:inf.size=sz:=by have:=ht.size;simpa [hi]using this
   simp [Instr.index,asIntOf,run_underlying ht.under,h0,h1,sizeOf,typeInfo,hi,hs,Pn hc hv]
theorem CR{P:Program}{t len e sz:Nat}{vs:Array (Nat×Value)}{S:Nat→Prop}{H:Aa}{K:Value→Prop}(ht:KN P t len e sz)(z:Value)(hz:(P.info? t).bind (·.zero)=some z)(l:List Value)
  (hf:Instr.fill (fun i=>some (i*sz,sz)) z.cells vs.toList=some l.toArray) (k:K (.agg l.toArray)):AB P (Instr.build t vs) S H K:=by
 refine AB.mk _ (fun w _=>?_) k;cases hi:P.info? e with
 | none=>have:=ht.size;simp [hi]at this
 | some inf=>
   have hs:inf.size=sz:=by have:=ht.size;simpa [hi]using this
   cases ht':P.info? t with
   | none=>rw [ht']at hz;cases hz
   | some it=>
     have hz':it.zero=some z:=by simpa [ht']using hz
     simp [Instr.build,zeroValue,typeInfo,ht',hz',run_underlying ht.under,sizeOf,hi,hs,hf]
theorem Av{P:Program}{t:Nat}{fs:Array Field}{vs:Array (Nat×Value)}{S:Nat→Prop}{H:Aa}{K:Value→Prop}(ht:P.underlying t=some (.struct fs))(hfs:fs.toList.all (fun f=>(P.info? f.type).isSome)=true)
  (z:Value) (hz:(P.info? t).bind (·.zero)=some z) (l:List Value)
  (hf:Instr.fill (fun i=>(fs.toList.map fun f=>(f.offset,P.cellsOf f.type))[i]?) z.cells vs.toList=some l.toArray) (k:K (.agg l.toArray)):AB P (Instr.build t vs) S H K:=by
 refine AB.mk _ (fun w _=>?_) k;cases ht':P.info? t with
 | none=>rw [ht']at hz;cases hz
 | some it=>
   have hz':it.zero=some z:=by simpa [ht']using hz
   have hm:∀(l:List Field),l.all (fun f=>(P.info? f.type).isSome)=true→(l.mapM fun f=>(do pure (f.offset,←sizeOf f.type):Sem (Nat×Nat))).run P w= .ok (l.map fun f=>(f.offset,P.cellsOf f.type)) w:=by
    intro l
    induction l with
    | nil=>intro _;simp
    | cons f l ih=>
      intro h;simp only [List.all_cons,UZ]at h;obtain⟨inf,hi⟩:=Option.isSome_iff_exists.1 h.1;have hsz:(sizeOf f.type).run P w= .ok (P.cellsOf f.type) w:=by simp [sizeOf,typeInfo,hi,Program.cellsOf]
      simp only [List.mapM_cons,Sem.run_bind,hsz,Result.andThen_ok,Sem.run_pure,ih h.2,Vx]
   have hm':(fs.mapM fun f=>(do pure (f.offset,←sizeOf f.type):Sem (Nat×Nat))).run P w= .ok (fs.toList.map fun f=>(f.offset,P.cellsOf f.type)).toArray w:=by
    rw [Array.mapM_eq_mapM_toList];rw [show(List.toArray <$> fs.toList.mapM fun f=>(do pure (f.offset,←sizeOf f.type):Sem (Nat×Nat)))=(do let l ←fs.toList.mapM fun f=>(do pure (f.offset,←sizeOf f.type):Sem (Nat×Nat));pure l.toArray)from rfl];rw [Sem.run_bind,hm _ hfs];simp
   have hzv:(zeroValue t).run P w= .ok z w:=by simp [zeroValue,typeInfo,ht',hz']
   simp only [Instr.build,Sem.run_bind,hzv,Result.andThen_ok,run_underlying ht];rw [hm'];simp only [Result.andThen_ok,List.getElem?_toArray,hf,Sem.run_pure]
theorem DO{k:IntKind}{x:Int}(h:inK k x):k.wrap x=x:=by
 obtain⟨h1,h2⟩:=h;unfold IntKind.wrap;cases k<;>simp only [IntKind.min,IntKind.max,IntKind.signed,IntKind.bits,if_true,UV,if_false,Vy,Wi,Vz]at h1 h2 ⊢ <;>simp only [Wj,Bool.false_and,decide_eq_true_eq,UV,if_false,ge_iff_le]<;>(try split)<;>omega
theorem w64{x:Int}(h0: -9223372036854775808≤x)(h1:x≤9223372036854775807):IntKind.wrap .i64 x=x:=DO ⟨h0,h1⟩
theorem w8{x:Int}(h0:0≤x)(h1:x≤255):IntKind.wrap .u8 x=x:=DO ⟨h0,h1⟩
theorem Es{k:IntKind}{x:Nat}(h:inK k (x:Int)):x<2 ^ k.bits:=by
 obtain⟨_,h2⟩:=h;cases k<;>simp only [IntKind.max,IntKind.signed,IntKind.bits,if_true,UV,if_false,Vy,Wi,Vz]at h2 ⊢ <;>omega
theorem Nl{k:IntKind}{x y:Nat}(h:inK k (x:Int))(hy:y≤x):inK k (y:Int):=by
 obtain⟨_,h2⟩:=h;refine⟨?_,by omega⟩;cases k<;>simp only [IntKind.min,IntKind.signed,IntKind.bits,if_true,UV,if_false,Vy,Vz]<;>omega
theorem Fk{x:Nat}(h:x<18446744073709551616):inK .u64 (x:Int):=⟨by simp [IntKind.min,IntKind.signed],by simp [IntKind.max,IntKind.signed,IntKind.bits];omega⟩
theorem BB{x:Nat}(h:x<9223372036854775808):inK .i64 (x:Int):=by
 refine⟨?_,by simp [IntKind.max,IntKind.signed,IntKind.bits];omega⟩;have:IntKind.i64.min= -9223372036854775808:=by decide
 omega
theorem Qf{x:Nat}(h:x<256):inK .u8 (x:Int):=⟨by simp [IntKind.min,IntKind.signed],by simp [IntKind.max,IntKind.signed,IntKind.bits];omega⟩
theorem It{P:Program}{t:TypeId}{x y:Operand}{k:IntKind}{a b:Nat}{S:Nat→Prop}{H:Aa}{K:Value→Prop}(ha:inK k (a:Int))(hb:inK k (b:Int))(hk:K (.int k ((a &&& b:Nat):Int))):
  AB P (do eqGuard .and t x y (.int k a) (.int k b);binOp .and t (.int k a) (.int k b)) S H K:=by
 refine AB.mk _ (fun w _=>?_) hk;have e1:(VE k.bits (a:Int) &&& VE k.bits (b:Int)).toNat=a &&& b:=by
  simp only [VQ,BitVec.toNat_and,VW,US (Es ha),US (Es hb)]
 simp [BS,binOp,Op.intBits,US (Es ha),US (Es hb),DO (Nl ha (Nat.and_le_left))]
theorem Tb{k:IntKind}{a b:Nat}(ha:inK k (a:Int))(hb:inK k (b:Int)):inK k ((a ||| b:Nat):Int):=by
 obtain⟨h1,h2⟩:=ha;obtain⟨h3,h4⟩:=hb;refine⟨?_,?_⟩
 ·cases k<;>simp only [IntKind.min,IntKind.signed,IntKind.bits,if_true,UV,if_false,Vy,Vz]<;>omega
 ·cases k<;>simp only [IntKind.max,IntKind.signed,IntKind.bits,if_true,UV,if_false,Vy,Vz]at h2 h4 ⊢
  ·have:=UT (n:=7) (x:=a) (y:=b) (by omega) (by omega);omega
  ·have:=UT (n:=15) (x:=a) (y:=b) (by omega) (by omega);omega
  ·have:=UT (n:=31) (x:=a) (y:=b) (by omega) (by omega);omega
  ·have:=UT (n:=63) (x:=a) (y:=b) (by omega) (by omega);omega
  ·have:=UT (n:=8) (x:=a) (y:=b) (by omega) (by omega);omega
  ·have:=UT (n:=16) (x:=a) (y:=b) (by omega) (by omega);omega
  ·have:=UT (n:=32) (x:=a) (y:=b) (by omega) (by omega);omega
  ·have:=UT (n:=64) (x:=a) (y:=b) (by omega) (by omega);omega
theorem vor{P:Program}{t:TypeId}{x y:Operand}{k:IntKind}{a b:Nat}{S:Nat→Prop}{H:Aa}{K:Value→Prop}(ha:inK k (a:Int))(hb:inK k (b:Int))(hk:K (.int k ((a ||| b:Nat):Int))):
  AB P (do eqGuard .or t x y (.int k a) (.int k b);binOp .or t (.int k a) (.int k b)) S H K:=by
 refine AB.mk _ (fun w _=>?_) hk;have e1:(VE k.bits (a:Int) ||| VE k.bits (b:Int)).toNat=a ||| b:=by
  simp only [VQ,BitVec.toNat_or,VW,US (Es ha),US (Es hb)]
 simp [BS,binOp,Op.intBits,US (Es ha),US (Es hb),DO (Tb ha hb)]
theorem Hl{P:Program}{t:TypeId}{x y:Operand}{k k':IntKind}{a b:Nat}{S:Nat→Prop}{H:Aa}{K:Value→Prop}(hb:b≤k.bits)(hk:K (.int k ((a / 2 ^ b:Nat):Int))):
  AB P (do eqGuard .shr t x y (.int k a) (.int k' b);binOp .shr t (.int k a) (.int k' b)) S H K:=by
 refine AB.mk _ (fun w _=>?_) hk;have e1:((a:Int).fdiv (2 ^ b))=((a / 2 ^ b:Nat):Int):=by
  rw [Int.fdiv_eq_ediv_of_nonneg _ (by exact_mod_cast VJ _)]
  push_cast;rfl
 have e2:min b k.bits=b:=Vh hb;have e3:¬((b:Int)<0):=by omega
 simp [BS,binOp,Op.shift,e2,e3,e1]
theorem Tv{P:Program}{t:TypeId}{x y:Operand}{k k':IntKind}{a b:Nat}{S:Nat→Prop}{H:Aa}{K:Value→Prop}(hb:b≤k.bits)(hin:inK k ((a*2 ^ b:Nat):Int))(hk:K (.int k ((a*2 ^ b:Nat):Int))):
  AB P (do eqGuard .shl t x y (.int k a) (.int k' b);binOp .shl t (.int k a) (.int k' b)) S H K:=by
 refine AB.mk _ (fun w _=>?_) hk;have e2:min b k.bits=b:=Vh hb;have e3:¬((b:Int)<0):=by omega
 have e4:(a:Int)*2 ^ b=((a*2 ^ b:Nat):Int):=by push_cast;rfl
 simp only [BS,binOp,Op.shift,Sem.run_bind,Result.andThen_ok,e3,if_false,Int.toNat_natCast,e2,e4,DO hin,Sem.run_pure]
theorem JU{P:Program}{t m D D':Nat}{as1 bs:Array Value}{la lb:List Lit}(hk:P.keyTypeAt m t=true)(hm:m≤10000)(hg:P.eqGuardType P.depth t=false)
  (fa:(Value.agg as1).formed P t=true) (fb:(Value.agg bs).formed P t=true) (ha:P.keyLits D t as1.toList=some la) (hb:P.keyLits D' t bs.toList=some lb) {r:Bool} (hr:r=true↔la=lb)
  {op:BinOp} (hop:op= .eql∨op= .neq) (x y:Operand) (w:World):
  (do eqGuard op t x y (.agg as1) (.agg bs);binOp op t (.agg as1) (.agg bs):Sem Value).run P w= .ok (.bool (if op matches .eql then r else !r)) w:=by
 obtain⟨r',h1,h2⟩:=run_equalIn_deep (10000 - m) m t hk w D D' (.agg as1) (.agg bs) la lb fa fb ha hb;rw [show 10000 - m+m=10000 by omega]at h1;have hrr:r'=r:=by rw [Bool.eq_iff_iff,h2,hr]
 subst hrr;have hp:program.run P w= .ok P w:=rfl;rcases hop with rfl | rfl<;>simp [eqGuard,hp,hg,binOp,Op.equal,Op.maxDepth,h1]
theorem veq{P:Program}{t m D D':Nat}{as1 bs:Array Value}{la lb:List Lit}{x y:Operand}{S:Nat→Prop}{H:Aa}{K:Value→Prop}(hk:P.keyTypeAt m t=true)(hm:m≤10000)(hg:P.eqGuardType P.depth t=false)
  (fa:(Value.agg as1).formed P t=true) (fb:(Value.agg bs).formed P t=true) (ha:P.keyLits D t as1.toList=some la) (hb:P.keyLits D' t bs.toList=some lb) {r:Bool} (hr:r=true↔la=lb) (k:K (.bool r)):
  AB P (do eqGuard .eql t x y (.agg as1) (.agg bs);binOp .eql t (.agg as1) (.agg bs)) S H K:=
 AB.mk _ (fun w _=>JU hk hm hg fa fb ha hb hr (.inl rfl) x y w) k
theorem Us{P:Program}{t m D D':Nat}{as1 bs:Array Value}{la lb:List Lit}{x y:Operand}{S:Nat→Prop}{H:Aa}{K:Value→Prop}(hk:P.keyTypeAt m t=true)(hm:m≤10000)(hg:P.eqGuardType P.depth t=false)
  (fa:(Value.agg as1).formed P t=true) (fb:(Value.agg bs).formed P t=true) (ha:P.keyLits D t as1.toList=some la) (hb:P.keyLits D' t bs.toList=some lb) {r:Bool} (hr:r=true↔la=lb) (k:K (.bool (!r))):
  AB P (do eqGuard .neq t x y (.agg as1) (.agg bs);binOp .neq t (.agg as1) (.agg bs)) S H K:=
 AB.mk _ (fun w _=>JU hk hm hg fa fb ha hb hr (.inr rfl) x y w) k
def Bv(P:Program)(f:FuncId)(args:Array Value)(H:Aa)(v:Value):Prop:=
 Ao P f args H fun v' H'=>v'=v∧Agr (fun k=>k<H.size) H H'
def Old(H:Aa)(k:Nat):Prop:=k<H.size
theorem A0{H H':Aa}(h:Agr (Old H) H H'){k:Nat}(hk:Old H k):k<H'.size:=by
 have h1:=h k hk;unfold Old at hk;rw [V9 hk]at h1;exact(Vd.1 h1).1
theorem DI{H H':Aa}(h:Agr (Old H) H H'):H.size≤H'.size:=P7 h (Vv _)
theorem Q1{P:Program}{f:FuncId}{args:Array Value}{H:Aa}{K:Value→Prop}{v:Value}
  (h:∀H',Agr (Old H) H H'→Bv P f args H' v) (k:K v):Ho P f args (Old H) H K:=
 Ho.mk v (fun H' hH'=>(h H' hH').mono fun v' H'' ⟨e,ha⟩=>⟨e,ha.mono fun k hk=>A0 hH' hk⟩) k
theorem Af{P:Program}{f:FuncId}{args:Array Value}{H:Aa}{K:Value→Aa→Prop}{v:Value}
  (h:Bv P f args H v) (k:∀H',Agr (Old H) H H'→K v H'):Ai P f args H K:=
 Ai.mk h fun v' H' ⟨e,ha⟩=>by subst e;exact k H' ha
end Go.VC
namespace Go.Proofs.YtlnmhfhdjnenoaaGreatDoor
open Go.VC
theorem ct3:C3 Tryz.prog 3:=⟨⟨_,rfl,rfl⟩,rfl⟩
theorem ct4:C3 Tryz.prog 4:=⟨⟨_,rfl,rfl⟩,rfl⟩
theorem ct5:C3 Tryz.prog 5:=⟨⟨_,rfl,rfl⟩,rfl⟩
theorem ag8:E9 Tryz.prog 8 4:=⟨⟨_,rfl,rfl⟩,rfl⟩
theorem ct9:C3 Tryz.prog 9:=⟨⟨_,rfl,rfl⟩,rfl⟩
theorem C8:C3 Tryz.prog 24:=⟨⟨_,rfl,rfl⟩,rfl⟩
theorem FH:C3 Tryz.prog 25:=⟨⟨_,rfl,rfl⟩,rfl⟩
theorem J7:E9 Tryz.prog 27 3:=⟨⟨_,rfl,rfl⟩,rfl⟩
theorem C0:C3 Tryz.prog 30:=⟨⟨_,rfl,rfl⟩,rfl⟩
theorem CU:SlT Tryz.prog 30 94 261 296 (Tryz.t94.zero.getD undef):=⟨rfl,⟨_,rfl,rfl,rfl,rfl⟩,rfl⟩
theorem Dd:E9 Tryz.prog 32 2:=⟨⟨_,rfl,rfl⟩,rfl⟩
theorem Cm:Az Tryz.prog 32 0 0 30 1:=⟨⟨_,_,rfl,rfl,rfl,rfl⟩,rfl,UL⟩
theorem Lh:Az Tryz.prog 32 1 1 3 1:=⟨⟨_,_,rfl,rfl,rfl,rfl⟩,rfl,UL⟩
theorem FI:C3 Tryz.prog 35:=⟨⟨_,rfl,rfl⟩,rfl⟩
theorem FB:SlT Tryz.prog 35 104 7 56 (Tryz.t104.zero.getD undef):=⟨rfl,⟨_,rfl,rfl,rfl,rfl⟩,rfl⟩
theorem Ek:E9 Tryz.prog 37 4:=⟨⟨_,rfl,rfl⟩,rfl⟩
theorem CN:Az Tryz.prog 37 0 0 3 1:=⟨⟨_,_,rfl,rfl,rfl,rfl⟩,rfl,UL⟩
theorem Gs:Az Tryz.prog 37 1 1 3 1:=⟨⟨_,_,rfl,rfl,rfl,rfl⟩,rfl,UL⟩
theorem Gt:Az Tryz.prog 37 2 2 3 1:=⟨⟨_,_,rfl,rfl,rfl,rfl⟩,rfl,UL⟩
theorem CC:Az Tryz.prog 37 3 3 35 1:=⟨⟨_,_,rfl,rfl,rfl,rfl⟩,rfl,UL⟩
theorem TN:C3 Tryz.prog 39:=⟨⟨_,rfl,rfl⟩,rfl⟩
theorem Gr:C3 Tryz.prog 40:=⟨⟨_,rfl,rfl⟩,rfl⟩
theorem IB:SlT Tryz.prog 40 106 259 280 (Tryz.t106.zero.getD undef):=⟨rfl,⟨_,rfl,rfl,rfl,rfl⟩,rfl⟩
theorem LT:E9 Tryz.prog 42 4:=⟨⟨_,rfl,rfl⟩,rfl⟩
theorem Cc:Az Tryz.prog 42 0 0 3 1:=⟨⟨_,_,rfl,rfl,rfl,rfl⟩,rfl,UL⟩
theorem Li:Az Tryz.prog 42 1 1 3 1:=⟨⟨_,_,rfl,rfl,rfl,rfl⟩,rfl,UL⟩
theorem Lj:Az Tryz.prog 42 2 2 3 1:=⟨⟨_,_,rfl,rfl,rfl,rfl⟩,rfl,UL⟩
theorem CY:Az Tryz.prog 42 3 3 40 1:=⟨⟨_,_,rfl,rfl,rfl,rfl⟩,rfl,UL⟩
theorem OG:C3 Tryz.prog 51:=⟨⟨_,rfl,rfl⟩,rfl⟩
theorem Tj:SlT Tryz.prog 51 59 7 56 (Tryz.t59.zero.getD undef):=⟨rfl,⟨_,rfl,rfl,rfl,rfl⟩,rfl⟩
theorem TD:E9 Tryz.prog 53 4:=⟨⟨_,rfl,rfl⟩,rfl⟩
theorem HA:Az Tryz.prog 53 0 0 3 1:=⟨⟨_,_,rfl,rfl,rfl,rfl⟩,rfl,UL⟩
theorem Lk:Az Tryz.prog 53 1 1 3 1:=⟨⟨_,_,rfl,rfl,rfl,rfl⟩,rfl,UL⟩
theorem Ll:Az Tryz.prog 53 2 2 3 1:=⟨⟨_,_,rfl,rfl,rfl,rfl⟩,rfl,UL⟩
theorem Iy:Az Tryz.prog 53 3 3 51 1:=⟨⟨_,_,rfl,rfl,rfl,rfl⟩,rfl,UL⟩
theorem JB:C3 Tryz.prog 54:=⟨⟨_,rfl,rfl⟩,rfl⟩
theorem BU:SlT Tryz.prog 54 3 1 8 (.int .i64 0):=⟨rfl,⟨_,rfl,rfl,rfl,rfl⟩,rfl⟩
theorem ES:C3 Tryz.prog 56:=⟨⟨_,rfl,rfl⟩,rfl⟩
theorem PA:KN Tryz.prog 57 4 56 1:=⟨rfl,rfl⟩
theorem Re:E9 Tryz.prog 57 4:=⟨⟨_,rfl,rfl⟩,rfl⟩
theorem S7:E9 Tryz.prog 59 7:=⟨⟨_,rfl,rfl⟩,rfl⟩
theorem Lm:Az Tryz.prog 59 0 0 3 1:=⟨⟨_,_,rfl,rfl,rfl,rfl⟩,rfl,UL⟩
theorem Ln:Az Tryz.prog 59 1 1 3 1:=⟨⟨_,_,rfl,rfl,rfl,rfl⟩,rfl,UL⟩
theorem PT:Az Tryz.prog 59 2 2 4 1:=⟨⟨_,_,rfl,rfl,rfl,rfl⟩,rfl,UL⟩
theorem PU:Az Tryz.prog 59 3 3 57 4:=⟨⟨_,_,rfl,rfl,rfl,rfl⟩,rfl,UL⟩
theorem Lb:C3 Tryz.prog 60:=⟨⟨_,rfl,rfl⟩,rfl⟩
theorem QE:SlT Tryz.prog 60 9 1 16 (Tryz.t9.zero.getD undef):=⟨rfl,⟨_,rfl,rfl,rfl,rfl⟩,rfl⟩
theorem Pr:SlT Tryz.prog 64 67 5 56 (Tryz.t67.zero.getD undef):=⟨rfl,⟨_,rfl,rfl,rfl,rfl⟩,rfl⟩
theorem PV:Az Tryz.prog 67 0 0 3 1:=⟨⟨_,_,rfl,rfl,rfl,rfl⟩,rfl,UL⟩
theorem PW:Az Tryz.prog 67 1 1 42 4:=⟨⟨_,_,rfl,rfl,rfl,rfl⟩,rfl,UL⟩
theorem Lo:Az Tryz.prog 74 0 0 9 1:=⟨⟨_,_,rfl,rfl,rfl,rfl⟩,rfl,UL⟩
theorem AJ:Az Tryz.prog 74 1 1 3 1:=⟨⟨_,_,rfl,rfl,rfl,rfl⟩,rfl,UL⟩
theorem Gu:Az Tryz.prog 74 2 2 54 1:=⟨⟨_,_,rfl,rfl,rfl,rfl⟩,rfl,UL⟩
theorem Rm:C3 Tryz.prog 75:=⟨⟨_,rfl,rfl⟩,rfl⟩
theorem Bj:E9 Tryz.prog 77 2:=⟨⟨_,rfl,rfl⟩,rfl⟩
theorem Lp:Az Tryz.prog 77 0 0 3 1:=⟨⟨_,_,rfl,rfl,rfl,rfl⟩,rfl,UL⟩
theorem Lq:Az Tryz.prog 77 1 1 75 1:=⟨⟨_,_,rfl,rfl,rfl,rfl⟩,rfl,UL⟩
theorem D2:C3 Tryz.prog 81:=⟨⟨_,rfl,rfl⟩,rfl⟩
theorem Hj:SlT Tryz.prog 81 85 6 48 (Tryz.t85.zero.getD undef):=⟨rfl,⟨_,rfl,rfl,rfl,rfl⟩,rfl⟩
theorem C6:Az Tryz.prog 83 0 0 30 1:=⟨⟨_,_,rfl,rfl,rfl,rfl⟩,rfl,UL⟩
theorem Bs:Az Tryz.prog 83 1 1 81 1:=⟨⟨_,_,rfl,rfl,rfl,rfl⟩,rfl,UL⟩
theorem U1:E9 Tryz.prog 85 6:=⟨⟨_,rfl,rfl⟩,rfl⟩
theorem SG:Az Tryz.prog 85 0 0 3 1:=⟨⟨_,_,rfl,rfl,rfl,rfl⟩,rfl,UL⟩
theorem Iz:Az Tryz.prog 85 1 1 3 1:=⟨⟨_,_,rfl,rfl,rfl,rfl⟩,rfl,UL⟩
theorem Dp:Az Tryz.prog 85 2 2 3 1:=⟨⟨_,_,rfl,rfl,rfl,rfl⟩,rfl,UL⟩
theorem Lr:Az Tryz.prog 85 3 3 5 1:=⟨⟨_,_,rfl,rfl,rfl,rfl⟩,rfl,UL⟩
theorem CO:Az Tryz.prog 85 4 4 3 1:=⟨⟨_,_,rfl,rfl,rfl,rfl⟩,rfl,UL⟩
theorem Dq:Az Tryz.prog 85 5 5 3 1:=⟨⟨_,_,rfl,rfl,rfl,rfl⟩,rfl,UL⟩
theorem DQ:KN Tryz.prog 92 256 4 1:=⟨rfl,rfl⟩
theorem Kf:E9 Tryz.prog 92 256:=⟨⟨_,rfl,rfl⟩,rfl⟩
theorem Gn:E9 Tryz.prog 94 261:=⟨⟨_,rfl,rfl⟩,rfl⟩
theorem Bt:Az Tryz.prog 94 0 0 3 1:=⟨⟨_,_,rfl,rfl,rfl,rfl⟩,rfl,UL⟩
theorem Ls:Az Tryz.prog 94 1 1 92 256:=⟨⟨_,_,rfl,rfl,rfl,rfl⟩,rfl,UL⟩
theorem BJ:Az Tryz.prog 94 2 257 3 1:=⟨⟨_,_,rfl,rfl,rfl,rfl⟩,rfl,UL⟩
theorem Dr:Az Tryz.prog 94 3 258 3 1:=⟨⟨_,_,rfl,rfl,rfl,rfl⟩,rfl,UL⟩
theorem PY:Az Tryz.prog 94 4 259 3 1:=⟨⟨_,_,rfl,rfl,rfl,rfl⟩,rfl,UL⟩
theorem Gv:Az Tryz.prog 94 5 260 3 1:=⟨⟨_,_,rfl,rfl,rfl,rfl⟩,rfl,UL⟩
theorem Dm:KN Tryz.prog 102 4 56 1:=⟨rfl,rfl⟩
theorem B0:E9 Tryz.prog 102 4:=⟨⟨_,rfl,rfl⟩,rfl⟩
theorem ID:E9 Tryz.prog 104 7:=⟨⟨_,rfl,rfl⟩,rfl⟩
theorem Fi:Az Tryz.prog 104 0 0 3 1:=⟨⟨_,_,rfl,rfl,rfl,rfl⟩,rfl,UL⟩
theorem Fj:Az Tryz.prog 104 1 1 3 1:=⟨⟨_,_,rfl,rfl,rfl,rfl⟩,rfl,UL⟩
theorem HX:Az Tryz.prog 104 2 2 4 1:=⟨⟨_,_,rfl,rfl,rfl,rfl⟩,rfl,UL⟩
theorem Jh:Az Tryz.prog 104 3 3 102 4:=⟨⟨_,_,rfl,rfl,rfl,rfl⟩,rfl,UL⟩
theorem LS:E9 Tryz.prog 106 259:=⟨⟨_,rfl,rfl⟩,rfl⟩
theorem GS:Az Tryz.prog 106 0 0 3 1:=⟨⟨_,_,rfl,rfl,rfl,rfl⟩,rfl,UL⟩
theorem GT:Az Tryz.prog 106 1 1 3 1:=⟨⟨_,_,rfl,rfl,rfl,rfl⟩,rfl,UL⟩
theorem Ji:Az Tryz.prog 106 2 2 4 1:=⟨⟨_,_,rfl,rfl,rfl,rfl⟩,rfl,UL⟩
theorem Jj:Az Tryz.prog 106 3 3 92 256:=⟨⟨_,_,rfl,rfl,rfl,rfl⟩,rfl,UL⟩
theorem Bf:Az Tryz.prog 118 0 0 37 4:=⟨⟨_,_,rfl,rfl,rfl,rfl⟩,rfl,UL⟩
theorem NZ:Az Tryz.prog 118 1 4 39 1:=⟨⟨_,_,rfl,rfl,rfl,rfl⟩,rfl,UL⟩
theorem BE:Az Tryz.prog 118 2 5 25 1:=⟨⟨_,_,rfl,rfl,rfl,rfl⟩,rfl,UL⟩
theorem Si:E9 Tryz.prog 130 4:=⟨⟨_,rfl,rfl⟩,rfl⟩
theorem Lf:Az Tryz.prog 130 0 0 102 4:=⟨⟨_,_,rfl,rfl,rfl,rfl⟩,rfl,UL⟩
theorem Jk:Az Tryz.prog 132 0 0 24 1:=⟨⟨_,_,rfl,rfl,rfl,rfl⟩,rfl,UL⟩
theorem HY:Az Tryz.prog 132 1 1 24 1:=⟨⟨_,_,rfl,rfl,rfl,rfl⟩,rfl,UL⟩
theorem TL:C3 Tryz.prog 135:=⟨⟨_,rfl,rfl⟩,rfl⟩
theorem CA:KN Tryz.prog 136 2 3 1:=⟨rfl,rfl⟩
theorem TM:C3 Tryz.prog 149:=⟨⟨_,rfl,rfl⟩,rfl⟩
theorem Jl:Az Tryz.prog 163 0 0 24 1:=⟨⟨_,_,rfl,rfl,rfl,rfl⟩,rfl,UL⟩
theorem HZ:Az Tryz.prog 163 1 1 24 1:=⟨⟨_,_,rfl,rfl,rfl,rfl⟩,rfl,UL⟩
theorem Jm:Az Tryz.prog 165 0 0 24 1:=⟨⟨_,_,rfl,rfl,rfl,rfl⟩,rfl,UL⟩
theorem Oa:Az Tryz.prog 166 0 0 24 1:=⟨⟨_,_,rfl,rfl,rfl,rfl⟩,rfl,UL⟩
theorem Ob:Az Tryz.prog 166 1 1 24 1:=⟨⟨_,_,rfl,rfl,rfl,rfl⟩,rfl,UL⟩
theorem Oc:Az Tryz.prog 167 0 0 24 1:=⟨⟨_,_,rfl,rfl,rfl,rfl⟩,rfl,UL⟩
theorem Od:Az Tryz.prog 167 1 1 24 1:=⟨⟨_,_,rfl,rfl,rfl,rfl⟩,rfl,UL⟩
theorem Sj:E9 Tryz.prog 188 2:=⟨⟨_,rfl,rfl⟩,rfl⟩
theorem Oe:Az Tryz.prog 188 0 0 5 1:=⟨⟨_,_,rfl,rfl,rfl,rfl⟩,rfl,UL⟩
theorem Of:Az Tryz.prog 188 1 1 5 1:=⟨⟨_,_,rfl,rfl,rfl,rfl⟩,rfl,UL⟩
theorem Sn:KN Tryz.prog 189 3 188 2:=⟨rfl,rfl⟩
theorem Sk:E9 Tryz.prog 189 6:=⟨⟨_,rfl,rfl⟩,rfl⟩
theorem JX:SlT Tryz.prog 190 5 1 1 (.int .u8 0):=⟨rfl,⟨_,rfl,rfl,rfl,rfl⟩,rfl⟩
theorem Lg:Az Tryz.prog 206 0 0 9 1:=⟨⟨_,_,rfl,rfl,rfl,rfl⟩,rfl,UL⟩
theorem A3:Az Tryz.prog 206 1 1 3 1:=⟨⟨_,_,rfl,rfl,rfl,rfl⟩,rfl,UL⟩
def wd(s:BitVec 256)(i:Nat):Nat:=(s.toNat / 2 ^ (64*i)) % 2 ^ 64
def BT(s:BitVec 256):Value:=.agg #[.int .u64 (wd s 0),.int .u64 (wd s 1),.int .u64 (wd s 2),.int .u64 (wd s 3)]
def Ak(s:BitVec 256):List Value:=[.int .u64 (wd s 0),.int .u64 (wd s 1),.int .u64 (wd s 2),.int .u64 (wd s 3)]
theorem FE(s:BitVec 256)(i:Nat):wd s i<2 ^ 64:=VR _ (by decide)
theorem Gf(s:BitVec 256)(i:Nat):inK .u64 (wd s i:Int):=by
 have:=FE s i;refine⟨?_,?_⟩<;>simp only [IntKind.min,IntKind.max,IntKind.signed,IntKind.bits]<;>simp<;>omega
theorem D5(s:BitVec 256)(i j:Nat)(hj:j<64):(wd s i).testBit j=s.getLsbD (64*i+j):=by
 unfold wd;rw [Nat.testBit_mod_two_pow,Nat.testBit_div_two_pow,BitVec.testBit_toNat];simp [hj];congr 1;omega
theorem QV{s t:BitVec 256}(h:∀i,i<4→wd s i=wd t i):s=t:=by
 apply VG;intro k hk;have h1:=D5 s (k / 64) (k % 64) (VR _ (by decide));have h2:=D5 t (k / 64) (k % 64) (VR _ (by decide));rw [show 64*(k / 64)+k % 64=k by omega]at h1 h2;rw [←h1,←h2,h _ (by omega)]
theorem Um{s t:BitVec 256}(h:BT s=BT t):s=t:=by
 unfold BT at h;simp only [Value.agg.injEq,Array.mk.injEq,List.cons.injEq,Value.int.injEq,true_and,and_true,We]at h;apply QV;intro i hi
 match i,hi with
 | 0,_=>exact h.1
 | 1,_=>exact h.2.1
 | 2,_=>exact h.2.2.1
 | 3,_=>exact h.2.2.2
theorem Ol(s:BitVec 256)(b:Nat)(hb:b<256)(H:Aa):Bv Tryz.prog 66 #[BT s,.int .u8 b] H (.bool (s.getLsbD b)):=by
 refine Ao.of_vc Tryz.func66 rfl (Tryz.call66 _) ?_;(conv=>whnf);refine BM (Ak s) rfl ?_;intro p H1 hp hs1 hb1 ha1;refine Hl (b:=6) (by decide) (ixa Dm (by omega) (by omega) (ld1 ES (v:=.int .u64 (wd s (b / 64))) ?_ trivial ?_))
 ·rw [hb1.cell];have:b / 2 ^ 6<4:=by omega
  rw [show b / 64=b / 2 ^ 6 by omega];generalize b / 2 ^ 6=q at this
  match q,this with
  | 0,_=>rfl
  | 1,_=>rfl
  | 2,_=>rfl
  | 3,_=>rfl
 refine It (b:=63) ⟨by simp [IntKind.min,IntKind.signed],by simp [IntKind.max,IntKind.signed,IntKind.bits];omega⟩ ⟨by decide,by decide⟩ ?_;refine Hl (VX Nat.and_le_right (by decide)) (It (b:=1) (Nl (Gf s _) (Wf _ _)) ⟨by decide,by decide⟩ ?_);(conv=>whnf);refine⟨?_,by rw [←hp];exact ha1⟩
 congr 1
 have e1:b &&& 63=b % 64:=by rw [show(63:Nat)=2 ^ 6 - 1 by decide,V1]
 have h1:=D5 s (b / 64) (b % 64) (VR _ (by decide));rw [show 64*(b / 64)+b % 64=b by omega]at h1;rw [e1,←h1,Nat.testBit_eq_decide_div_mod_eq,Nat.and_one_is_mod];have:=Nat.mod_two_eq_zero_or_one (wd s (b / 64) / 2 ^ (b % 64));rcases this with h | h<;>simp [h]
theorem UK(a b:BitVec 256)(i:Nat):wd (a &&& b) i=wd a i &&& wd b i:=by
 apply V2;intro j;rw [Nat.testBit_and];by_cases hj:j<64
 ·rw [D5 _ _ _ hj,D5 _ _ _ hj,D5 _ _ _ hj,BitVec.getLsbD_and]
 ·rw [UP (UR (FE _ _) (UY (by decide) (by omega))),
   UP (x:=wd a i) (UR (FE _ _) (UY (by decide) (by omega)))];rfl
theorem O8(a b:BitVec 256)(i:Nat):wd (a ||| b) i=wd a i ||| wd b i:=by
 apply V2;intro j;rw [VN];by_cases hj:j<64
 ·rw [D5 _ _ _ hj,D5 _ _ _ hj,D5 _ _ _ hj,V8]
 ·rw [UP (UR (FE _ _) (UY (by decide) (by omega))),
   UP (x:=wd a i) (UR (FE _ _) (UY (by decide) (by omega))),
   UP (x:=wd b i) (UR (FE _ _) (UY (by decide) (by omega)))];rfl
theorem GY(a b:BitVec 256)(H:Aa):Bv Tryz.prog 141 #[BT a,BT b] H (BT (a ||| b)):=by
 refine Ao.of_vc Tryz.func141 rfl (Tryz.call141 _) (BM (Ak a) rfl ?_);intro p H1 hp hs1 hb1 ha1;refine BM (Ak b) rfl ?_;intro q H2 hq hs2 hb2 ha2;refine Ag (BT 0) (Ak 0) rfl rfl ?_;intro r H3 hr hs3 hb3 ha3;replace hb1:=(hb1.agr ha2 (show p<q by omega)).agr ha3 (show p<r by omega);replace hb2:=hb2.agr ha3 (show q<r by omega);refine ixa Dm (by decide) (by decide) (ld1 ES ((hb1.cell _).trans rfl) trivial (ixa Dm (by decide) (by decide) (ld1 ES ((hb2.cell _).trans rfl) trivial (vor (Gf a _) (Gf b _) (ixa Dm (by decide) (by decide) (ld1 ES ((hb1.cell _).trans rfl) trivial (ixa Dm (by decide) (by decide) (ld1 ES ((hb2.cell _).trans rfl) trivial (vor (Gf a _) (Gf b _) (ixa Dm (by decide) (by decide) (ld1 ES ((hb1.cell _).trans rfl) trivial (ixa Dm (by decide) (by decide) (ld1 ES ((hb2.cell _).trans rfl) trivial (vor (Gf a _) (Gf b _) (ixa Dm (by decide) (by decide) (ld1 ES ((hb1.cell _).trans rfl) trivial (ixa Dm (by decide) (by decide) (ld1 ES ((hb2.cell _).trans rfl) trivial (vor (Gf a _) (Gf b _) (CR Dm (BT 0) rfl [Value.int .u64 ((wd a 0 ||| wd b 0:Nat):Int),Value.int .u64 ((wd a 1 ||| wd b 1:Nat):Int),Value.int .u64 ((wd a 2 ||| wd b 2:Nat):Int),Value.int .u64 ((wd a 3 ||| wd b 3:Nat):Int)] rfl (stN rfl hb3 (show 0+4≤4 by decide) rfl ?_)))))))))))))))))))));intro H4 hb4 ha4 hs4;refine ldN (cs:=[Value.int .u64 ((wd a 0 ||| wd b 0:Nat):Int),Value.int .u64 ((wd a 1 ||| wd b 1:Nat):Int),Value.int .u64 ((wd a 2 ||| wd b 2:Nat):Int),Value.int .u64 ((wd a 3 ||| wd b 3:Nat):Int)]) B0 (hb4.cells (fun j v hv=>by simpa [Ac,Ak]using hv)) trivial (⟨?_,?_⟩)
 ·unfold BT;rw [O8,O8,O8,O8]
 ·intro k hk;rw [ha4 k (by omega),ha3 k (by omega),ha2 k (by omega),ha1 k (by omega)]
theorem Sm(b:Nat):b &&& 63=b % 64:=by rw [show(63:Nat)=2 ^ 6 - 1 by decide,V1]
theorem JW(s:BitVec 256)(b:Nat)(hb:b<256):(Ak s)[b / 2 ^ 6]? =some (.int .u64 (wd s (b / 64))):=by
 have:b / 2 ^ 6<4:=by omega
 rw [show b / 64=b / 2 ^ 6 by omega];generalize b / 2 ^ 6=q at this
 match q,this with
 | 0,_=>rfl
 | 1,_=>rfl
 | 2,_=>rfl
 | 3,_=>rfl
theorem LI(s:BitVec 256)(b i:Nat)(hb:b<256):wd (s ||| VT 256 b) i=if i=b / 64 then wd s i ||| 2 ^ (b % 64)else wd s i:=by
 apply V2;intro j;by_cases hj:j<64
 ·rw [D5 _ _ _ hj,V8,VO];by_cases hi:i=b / 64
  ·rw [if_pos hi,VN,D5 _ _ _ hj,VU]
   congr 1
   by_cases h:b % 64=j
   ·have:b=64*i+j:=by omega
    simp [h,←this,hb]
   ·have:¬b=64*i+j:=by omega
    simp [h,this]
  ·rw [if_neg hi,D5 _ _ _ hj];have:¬b=64*i+j:=by omega
   simp [this]
 ·have hbig:2 ^ 64≤2 ^ j:=UY (by decide) (by omega);rw [UP (UR (FE _ _) hbig)];split
  ·rw [VN,UP (UR (FE _ _) hbig),VU];simp;omega
  ·rw [UP (UR (FE _ _) hbig)]
theorem M6(s:BitVec 256)(b:Nat)(hb:b<256):(Ak s).set (b / 64) (.int .u64 ((wd s (b / 64) ||| 2 ^ (b % 64):Nat):Int))=Ak (s ||| VT 256 b):=by
 have h:b / 64<4:=by omega
 unfold Ak;rw [LI s b 0 hb,LI s b 1 hb,LI s b 2 hb,LI s b 3 hb];generalize b / 64=q at h
 match q,h with
 | 0,_=>rfl
 | 1,_=>rfl
 | 2,_=>rfl
 | 3,_=>rfl
theorem Tm(lo hi:Nat)(hlo:lo<256)(hhi:hi<256)(H:Aa):Ao Tryz.prog 137 #[.int .u8 lo,.int .u8 hi] H fun v H'=>
  (∃s,v=BT s∧∀b,b<256→s.getLsbD b=(decide (lo≤b)&&decide (b≤hi)))∧Agr (Old H) H H':=by
 refine Ao.of_vc Tryz.func137 rfl (Tryz.call137 _) (Ag (BT 0) (Ak 0) rfl rfl ?_);intro r H1 hr hs1 hb1 ha1;refine Ag (BT 0) (Ak 0) rfl rfl ?_;intro p H2 hp hs2 hb2 ha2;replace hb1:=hb1.agr ha2 (show r<p by omega);(conv=>whnf);rw [w64 (x:=(lo:Int)) (by omega) (by omega)];refine AH.mk [6] (fun b:Nat=>[.int .i64 b]) (fun b H3=>lo≤b∧(b≤hi+1∨b=lo)∧Agr (fun k=>k≠p) H2 H3∧H3.size=H2.size∧∃s:BitVec 256,Blk H3 p 102 (Ak s)∧∀c,c<256→s.getLsbD c=(decide (lo≤c)&&decide (c<b))) (fun b _=>256 - b) ?_ ?_
 ·(conv=>whnf);exact⟨lo,rfl,by omega,by omega,Agr.refl _ _,rfl,0,hb2,fun c hc=>by simp⟩
 ·rintro b H3 junk ⟨h1,h2,ha3,hs3,s,hb3,hs⟩;(conv=>whnf);rw [w64 (x:=(hi:Int)) (by omega) (by omega)];refine AQ.mk (fun h=>?_) (fun h=>?_)<;>simp only [decide_eq_true_eq,decide_eq_false_iff_not]at h
  ·(conv=>whnf);refine As.tail 9 (sq [0,1,2,3,4,5,6,7,8] (.f 9 .e)) rfl (by kernel_rfl) (Hl (b:=6) (by decide) (ixa Dm (by omega) (by omega) ?_));refine ld1 ES (v:=.int .u64 (wd s (b / 64))) (by rw [hb3.cell,VD,VZ];exact JW s b (by omega)) trivial ?_;refine It (b:=63) (BB (by omega)) (BB (by decide)) ?_;have hpow:2 ^ (b % 64)<2 ^ 64:=Nat.pow_lt_pow_right (by decide) (by omega);rw [Sm];have hin:inK .u64 ((1*2 ^ (b % 64):Nat):Int):=Fk (by omega);refine Tv (a:=1) (by simp [IntKind.bits];omega) hin ?_;refine vor (Gf s _) hin (ixa Dm (by omega) (by omega) ?_);refine st1 ES hb3 (by simp [Ak];omega) rfl ?_;intro H4 hb4 ha4 hs4;(conv=>whnf);rw [w64 (x:=(b:Int)+1) (by omega) (by omega)];refine⟨rfl,b+1,by simp,⟨by omega,by omega,ha3.trans ha4,by omega,s ||| VT 256 b,?_,fun c hc=>?_⟩,by omega⟩
   ·rw [VD,VZ,Nat.one_mul]at hb4;rw [←M6 s b (by omega)];exact hb4
   ·rw [V8,hs c hc,VO];by_cases hbc:b=c
    ·subst hbc;simp [hc,h1]
    ·have:(decide (c<b+1))=decide (c<b):=by simp;omega
     simp [hbc,this]
  ·(conv=>whnf);refine ldN (cs:=Ak s) B0 (hb3.cells (fun j v hv=>by simpa using hv)) trivial (stN rfl (hb1.agr ha3 (show r≠p by omega)) (show 0+4≤4 by decide) rfl ?_);intro H4 hb4 ha4 hs4;refine ldN (cs:=Ak s) B0 (hb4.cells (fun j v hv=>by simpa [Ac,Ak]using hv)) trivial (⟨⟨s,rfl,fun c hc=>?_⟩,fun k hk=>?_⟩)
   ·rw [hs c hc];rcases h2 with h2 | h2
    ·have:(decide (c<b))=decide (c≤hi):=by simp;omega
     rw [this]
    ·subst h2;by_cases hcl:b≤c
     ·simp [show¬c<b by omega,show¬c≤hi by omega]
     ·simp [hcl]
   ·unfold Old at hk;rw [ha4 k (by omega),ha3 k (by omega),ha2 k (by omega),ha1 k (by omega)]
def UJ:Ty (BitVec 256) where
 size:=4
 rep _ _ cs s:=cs=Ak s
 len h:=by rw [h];rfl
 frame h _:=h
 mono h _:=h
def Ga(s:BitVec 256):List Lit:=[.int .u64 (wd s 0),.int .u64 (wd s 1),.int .u64 (wd s 2),.int .u64 (wd s 3)]
theorem M7(a b:BitVec 256):decide (a=b)=true↔Ga a=Ga b:=by
 rw [decide_eq_true_eq];constructor
 ·rintro rfl;rfl
 ·intro h;unfold Ga at h;simp only [List.cons.injEq,Lit.int.injEq,true_and,and_true,We]at h;apply QV;intro i hi
  match i,hi with
  | 0,_=>exact h.1
  | 1,_=>exact h.2.1
  | 2,_=>exact h.2.2.1
  | 3,_=>exact h.2.2.2
theorem Th(s:BitVec 256)(i:Nat):(Lit.int .u64 (wd s i)).wf=true:=by
 have:=Gf s i;unfold Lit.wf;simp only [UZ,decide_eq_true_eq];exact this
def AK(lo hi:Nat):BitVec 256:=BitVec.ofNat 256 ((2 ^ (hi+1 - lo) - 1) <<< lo)
theorem Di(lo hi b:Nat)(hb:b<256):(AK lo hi).getLsbD b=(decide (lo≤b)&&decide (b≤hi)):=by
 unfold AK;rw [BitVec.getLsbD_ofNat,Nat.testBit_shiftLeft,Nat.testBit_two_pow_sub_one];by_cases h:lo≤b
 ·simp only [hb,decide_true,Wj,h,ge_iff_le]
  congr 1
  rw [eq_iff_iff];omega
 ·simp [h]
theorem HN(lo hi:Nat)(hlo:lo<256)(hhi:hi<256)(H:Aa):Bv Tryz.prog 137 #[.int .u8 lo,.int .u8 hi] H (BT (AK lo hi)):=by
 refine(Tm lo hi hlo hhi H).mono ?_;rintro v H' ⟨⟨s,rfl,hs⟩,ha⟩;refine⟨?_,ha⟩
 congr 1
 apply VG;intro b hb;rw [hs b hb,Di lo hi b hb]
inductive ReM
 | eps
 | cls (s:BitVec 256)
 | cat (a b:ReM)
 | alt (a b:ReM)
 | star (a:ReM)
 | and_ (a b:ReM)
 | minus (a b:ReM)
def Ad:ReM→Value
 | .eps=>.iface 127 (.agg #[])
 | .cls s=>.iface 130 (BT s)
 | .cat a b=>.iface 132 (.agg #[Ad a,Ad b])
 | .alt a b=>.iface 163 (.agg #[Ad a,Ad b])
 | .star a=>.iface 165 (.agg #[Ad a])
 | .and_ a b=>.iface 166 (.agg #[Ad a,Ad b])
 | .minus a b=>.iface 167 (.agg #[Ad a,Ad b])
theorem F4(r:ReM):∃T v,Ad r= .iface T v:=by cases r<;>exact⟨_,_,rfl⟩
theorem Cn(r:ReM):(Ad r).oneCell'=true:=by cases r<;>rfl
def ReM.nodes:ReM→Nat
 | .eps=>1
 | .cls _=>1
 | .cat a b=>1+a.nodes+b.nodes
 | .alt a b=>1+a.nodes+b.nodes
 | .star a=>1+a.nodes
 | .and_ a b=>1+a.nodes+b.nodes
 | .minus a b=>1+a.nodes+b.nodes
def ReM.plain:ReM→Bool
 | .eps=>true
 | .cls _=>true
 | .cat a b=>a.plain&&b.plain
 | .alt a b=>a.plain&&b.plain
 | .star a=>a.plain
 | .and_ _ _=>false
 | .minus _ _=>false
end Go.Proofs.YtlnmhfhdjnenoaaGreatDoor
namespace Go.VC
def SlO{α:Type}(T:Ty α)(S:Nat→Prop)(H:Aa)(lo:Nat)(e:TypeId)(v:Value)(xs:List α):Prop:=
 ∃cs,Sl H lo e T.size v xs.length cs∧T.reps S H cs xs
section
variable{α:Type}{T:Ty α}{S S':Nat→Prop}{H H':Aa}{lo:Nat}{e:TypeId}{v:Value}{xs:List α}
theorem SlO.nil:SlO T S H lo e (.slice none 0 0) []:=⟨[],Sl.nil _ _ _ _,rfl⟩
theorem SlO.agr(h:SlO T S H lo e v xs)(k:Agr S' H H')(hb:∀b,slB v b→S' b)(hs:∀b,S b→S' b):SlO T S H' lo e v xs:=by
 obtain⟨cs,h1,h2⟩:=h;exact⟨cs,h1.agr k hb,Ty.reps_frame (k.mono hs) h2⟩
theorem SlO.mono(h:SlO T S H lo e v xs)(hs:∀b,S b→S' b):SlO T S' H lo e v xs:=by
 obtain⟨cs,h1,h2⟩:=h;exact⟨cs,h1,Ty.reps_mono hs h2⟩
theorem SlO.lt(h:SlO T S H lo e v xs){b:Nat}(hb:slB v b):lo≤b∧b<H.size:=by
 obtain⟨cs,h1,_⟩:=h;exact h1.lt hb
theorem SlO.lower{lo':Nat}(h:SlO T S H lo e v xs)(hl:lo'≤lo):SlO T S H lo' e v xs:=by
 obtain⟨cs,⟨h0,h1⟩,h2⟩:=h;refine⟨cs,⟨h0,?_⟩,h2⟩;rcases h1 with h1 | ⟨b,cap,l,h3,h4,r⟩
 ·exact .inl h1
 ·exact .inr ⟨b,cap,l,h3,by omega,r⟩
theorem SlO.len(h:SlO T S H lo e v xs):xs.length≤maxLen:=by
 obtain⟨cs,⟨h0,h1⟩,h2⟩:=h;rcases h1 with⟨_,h1⟩ | ⟨b,cap,l,h3,h4,h5,h6,h7,r⟩
 ·omega
 ·omega
theorem SlO.view(h:SlO T S H lo e v xs)(hb:∀b,slB v b→S' b)(hs:∀b,S b→S' b):∃a cap,v= .slice a xs.length cap∧SlD T S' H a cap xs∧(∀b,slB v b↔a.map (·.block)=some b):=by
 obtain⟨cs,⟨h0,h1⟩,h2⟩:=h;rcases h1 with⟨rfl,h1⟩ | ⟨b,cap,l,rfl,h4,h5,h6,h7,h8,h9⟩
 ·refine⟨none,0,by rw [h1],⟨Vj h1,rfl⟩,fun b=>⟨?_,fun h=>by cases h⟩⟩;rintro⟨o,n,c,h⟩;cases h
 ·refine⟨some ⟨b,0,none⟩,cap,rfl,SlD.intro (hb b ⟨_,_,_,rfl⟩) h6 h7 (ec:=cs) ?_ (Ty.reps_mono hs h2),fun b'=>⟨?_,fun h=>?_⟩⟩
  ·refine h5.cells fun j u hu=>?_;rw [←h9,Vi]at hu;split at hu
   ·simpa using hu
   ·cases hu
  ·rintro⟨o,n,c,h⟩;cases h;rfl
  ·cases h;exact⟨0,_,_,rfl⟩
theorem Q6{cs c:List Value}{i:Nat}{x:α}(h:T.reps S H cs xs)(hc:T.rep S H c x)(hi:i<xs.length):T.reps S H (Ac cs (i*T.size) c) (xs.set i x):=by
 induction xs generalizing cs i with
 | nil=>simp at hi
 | cons y ys ih=>
   obtain⟨d,r,rfl,h1,h2⟩:=h;have hl:=T.len h1;have hlc:=T.len hc;cases i with
   | zero=>
     refine⟨c,r,?_,hc,h2⟩;unfold Ac;simp only [Nat.zero_mul,List.take_zero,List.nil_append,VD];rw [hlc,←hl,List.drop_left]
   | succ i=>
     simp only [Va]at hi;refine⟨d,Ac r (i*T.size) c,?_,h1,ih h2 (by omega)⟩;have e1:(i+1)*T.size=d.length+i*T.size:=by rw [hl,Vs];omega
     unfold Ac;rw [e1,V4,show d.length+i*T.size+c.length=d.length+(i*T.size+c.length) by omega,V5];simp [Vf]
theorem SlO.place{i:Nat}(h:SlO T S H lo e v xs)(hi:i<xs.length):∃b cap l cs,v= .slice (some ⟨b,0,none⟩) xs.length cap∧lo≤b∧Blk H b e l∧i*T.size+T.size≤l.length∧
  (∀x,xs[i]? =some x→∃c,Bo H b (i*T.size) c∧T.rep S H c x)∧T.reps S H cs xs∧
  ∀(H':Aa) (c:List Value) (x:α),Blk H' b e (Ac l (i*T.size) c)→Agr S H H'→T.rep S H' c x→SlO T S H' lo e v (xs.set i x):=by
 obtain⟨cs,⟨h0,h1⟩,h2⟩:=h;rcases h1 with⟨rfl,h1⟩ | ⟨b,cap,l,rfl,h4,h5,h6,h7,h8,h9⟩
 ·omega
 ·have hle:i*T.size+T.size≤xs.length*T.size:=by rw [←Vs];exact UX _ hi
  have hle2:xs.length*T.size≤l.length:=by rw [h8];exact UX _ h6
  refine⟨b,cap,l,cs,rfl,h4,h5,by omega,?_,h2,?_⟩
  ·intro x hx;obtain⟨l',c,r,rfl,hl',hc⟩:=Ty.reps_get h2 hx;refine⟨c,?_,hc⟩;rw [←hl'];have hcs:Bo H b 0 (l'++c++r):=h5.cells fun j u hu=>by
    rw [←h9,Vi]at hu;split at hu
    ·simpa using hu
    ·cases hu
   have:=hcs.mid;simpa using this
  intro H' c x hb' hagr hc;have hlc:=T.len hc;refine⟨Ac cs (i*T.size) c,⟨?_,.inr ⟨b,cap,_,by rw [Vc],h4,hb',by rw [Vc];exact h6,h7,?_,?_⟩⟩,Q6 (Ty.reps_frame hagr h2) hc hi⟩
  ·rw [Ei (by rw [hlc,h0];exact hle),h0,Vc]
  ·rw [Ei (by rw [hlc];omega),h8]
  ·rw [Vc];apply Ve;intro j;rw [Vi];by_cases hj:j<xs.length*T.size
   ·rw [if_pos hj,Db (by rw [hlc];omega),Db (by rw [hlc,h0];exact hle)];split
    ·rfl
    ·rw [←h9,Vi,if_pos hj]
   ·rw [if_neg hj,Vk];rw [Ei (by rw [hlc,h0];exact hle),h0];omega
end
theorem Iu{α:Type}{T:Ty α}{P:Program}{t ty e by_:Nat}{z:Value}{S:Nat→Prop}{H:Aa}{K:Value→Aa→Prop}(ht:SlT P t e T.size by_ z){lo q o m cap:Nat}{v:Value}{xs ys:List α}{ds:List Value}
  (hs:SlO T S H lo e v xs) (hlo:lo≤H.size) (hS:∀k,S k→k<H.size∧¬slB v k) (hd:Bo H q o ds) (hy:T.reps S H ds ys) (hm:m=ys.length) (h1:∀u∈ds,u.oneCell'=true)
  (h63:xs.length+ys.length≤maxLen) (hby:(xs.length+ys.length)*by_≤140737488355328)
  (h:∀v' H',SlO T S H' lo e v' (xs++ys)→Agr (fun k=>k<H.size∧¬slB v k) H H'→H.size≤H'.size→(∀k,slB v' k→slB v k∨H.size≤k)→K v' H'):
  BQ P (Builtin.append_ #[t,t] ty [v,.slice (some ⟨q,o,none⟩) m cap].toArray) H K:=by
 obtain⟨cs,hsl,hr⟩:=hs;subst hm;refine RU (m:=ys.length) (news:=ds) ht hsl hlo (fun w hw=>?_) h63 hby ?_
 ·refine Src.ofSlice w ht.under ⟨q,o,none⟩ ys.length cap ds (Ty.reps_len hy) (fun j u hu=>?_) h1;rw [Addr.add_mid];subst hw;have:=hd j u hu;rw [Fu];exact this
 ·intro v' H' hsl' hagr hsz hbb;refine h v' H' ⟨_,by rw [UW];exact hsl',Ty.reps_append (Ty.reps_frame (hagr.mono hS) hr) (Ty.reps_frame (hagr.mono hS) hy)⟩ hagr hsz hbb
theorem Ia:∀(vs:List Value) (k:Nat) (cells:Array Value) (off:Nat),off+k+vs.length≤cells.size→
  (vs.zipIdx k).foldl (fun cs (x:Value×Nat)=>cs.setIfInBounds (off+x.2) x.1) cells=(Ac cells.toList (off+k) vs).toArray
 | [],k,cells,off,_=>by apply Vn;simp [Ac]
 | v::vs,k,cells,off,h=>by
   simp only [Va]at h;rw [List.zipIdx_cons,List.foldl_cons,Ia vs (k+1) _ off (by simp;omega)];apply congrArg;apply Ve;intro j;rw [Db (by simp;omega),Db (by simp;omega)];simp only [Array.toList_setIfInBounds,Va];by_cases h1:off+(k+1)≤j∧j<off+(k+1)+vs.length
   ·rw [if_pos h1,if_pos (by omega),show j - (off+k)=(j - (off+(k+1)))+1 by omega,VF]
   ·rw [if_neg h1];by_cases h2:j=off+k
    ·subst h2;rw [if_pos (by omega),Nat.sub_self,List.getElem?_cons_zero,Vw (by simp;omega)]
    ·rw [if_neg (by omega),Vu,if_neg (fun h3=>h2 h3.symm)]
theorem Bb{place:Nat→Option (Nat×Nat)}{cells:Array Value}{i:Nat}{v:Value}{rest:List (Nat×Value)}{off size:Nat}(hp:place i=some (off,size))(h1:v.cells.size=size)(h2:off+size≤cells.size):
  Instr.fill place cells ((i,v)::rest)=Instr.fill place (Ac cells.toList off v.cells.toList).toArray rest:=by
 have h3:¬(v.cells.size≠size∨off+v.cells.size>cells.size):=by omega
 have h4:=Ia v.cells.toList 0 cells off (by simp;omega);simp only [Nat.add_zero]at h4;rw [Instr.fill,hp];simp only [VH,decide_eq_true_eq,h3,if_false]
 congr 1
 rw [←h4,←Array.foldl_toList,Array.toList_zipIdx]
theorem AM{P:Program}{t e:TypeId}{sz by_:Nat}{z v:Value}{H:Aa}{K:Value→Aa→Prop}(ht:SlT P t e sz by_ z)(l:List Value)(hv:v.cells=l.toArray)(hl:l.length=sz)(h0:0<sz)(h1:sz≤16777216)
  (h:New H (fun b H'=>K (.slice (some ⟨b,0,none⟩) 1 1) H') e l):BQ P (Instr.buildSlice t 1 [(0,v)].toArray) H K:=by
 refine QP ht l (by omega) (by omega) ?_ h;rw [show([(0,v)].toArray).toList=(0,v)::[]from rfl,Bb (off:=0) (size:=sz) (by simp) (by rw [hv];simpa using hl) (by simp)];rw [Instr.fill,hv]
 congr 1
 apply Vn;simp only [Ac];simp [hl]
structure Tab{α:Type}(T:Ty α)(S:Nat→Prop)(H:Aa)(lo:Nat)(e:TypeId)(nb:Nat)(te:TypeId)(vs:List Value)(xs:List (List α)):Prop where
 len:vs.length=xs.length
 blk:Blk H nb te vs
 nlo:nb<lo
 own:∀(i:Nat) (v:Value) (x:List α),vs[i]? =some v→xs[i]? =some x→SlO T S H lo e v x
 apart:∀(i j:Nat) (v w:Value) (k:Nat),i≠j→vs[i]? =some v→vs[j]? =some w→slB v k→¬slB w k
section
variable{α:Type}{T:Ty α}{S S':Nat→Prop}{H H1 H2:Aa}{lo nb:Nat}{e te:TypeId}{vs:List Value}{xs:List (List α)}
end
theorem S3{P:Program}{t e sz by_:Nat}{z:Value}{a:Option Addr}{n cap:Nat}{k:IntKind}{h:Int}{S:Nat→Prop}{H:Aa}{K:Value→Prop}(ht:SlT P t e sz by_ z)(h0:0≤h)(h1:h≤cap)
  (hk:K (.slice a h.toNat cap)):AB P (Instr.sliceAt t (.slice a n cap) none (some (.int k h)) none) S H K:=by
 obtain⟨inf,hi,hs,_,_⟩:=ht.info;refine AB.mk _ (fun w _=>?_) hk;have e1:(a.map fun x=>x.add 0)=a:=by cases a<;>rfl
 simp [Instr.sliceAt,Instr.slice,run_underlying ht.under,Instr.sliceBounds,Instr.sliceBound,asIntOf,h0,h1,sizeOf,typeInfo,hi,e1]
theorem SlO.pop{α:Type}{T:Ty α}{S:Nat→Prop}{H:Aa}{lo n cap:Nat}{e:TypeId}{a:Option Addr}{xs:List α}{x:α}(h:SlO T S H lo e (.slice a n cap) (xs++[x])):SlO T S H lo e (.slice a xs.length cap) xs:=by
 obtain⟨cs,⟨h0,h1⟩,h2⟩:=h;have split:∀(xs:List α) (cs:List Value),T.reps S H cs (xs++[x])→T.reps S H (cs.take (xs.length*T.size)) xs:=by
  intro xs
  induction xs with
  | nil=>intro cs _;simp [Ty.reps]
  | cons y ys ih=>
    rintro cs ⟨c,r,rfl,hc,hr⟩;refine⟨c,r.take (ys.length*T.size),?_,hc,ih r hr⟩;have:=T.len hc;rw [Va,Vs,Nat.add_comm,←this,V4]
 rcases h1 with⟨h1,h3⟩ | ⟨b,cap',l,h1,h4,h5,h6,h7,h8,h9⟩
 ·simp at h3
 ·cases h1;simp only [UW,VP]at h6 h9 h0;refine⟨cs.take (xs.length*T.size),⟨?_,.inr ⟨b,cap,l,rfl,h4,h5,by omega,h7,h8,?_⟩⟩,split xs cs h2⟩
  ·rw [VB,h0,Vh (UX _ (by omega))]
  ·rw [←h9,List.take_take,Vh (UX _ (by omega))]
section
variable{P:Program}{t e:TypeId}{x y:Operand}{S:Nat→Prop}{H:Aa}{K:Value→Prop}{p:Option Addr}
theorem IL(h:P.underlying t=some .bool)(a b:Bool)(w:World):(Op.equal t (.bool a) (.bool b)).run P w= .ok (a==b) w:=by
 have:∀d:Nat,(Op.equalIn (d+1) t (.bool a) (.bool b)).run P w= .ok (a==b) w:=fun d=>by simp [Op.equalIn,run_underlying h]
 exact this 9999
theorem TI{a b:Bool}(h:P.underlying t=some .bool)(k:K (.bool (a==b))):AB P (do eqGuard .eql t x y (.bool a) (.bool b);binOp .eql t (.bool a) (.bool b)) S H K:=by
 refine AB.mk _ (fun w _=>?_) k;simp [eqGuard,binOp,IL h]
theorem J9{a b:Bool}(h:P.underlying t=some .bool)(k:K (.bool (!(a==b)))):AB P (do eqGuard .neq t x y (.bool a) (.bool b);binOp .neq t (.bool a) (.bool b)) S H K:=by
 refine AB.mk _ (fun w _=>?_) k;simp [eqGuard,binOp,IL h]
end
theorem CS{P:Program}{t:TypeId}{S:Nat→Prop}{H:Aa}{K:Value→Prop}{s:ByteArray}{k:IntKind}{i:Nat}{j:Int}{b:UInt8}(h:P.underlying t=some .string)(hj:j=(i:Int))(hb:s.data[i]? =some b)
  (hk:K (.int .u8 (b.toNat:Int))):AB P (Instr.index t (.string s) (.int k j)) S H K:=by
 subst hj;have hb':s[i]? =some b:=by
  obtain⟨h1,h2⟩:=Vd.1 hb;have h3:i<s.size:=h1;rw [getElem?_pos s i h3];exact congrArg some h2
 refine AB.mk _ (fun w _=>?_) hk;simp [Instr.index,asIntOf,run_underlying h,hb']
section
variable{P:Program}{t e:TypeId}{x y:Operand}{S:Nat→Prop}{H:Aa}
theorem SlO.ofBlk{α:Type}{T:Ty α}{lo b n:Nat}{l:List Value}{xs:List α}(hlo:lo≤b)(hb:Blk H b e l)(hr:T.reps S H l xs)(hn:n=xs.length)(hm:n≤maxLen):SlO T S H lo e (.slice (some ⟨b,0,none⟩) n n) xs:=by
 subst hn;have hl:=Ty.reps_len hr;refine⟨l,?_,hr⟩;have:=Sl.made (sz:=T.size) (n:=xs.length) (cap:=xs.length) hlo hb (Vv _) hm hl;rwa [←hl,List.take_length]at this
theorem GK{α:Type}{T:Ty α}{c:List Value}{v:α}(h:T.rep S H c v):∀n,T.reps S H (Vl n c).flatten (Vl n v)
 | 0=>rfl
 | n+1=>⟨c,_,rfl,h,GK h n⟩
theorem OR(z:Array Value)(n:Nat):(Wc (n*z.size)).map (z[· % z.size]!)=(Vl n z.toList).flatten:=by
 induction n with
 | zero=>simp
 | succ n ih=>
   rw [Vs,List.range_add,List.map_append,ih,List.replicate_succ',List.flatten_append]
   congr 1
   simp only [List.flatten_cons,List.flatten_nil,List.append_nil,List.map_map];apply Ve;intro i;by_cases hi:i<z.size
   ·rw [List.getElem?_map,List.getElem?_range hi];simp only [Option.map_some,Function.comp,Array.getElem?_toList];have:(n*z.size+i) % z.size=i:=by rw [Nat.mul_comm,Nat.mul_add_mod];exact US hi
    rw [this,getElem!_pos z i hi,getElem?_pos z i hi]
   ·rw [Vk (by simp;omega),Vk (by simp;omega)]
theorem Tu{α:Type}{T:Ty α}{by_:Nat}{z:Value}{kl kc:IntKind}{l c:Int}{v:α}{K:Value→Aa→Prop}(ht:SlT P t e T.size by_ z)(hv:T.rep S H z.cells.toList v)(h0:0≤l)(hlc:l=c)(hb:(by_:Int)*c≤281474976710656)(h63:c≤9223372036854775807)
  (h:New H (fun b H'=>K (.slice (some ⟨b,0,none⟩) c.toNat c.toNat) H') e (Vl c.toNat z.cells.toList).flatten):BQ P (Instr.makeSlice t (.int kl l) (.int kc c)) H K:=by
 subst hlc;refine Up ht h0 (Int.le_refl _) hb h63 ?_;rw [←ht.zsz,OR];exact h
theorem SlO.placeS{α:Type}{T:Ty α}{lo b o n cap i:Nat}{xs:List α}(h:SlO T S H lo e (.slice (some ⟨b,o,none⟩) n cap) xs)(hi:i<xs.length):n=xs.length∧o=0∧lo≤b∧∃l,Blk H b e l∧i*T.size+T.size≤l.length∧
  (∀x,xs[i]? =some x→∃c,Bo H b (i*T.size) c∧T.rep S H c x)∧
  ∀(H':Aa) (c:List Value) (x:α),Blk H' b e (Ac l (i*T.size) c)→Agr S H H'→T.rep S H' c x→SlO T S H' lo e (.slice (some ⟨b,o,none⟩) n cap) (xs.set i x):=by
 obtain⟨b',cap',l,cs,e1,h1,h2,h3,h4,h5,h6⟩:=h.place hi;have e2:=e1;injection e1 with e3 e4 e5
 injection e3 with e3
 injection e3 with e6 e7 e8
 subst e6;subst e7;subst e4;subst e5;exact⟨rfl,rfl,h1,l,h2,h3,h4,h6⟩
theorem Px{k:IntKind}{a b:Nat}{K:Value→Prop}(hb:0<b)(ha:inK k (a:Int))(hk:K (.int k ((a / b:Nat):Int))):AB P (do eqGuard .quo t x y (.int k a) (.int k b);binOp .quo t (.int k a) (.int k b)) S H K:=by
 refine AB.mk _ (fun w _=>?_) hk;have h0:¬((b:Int)=0):=by omega
 have e1:((a:Int).tdiv (b:Int))=((a / b:Nat):Int):=by rw [Int.tdiv_eq_ediv_of_nonneg (by omega)];rfl
 have hin:=DO (Nl ha (Wf a b));simp only [BS,binOp,Op.intDiv,Sem.run_bind,Result.andThen_ok,h0,if_false,e1,hin,Sem.run_pure,ne_eq,not_true_eq_false]
theorem RZ{k:IntKind}{a b:Nat}{K:Value→Prop}(hb:0<b)(hk:K (.int k ((a % b:Nat):Int))):AB P (do eqGuard .rem t x y (.int k a) (.int k b);binOp .rem t (.int k a) (.int k b)) S H K:=by
 refine AB.mk _ (fun w _=>?_) hk;have h0:¬((b:Int)=0):=by omega
 have e1:((a:Int).tmod (b:Int))=((a % b:Nat):Int):=by rw [Int.tmod_eq_emod_of_nonneg (by omega)];rfl
 simp only [BS,binOp,Op.intDiv,Sem.run_bind,Result.andThen_ok,h0,if_false,e1,Sem.run_pure,ne_eq,not_true_eq_false]
theorem As.cut{l:List Oper}{fr:Fr}{K:Fr→Aa→Prop}{α:Type}(ts:List Nat)(enc:α→List Value)(I:α→Aa→Prop)
  (h:As P l fr H (fun fr' H'=>Fl (KM l []) fr fr' (IX fr' ts fun vs=>∃y,vs=enc y∧I y H')))
  (k:∀(z:α) (H1:Aa) (junk:Nat→Value),I z H1→ET junk fr (KM l []) fun fr0=>LK fr0 ts (enc z) fun fr1=>K fr1 H1):As P l fr H K:=by
 generalize KM l []=ws at h k;have h:=h.out_;refine⟨?_⟩;intro id Q a w hat hw hp hq;refine h id Q a w hat hw hp fun fr' a' w' hat' henv h3=>hq fr' a' w' hat' henv ?_;simp only [Fl,BK,DM]at h3;obtain⟨hk,z,hz,hi⟩:=h3;have h:=k z w'.heap (rd fr') hi;rw [BK,Fs,Cd hk,←hz,Ey ts fr']at h;exact h
theorem Bl{a b:ByteArray}{K:Value→Prop}(h:a.size+b.size≤maxLen)(k:K (.string (a++b))):AB P (do eqGuard .add t x y (.string a) (.string b);binOp .add t (.string a) (.string b)) S H K:=by
 refine AB.mk _ (fun w _=>?_) k;have h1:((a.size+b.size:Nat):Int)≤9223372036854775807:=by
  unfold maxLen at h;omega
 have h2:IntKind.i64.max=9223372036854775807:=rfl;rw [Int.natCast_add]at h1;simp [EZ,binOp,Op.stringOp,h2,h1]
theorem MO{s:ByteArray}{k k':IntKind}{l h:Int}{K:Value→Prop}(ht:P.underlying t=some .string)(h0:0≤l)(h1:l≤h)(h2:h≤s.size)(hk:K (.string (s.extract l.toNat h.toNat))):
  AB P (Instr.sliceAt t (.string s) (some (.int k l)) (some (.int k' h)) none) S H K:=by
 refine AB.mk _ (fun w _=>?_) hk;have h3:0≤h:=by omega
 have h4:l≤max h 0:=by omega
 simp [Instr.sliceAt,Instr.slice,run_underlying ht,Instr.sliceBounds,Instr.sliceBound,asIntOf,h0,h1,h2,h3,h4]
end
theorem NB{l:List Value}{o:Nat}{v:Value}(h:o<l.length):Ac l o [v]=l.set o v:=by
 apply Ve;intro j;rw [Db (by simp;omega),Vu];simp only [VP];by_cases hj:o=j
 ·subst hj;simp [h]
 ·rw [if_neg (by omega),if_neg hj]
theorem O6{P:Program}{t e:TypeId}{sz by_:Nat}{z v1 v2:Value}{H:Aa}{K:Value→Aa→Prop}(ht:SlT P t e sz by_ z)(l1 l2:List Value)(hv1:v1.cells=l1.toArray)(hv2:v2.cells=l2.toArray)(hl1:l1.length=sz)(hl2:l2.length=sz)(h0:0<sz)(h1:2*sz≤16777216)
  (h:New H (fun b H'=>K (.slice (some ⟨b,0,none⟩) 2 2) H') e (l1++l2)):BQ P (Instr.buildSlice t 2 [(0,v1),(1,v2)].toArray) H K:=by
 refine QP ht (l1++l2) (by omega) (by omega) ?_ h;rw [show([(0,v1),(1,v2)].toArray).toList=(0,v1)::(1,v2)::[]from rfl,Bb (off:=0) (size:=sz) (by simp) (by rw [hv1];simpa using hl1) (by simp;omega),
  Bb (off:=sz) (size:=sz) (by simp) (by rw [hv2];simpa using hl2) (by simp [Ac,hv1];omega)]
 rw [Instr.fill,hv1,hv2]
 congr 1
 apply Vn;simp [Ac,hl1,hl2];omega
theorem JY{p r cs:List Value}{o:Nat}(hp:p.length=o):Ac (p++r) o cs=p++(cs++r.drop cs.length):=by
 subst hp;unfold Ac;rw [List.take_left,V5,Vf]
structure Pc where
 foot:Nat→Prop
 ok:Aa→Prop
 fr:∀{H H':Aa},Agr foot H H'→ok H→ok H'
def Dis(p q:Pc):Prop:=∀k,p.foot k→¬q.foot k
structure StB(B:Nat→Prop)(H0 H:Aa)(ps:List Pc):Prop where
 old:Agr B H0 H
 lt0:∀k,B k→k<H0.size
 size:H0.size≤H.size
 oks:∀p∈ps,p.ok H
 rng:∀p∈ps,∀k,p.foot k→¬B k∧k<H.size
 dis:ps.Pairwise Dis
abbrev St(H0 H:Aa)(ps:List Pc):Prop:=StB (Old H0) H0 H ps
section
variable{B:Nat→Prop}{H0 H H':Aa}{ps:List Pc}{p q:Pc}
theorem St.nil(H:Aa):St H H []:=⟨Agr.refl _ _,fun _ h=>h,Vv _,(fun _ h=>by cases h),(fun _ h=>by cases h),List.Pairwise.nil⟩
theorem StB.up(st:StB B H0 H ps){k:Nat}(hk:B k):k<H.size:=UR (st.lt0 k hk) st.size
theorem StB.call(st:StB B H0 H ps)(h:Agr (Old H) H H'):StB B H0 H' ps:=
 ⟨st.old.trans (h.mono fun k hk=>st.up hk),st.lt0,VX st.size (DI h),fun p hp=>p.fr (h.mono fun k hk=>(st.rng p hp k hk).2) (st.oks p hp),
  fun p hp k hk=>⟨(st.rng p hp k hk).1,A0 h (st.rng p hp k hk).2⟩,st.dis⟩
theorem StB.at_(st:StB B H0 H ps)(i:Nat)(hp:ps[i]? =some p):p.ok H:=st.oks p (UN hp)
theorem StB.in_(st:StB B H0 H ps)(i:Nat)(hp:ps[i]? =some p){k:Nat}(hk:p.foot k):¬B k∧k<H.size:=st.rng p (UN hp) k hk
theorem StB.add(st:StB B H0 H ps)(h:Agr (Old H) H H')(p:Pc)(hp:p.ok H')(hf:∀k,p.foot k→H.size≤k∧k<H'.size):StB B H0 H' (ps++[p]):=by
 have st':=st.call h;refine⟨st'.old,st.lt0,st'.size,fun q hq=>?_,fun q hq k hk=>?_,List.pairwise_append.2 ⟨st.dis,List.pairwise_singleton _ _,fun a ha b hb=>?_⟩⟩
 ·rcases Wg.1 hq with hq | hq
  ·exact st'.oks q hq
  ·rw [Vt]at hq;subst hq;exact hp
 ·rcases Wg.1 hq with hq | hq
  ·exact st'.rng q hq k hk
  ·rw [Vt]at hq;subst hq;exact⟨fun hB=>by have:=st.up hB;have:=hf k hk;omega,(hf k hk).2⟩
 ·rw [Vt]at hb;subst hb;intro k hk hk';have:=(st.rng a ha k hk).2;have:=(hf k hk').1;omega
theorem StB.upd(st:StB B H0 H ps)(i:Nat)(hp:ps[i]? =some p)(h:Agr (fun k=>k<H.size∧¬p.foot k) H H')(q:Pc)(hq:q.ok H')(hf:∀k,q.foot k→p.foot k∨H.size≤k)(hl:∀k,q.foot k→k<H'.size)(hs:H.size≤H'.size):StB B H0 H' (ps.set i q):=by
 have hi:=(UM.1 hp).1;have hpi:=UN hp;have key:∀(j:Nat) (r:Pc),ps[j]? =some r→j≠i→Dis r p:=by
  intro j r hr hj k hk hk';have hjl:=(UM.1 hr).1;have e1:=(UM.1 hr).2;have e2:=(UM.1 hp).2;rcases V6 hj with hji | hji
  ·exact UO.1 st.dis j i hjl hi hji k (by rw [e1];exact hk) (by rw [e2];exact hk')
  ·exact UO.1 st.dis i j hi hjl hji k (by rw [e2];exact hk') (by rw [e1];exact hk)
 have mem:∀r,r∈ps.set i q→r=q∨∃j,j≠i∧ps[j]? =some r:=by
  intro r hr;obtain⟨j,hj⟩:=V3 hr;by_cases hji:i=j
  ·subst hji;rw [Vw hi]at hj;cases hj;exact .inl rfl
  ·rw [VS hji]at hj;exact .inr ⟨j,Ne.symm hji,hj⟩
 refine⟨st.old.trans (h.mono fun k hk=>⟨st.up hk,fun hb=>(st.rng p hpi k hb).1 hk⟩),st.lt0,VX st.size hs,fun r hr=>?_,fun r hr k hk=>?_,?_⟩
 ·rcases mem r hr with rfl | ⟨j,hj,hr⟩
  ·exact hq
  ·exact r.fr (h.mono fun k hk=>⟨(st.rng r (UN hr) k hk).2,fun hb=>key j r hr hj k hk hb⟩) (st.oks r (UN hr))
 ·rcases mem r hr with rfl | ⟨j,hj,hr⟩
  ·refine⟨?_,hl k hk⟩;rcases hf k hk with h1 | h1
   ·exact(st.rng p hpi k h1).1
   ·exact fun hB=>by have:=st.up hB;omega
  ·have:=st.rng r (UN hr) k hk;exact⟨this.1,by omega⟩
 ·have old:∀(j:Nat) (r:Pc),ps[j]? =some r→j≠i→Dis r q:=by
   intro j r hr hj k hk hk';rcases hf k hk' with h1 | h1
   ·exact key j r hr hj k hk h1
   ·have:=(st.rng r (UN hr) k hk).2;omega
  rw [UO];intro a b ha hb hab;simp only [Vc]at ha hb;rw [Wb,Wb];by_cases h1:i=a
  ·subst h1;rw [if_pos rfl,if_neg (by omega)];exact fun k hk hk'=>old b _ (UQ hb) (by omega) k hk' hk
  ·rw [if_neg h1];by_cases h2:i=b
   ·subst h2;rw [if_pos rfl];exact old a _ (UQ ha) (by omega)
   ·rw [if_neg h2];exact UO.1 st.dis a b ha hb hab
theorem StB.pick(st:StB B H0 H ps)(is:List Nat)(hn:is.Nodup):StB B H0 H (is.filterMap fun i=>ps[i]?):=by
 have hm:∀r,r∈is.filterMap (fun i=>ps[i]?)→r∈ps:=fun r hr=>by
  obtain⟨i,_,hi⟩:=List.mem_filterMap.1 hr;exact UN hi
 refine⟨st.old,st.lt0,st.size,fun r hr=>st.oks r (hm r hr),fun r hr=>st.rng r (hm r hr),?_⟩;rw [List.pairwise_filterMap];refine hn.imp ?_;intro i j hij a ha b hb k hk hk';have hil:=(UM.1 ha).1;have hjl:=(UM.1 hb).1;have e1:=(UM.1 ha).2;have e2:=(UM.1 hb).2;rcases V6 hij with h | h
 ·exact UO.1 st.dis i j hil hjl h k (by rw [e1];exact hk) (by rw [e2];exact hk')
 ·exact UO.1 st.dis j i hjl hil h k (by rw [e2];exact hk') (by rw [e1];exact hk)
theorem StB.say(st:StB B H0 H ps)(i:Nat)(hp:ps[i]? =some p)(q:Pc)(hq:q.ok H)(hf:∀k,q.foot k→p.foot k):StB B H0 H (ps.set i q):=
 st.upd i hp (Agr.refl _ _) q hq (fun k hk=>.inl (hf k hk)) (fun k hk=>(st.in_ i hp (hf k hk)).2) (Vv _)
theorem St.ge(st:St H0 H ps)(i:Nat)(hp:ps[i]? =some p){k:Nat}(hk:p.foot k):H0.size≤k:=by
 have:=(st.in_ i hp hk).1;unfold Old at this;omega
def pJ(p q:Pc):Pc:=⟨fun k=>p.foot k∨q.foot k,fun H=>p.ok H∧q.ok H,fun h hp=>⟨p.fr (h.mono fun _ hk=>.inl hk) hp.1,q.fr (h.mono fun _ hk=>.inr hk) hp.2⟩⟩
theorem StB.join(st:StB B H0 H ps)(i j:Nat)(hp:ps[i]? =some p)(hq:ps[j]? =some q)(hij:i<j):StB B H0 H ((ps.eraseIdx j).set i (pJ p q)):=by
 have hil:=(UM.1 hp).1;have hjl:=(UM.1 hq).1;have hmp:=UN hp;have hmq:=UN hq;have from_:∀(a:Nat) (r:Pc),((ps.eraseIdx j).set i (pJ p q))[a]? =some r→(a=i∧r=pJ p q)∨(a≠i∧∃b,b≠i∧b≠j∧ps[b]? =some r∧b=if a<j then a else a+1):=by
  intro a r hr;by_cases ha:i=a
  ·subst ha;rw [Vw (by rw [List.length_eraseIdx];split<;>omega)]at hr;cases hr;exact .inl ⟨rfl,rfl⟩
  ·rw [VS ha,List.getElem?_eraseIdx]at hr;refine .inr ⟨Ne.symm ha,if a<j then a else a+1,?_,?_,?_,rfl⟩
   ·split<;>omega
   ·split<;>omega
   ·split at hr
    ·rename_i h;rw [if_pos h];exact hr
    ·rename_i h;rw [if_neg h];exact hr
 have dis:∀(a b:Nat) (r s:Pc),a≠b→ps[a]? =some r→ps[b]? =some s→Dis r s:=by
  intro a b r s hab hr hs k hk hk';have hal:=(UM.1 hr).1;have hbl:=(UM.1 hs).1;have e1:=(UM.1 hr).2;have e2:=(UM.1 hs).2;rcases V6 hab with h | h
  ·exact UO.1 st.dis a b hal hbl h k (by rw [e1];exact hk) (by rw [e2];exact hk')
  ·exact UO.1 st.dis b a hbl hal h k (by rw [e2];exact hk') (by rw [e1];exact hk)
 refine⟨st.old,st.lt0,st.size,fun r hr=>?_,fun r hr k hk=>?_,?_⟩
 ·obtain⟨a,ha⟩:=V3 hr;rcases from_ a r ha with⟨_,rfl⟩ | ⟨_,b,_,_,hb,_⟩
  ·exact⟨st.oks p hmp,st.oks q hmq⟩
  ·exact st.oks r (UN hb)
 ·obtain⟨a,ha⟩:=V3 hr;rcases from_ a r ha with⟨_,rfl⟩ | ⟨_,b,_,_,hb,_⟩
  ·rcases hk with hk | hk
   ·exact st.rng p hmp k hk
   ·exact st.rng q hmq k hk
  ·exact st.rng r (UN hb) k hk
 ·rw [UO];intro a b ha hb hab k hk hk';have ga:=UQ ha;have gb:=UQ hb;rcases from_ a _ ga with⟨h1,h2⟩ | ⟨h1,a',h3,h4,h5,h6⟩<;>rcases from_ b _ gb with⟨h1',h2'⟩ | ⟨h1',b',h3',h4',h5',h6'⟩
  ·omega
  ·rw [h2]at hk;rcases hk with hk | hk
   ·exact dis i b' p _ (Ne.symm h3') hp h5' k hk hk'
   ·exact dis j b' q _ (Ne.symm h4') hq h5' k hk hk'
  ·rw [h2']at hk';rcases hk' with hk' | hk'
   ·exact dis a' i _ p h3 h5 hp k hk hk'
   ·exact dis a' j _ q h4 h5 hq k hk hk'
  ·refine dis a' b' _ _ ?_ h5 h5' k hk hk';rw [h6,h6'];split<;>split<;>omega
end
def pB(e:TypeId)(b:Nat)(l:List Value):Pc:=⟨fun k=>k=b,fun H=>Blk H b e l,fun h hp=>hp.agr h rfl⟩
section
variable{B:Nat→Prop}{H0 H H':Aa}{ps:List Pc}{e:TypeId}{b:Nat}{l:List Value}
theorem StB.box(st:StB B H0 H ps)(hb:b=H.size)(hs:H'.size=b+1)(hk:Blk H' b e l)(ha:Agr (fun k=>k<b) H H'):StB B H0 H' (ps++[pB e b l]):=by
 subst hb;exact st.add (ha.mono fun k hk=>hk) _ hk fun k hk=>by have:k=H.size:=hk;omega
theorem StB.skip(st:StB B H0 H ps)(hb:b=H.size)(ha:Agr (fun k=>k<b) H H'):StB B H0 H' ps:=by
 subst hb;exact st.call (ha.mono fun k hk=>hk)
theorem StB.blk(st:StB B H0 H ps)(i:Nat)(hp:ps[i]? =some (pB e b l)):Blk H b e l:=st.at_ i hp
theorem AG{P:Program}{t o:Nat}{v:Value}{K:Aa→Prop}(st:StB B H0 H ps)(i:Nat)(ht:C3 P t)(hp:ps[i]? =some (pB e b l))(ho:o<l.length)(hv:v.oneCell'=true)
  (k:∀H',StB B H0 H' (ps.set i (pB e b (l.set o v)))→K H'):CP P (Instr.storeAt t (.pointer (some ⟨b,o,none⟩)) v) H K:=by
 refine VC.st1 ht (st.at_ i hp) ho hv ?_;intro H' hb' ha' hs';exact k H' (st.upd i hp (ha'.mono fun k hk hkb=>hk.2 hkb) _ hb' (fun k hk=>.inl hk) (fun k hk=>by rw [hs'];exact(st.in_ i hp hk).2) (by omega))
theorem Ay{P:Program}{t o:Nat}{cs:List Value}{K:Aa→Prop}(st:StB B H0 H ps)(i:Nat)(ht:(P.info? t).map (·.size)=some cs.length)(hp:ps[i]? =some (pB e b l))(ho:o+cs.length≤l.length)(hv:cs.all (·.oneCell')=true)
  (k:∀H',StB B H0 H' (ps.set i (pB e b (Ac l o cs)))→K H'):CP P (Instr.storeAt t (.pointer (some ⟨b,o,none⟩)) (.agg cs.toArray)) H K:=by
 refine VC.stN ht (st.at_ i hp) ho hv ?_;intro H' hb' ha' hs';exact k H' (st.upd i hp (ha'.mono fun k hk hkb=>hk.2 hkb) _ hb' (fun k hk=>.inl hk) (fun k hk=>by rw [hs'];exact(st.in_ i hp hk).2) (by omega))
end
section
variable{α:Type}
def pN(T:Ty α)(S:Nat→Prop)(e:TypeId)(a:Option Addr)(n cap:Nat)(xs:List α):Pc where
 foot k:=slB (.slice a n cap) k∨S k
 ok H:=SlO T S H 0 e (.slice a n cap) xs∧∀k,S k→¬slB (.slice a n cap) k
 fr h hp:=⟨hp.1.agr h (fun _ hb=>.inl hb) (fun _ hb=>.inr hb),hp.2⟩
def none_(_:Nat):Prop:=False
abbrev pS(T:Ty α)(e:TypeId)(a:Option Addr)(n cap:Nat)(xs:List α):Pc:=pN T none_ e a n cap xs
variable{T:Ty α}{S:Nat→Prop}{e:TypeId}{a:Option Addr}{n cap:Nat}{xs:List α}{B:Nat→Prop}{H0 H H':Aa}{ps:List Pc}
theorem SlO.hull{lo:Nat}{v:Value}(h:SlO T S H lo e v xs):∃a cap,v= .slice a xs.length cap:=by
 obtain⟨cs,⟨h0,h1⟩,h2⟩:=h;rcases h1 with⟨rfl,h1⟩ | ⟨b,cap,l,rfl,h4,h5,h6,h7,h8,h9⟩
 ·exact⟨none,0,by rw [h1]⟩
 ·exact⟨_,_,rfl⟩
theorem SlO.nlen{lo:Nat}(h:SlO T S H lo e (.slice a n cap) xs):n=xs.length:=by
 obtain⟨a',cap',e⟩:=h.hull;injection e
theorem SlO.up{lo:Nat}{v:Value}(h:SlO T S H 0 e v xs)(hl:∀b,slB v b→lo≤b):SlO T S H lo e v xs:=by
 obtain⟨cs,⟨h0,h1⟩,h2⟩:=h;refine⟨cs,⟨h0,?_⟩,h2⟩;rcases h1 with h1 | ⟨b,cap,l,rfl,r⟩
 ·exact .inl h1
 ·exact .inr ⟨b,cap,l,rfl,hl b ⟨_,_,_,rfl⟩,r.2⟩
theorem St.own(st:St H0 H ps)(i:Nat)(hp:ps[i]? =some (pN T S e a n cap xs)):SlO T S H H0.size e (.slice a n cap) xs:=
 (st.at_ i hp).1.up fun b hb=>st.ge i hp (.inl hb)
theorem StB.len(st:StB B H0 H ps)(i:Nat)(hp:ps[i]? =some (pN T S e a n cap xs)):n=xs.length:=(st.at_ i hp).1.nlen
theorem StB.max(st:StB B H0 H ps)(i:Nat)(hp:ps[i]? =some (pN T S e a n cap xs)):xs.length≤maxLen:=(st.at_ i hp).1.len
theorem StB.adr(st:StB B H0 H ps)(i:Nat)(hp:ps[i]? =some (pN T S e a n cap xs))(hn:0<xs.length):∃b,a=some ⟨b,0,none⟩:=by
 obtain⟨cs,⟨h0,h1⟩,h2⟩:=(st.at_ i hp).1;rcases h1 with⟨h1,h3⟩ | ⟨b,cap,l,h1,r⟩
 ·omega
 ·injection h1 with h1
  exact⟨b,h1⟩
theorem StB.view(st:StB B H0 H ps)(i:Nat)(hp:ps[i]? =some (pN T S e a n cap xs)):SlD T (Old H) H a cap xs:=by
 obtain⟨a',cap',e1,h,-⟩:=(st.at_ i hp).1.view (S':=Old H) (fun b hb=>(st.in_ i hp (.inl hb)).2) (fun b hb=>(st.in_ i hp (.inr hb)).2);injection e1 with e1 e2 e3
 subst e1;subst e3;exact h
theorem ixO{P:Program}{t by_ j:Nat}{z:Value}{k:IntKind}{x:α}{ji:Int}{S0:Nat→Prop}{H2:Aa}{K:Value→Prop}(ht:SlT P t e T.size by_ z)(st:StB B H0 H ps)(i:Nat)(hp:ps[i]? =some (pN T S e a n cap xs))
  (hx:xs[j]? =some x) (hj:ji=(j:Int)) (hk:∀b o c,Old H b→Bo H b o c→T.rep (Old H) H c x→K (.pointer (some ⟨b,o,none⟩))):AB P (Instr.indexAt t (.slice a n cap) (.int k ji)) S0 H2 K:=by
 have h:=st.view i hp;have hn:=st.len i hp;obtain⟨b,o,c,rfl,h1,h2,h3⟩:=h.get hx;subst hj;have hi:=(UM.1 hx).1;exact ix ht (by omega) (by omega) (by simpa using hk b _ c h1 h2 h3)
theorem IZ{P:Program}{t b o j:Nat}{v:Value}{x:α}{K:Aa→Prop}(st:StB B H0 H ps)(i:Nat)(ht:C3 P t)(hp:ps[i]? =some (pN T S t (some ⟨b,0,none⟩) n cap xs))(hsz:T.size=1)(ho:o=j)(hj:j<xs.length)
  (hv:v.oneCell'=true) (hr:∀H',Agr S H H'→T.rep S H' [v] x) (k:∀H',StB B H0 H' (ps.set i (pN T S t (some ⟨b,0,none⟩) n cap (xs.set j x)))→K H'):CP P (Instr.storeAt t (.pointer (some ⟨b,o,none⟩)) v) H K:=by
 subst ho;have hok:=st.at_ i hp;obtain⟨-,-,-,l,hblk,hlen,-,hput⟩:=hok.1.placeS hj;rw [hsz,VZ]at hlen hput;refine VC.st1 ht hblk (by omega) hv ?_;intro H' hb' ha' hs';have hSH:Agr S H H':=ha'.mono fun k hk hkb=>hok.2 k hk (by subst hkb;exact⟨0,n,cap,rfl⟩);have hown:=hput H' [v] x (by rw [NB (by omega)];exact hb') hSH (hr H' hSH);refine k H' (st.upd i hp (ha'.mono fun k hk hkb=>hk.2 (.inl (by subst hkb;exact⟨0,n,cap,rfl⟩))) _ ⟨hown,hok.2⟩ (fun k hk=>.inl hk) (fun k hk=>by rw [hs'];exact(st.in_ i hp hk).2) (by omega))
theorem StB.new{b:Nat}{l:List Value}(st:StB B H0 H ps)(hb:b=H.size)(hs:H'.size=b+1)(hk:Blk H' b e l)(ha:Agr (fun k=>k<b) H H')(hr:T.reps none_ H' l xs)(hn:n=xs.length)(hm:n≤maxLen):StB B H0 H' (ps++[pS T e (some ⟨b,0,none⟩) n n xs]):=by
 subst hb;refine st.add (ha.mono fun k hk=>hk) _ ⟨SlO.ofBlk (VJ _) hk hr hn hm,fun k hk=>hk.elim⟩ fun k hk=>?_;rcases hk with⟨o,n',c,h⟩ | h
 ·cases h;omega
 ·exact h.elim
theorem StB.nils(st:StB B H0 H ps)(T:Ty α)(e:TypeId):StB B H0 H (ps++[pS T e none 0 0 []]):=
 st.add (Agr.refl _ _) _ ⟨SlO.nil,fun k hk=>hk.elim⟩ fun k hk=>by
  rcases hk with⟨o,n',c,h⟩ | h
  ·cases h
  ·exact h.elim
theorem StB.got{v:Value}(st:StB B H0 H ps)(ha:Agr (Old H) H H')(h:SlO T none_ H' H.size e v xs):∃a cap,v= .slice a xs.length cap∧StB B H0 H' (ps++[pS T e a xs.length cap xs]):=by
 obtain⟨a,cap,rfl⟩:=h.hull;refine⟨a,cap,rfl,st.add ha _ ⟨h.lower (VJ _),fun k hk=>hk.elim⟩ fun k hk=>?_⟩;rcases hk with hk | hk
 ·exact h.lt hk
 ·exact hk.elim
theorem KT{P:Program}{t ty q o m cap2 by_:Nat}{z:Value}{ys:List α}{ds:List Value}{K:Value→Aa→Prop}(st:StB B H0 H ps)(i:Nat)(ht:SlT P t e T.size by_ z)(hp:ps[i]? =some (pS T e a n cap xs))
  (hd:Bo H q o ds) (hy:T.reps none_ H ds ys) (hm:m=ys.length) (h1:∀u∈ds,u.oneCell'=true) (h63:xs.length+ys.length≤34359738368) (hby:by_≤1024)
  (k:∀a' cap' H',StB B H0 H' (ps.set i (pS T e a' (xs.length+ys.length) cap' (xs++ys)))→Agr (fun k=>k<H.size∧¬slB (.slice a n cap) k) H H'→K (.slice a' (xs.length+ys.length) cap') H'):
  BQ P (Builtin.append_ #[t,t] ty [.slice a n cap,.slice (some ⟨q,o,none⟩) m cap2].toArray) H K:=by
 refine Iu (T:=T) (S:=none_) (lo:=0) ht (st.at_ i hp).1 (VJ _) (fun k hk=>hk.elim) hd hy hm h1 (by unfold maxLen;omega) (by have:=Nat.mul_le_mul h63 hby;omega) ?_;intro v' H' hown hagr hsz hfr;obtain⟨a',cap',rfl⟩:=hown.hull;rw [UW]at hown hfr ⊢;refine k a' cap' H' (st.upd i hp (hagr.mono fun k hk=>⟨hk.1,fun hb=>hk.2 (.inl hb)⟩) _ ⟨hown,fun k hk=>hk.elim⟩ (fun k hk=>?_) (fun k hk=>?_) hsz) hagr
 ·rcases hk with hk | hk
  ·rcases hfr k hk with h | h
   ·exact .inl (.inl h)
   ·exact .inr h
  ·exact hk.elim
 ·rcases hk with hk | hk
  ·exact(hown.lt hk).2
  ·exact hk.elim
theorem Rf{P:Program}{t ty q by_:Nat}{z v:Value}{x:α}{K:Value→Aa→Prop}(st:StB B H0 H ps)(i:Nat)(ht:SlT P t e T.size by_ z)(hp:ps[i]? =some (pS T e a n cap xs))
  (hd:Blk H q e [v]) (hy:T.rep none_ H [v] x) (hv:v.oneCell'=true) (h63:xs.length+1≤34359738368) (hby:by_≤1024)
  (k:∀a' cap' H',StB B H0 H' (ps.set i (pS T e a' (xs.length+1) cap' (xs++[x])))→Agr (fun k=>k<H.size∧¬slB (.slice a n cap) k) H H'→K (.slice a' (xs.length+1) cap') H'):
  BQ P (Builtin.append_ #[t,t] ty [.slice a n cap,.slice (some ⟨q,0,none⟩) 1 1].toArray) H K:=
 KT (ys:=[x]) st i ht hp (hd.cells (fun j v hv=>by simpa using hv)) (Ty.reps_one hy) rfl (fun u hu=>by cases Vt.1 hu;exact hv) (by simpa using h63) hby k
end
section
variable{α:Type}{T:Ty α}{B:Nat→Prop}{H0 H H1:Aa}{ps:List Pc}{e te:TypeId}{nb:Nat}{vs:List Value}{xs:List (List α)}
theorem Tab.hold{S':Nat→Prop}{lo:Nat}(h:Tab T none_ H lo e nb te vs xs)(k:Agr S' H H1)(hn:S' nb)(hb:∀(i:Nat) (v:Value),vs[i]? =some v→∀j,slB v j→S' j):Tab T none_ H1 lo e nb te vs xs:=
 ⟨h.len,h.blk.agr k hn,h.nlo,fun i v x hv hx=>(h.own i v x hv hx).agr k (fun b hb'=>hb i v hv b hb') (fun b hb=>hb.elim),h.apart⟩
def pT(T:Ty α)(e te:TypeId)(nb:Nat)(vs:List Value)(xs:List (List α)):Pc where
 foot k:=k=nb∨∃(i:Nat) (v:Value),vs[i]? =some v∧slB v k
 ok H:=Tab T none_ H (nb+1) e nb te vs xs
 fr h hp:=hp.hold h (.inl rfl) fun i v hv j hj=>.inr ⟨i,v,hv,hj⟩
structure Mid(T:Ty α)(B:Nat→Prop)(H0 H H1:Aa)(ps:List Pc)(i:Nat)(e te:TypeId)(nb:Nat)(vs:List Value)(xs:List (List α))(t:Nat)(v':Value)(x':List α):Prop where
 st:StB B H0 H ps
 hp:ps[i]? =some (pT T e te nb vs xs)
 own:SlO T none_ H1 (nb+1) e v' x'
 ex:∃v,vs[t]? =some v∧Agr (fun k=>k<H.size∧¬slB v k) H H1∧∀k,slB v' k→slB v k∨H.size≤k
 le:H.size≤H1.size
end
end Go.VC
