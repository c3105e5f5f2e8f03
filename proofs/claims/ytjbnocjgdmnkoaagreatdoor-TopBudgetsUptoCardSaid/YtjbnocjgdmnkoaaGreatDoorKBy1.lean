import Derived.OrdersHeld
import Derived.Deep.Quiet
import Derived.StillTail
import Derived.Tactics
import Derived.NoCompiler
import Derived.WalkKit
import Derived.Deep.MidRow
import Derived.Deep.AppendSrc
import Derived.DeepKeys
import Derived.Laws.Pointers
import Derived.MapKept
import Derived.Laws.BytesArg
import Derived.Laws.Cover1
import Derived.DeepKeys3
import Derived.Maps.RangeRun
import Derived.Test.YtjbnocjgdmnkoaaGreatDoorProg
set_option maxHeartbeats 100000000
open Array renaming replicate -> Aq6, ext' -> AqJ, map -> AqN
open BitVec renaming ofInt -> Ar8, twoPow -> ArL
open Int renaming reducePow -> AqW
open List renaming replicate -> AlW, rec -> AqM, range -> AqP
open Nat renaming noConfusion -> AkK, reduceSub -> AqV, beq -> Ar1, reducePow -> As4
set_option maxRecDepth 100000
open Go renaming Value -> v_, World -> y_, Program -> w_, Operand -> z_, TypeId -> x_
open Option renaming some -> zY, none -> zV
open Bool renaming true -> zW, false -> zU
open Decidable renaming decide -> zT
set_option linter.unusedVariables false
set_option linter.unusedSimpArgs false
set_option linter.defProp false
def zA:=trivial
theorem zO{p:Prop}(h:p:=by omega):p:=h
theorem zQ{p:Prop}(h:p:=by decide):p:=h
theorem zX{p:Prop}(h:p:=by kernel_rfl):p:=h
theorem zZ{p:Prop}(h:p:=by simp):p:=h
abbrev Y_:=@List.mem_of_getElem?
abbrev wL:=@List.eq_nil_of_length_eq_zero
abbrev xT:=@List.pairwise_iff_getElem
abbrev xW:=@List.getElem?_set_self
abbrev xX:=@List.getElem?_set_ne
abbrev y':=@List.getElem?_append_right
abbrev zE:=@List.getElem?_append_left
abbrev xB:=@List.getElem?_of_mem
abbrev wR:=@List.ext_getElem?
abbrev yV:=@List.getD_eq_getElem?_getD
abbrev U_:=@List.length_cons
abbrev Q_:=@List.mem_singleton
abbrev tP:=@List.getElem?_take
abbrev yR:=@List.getElem?_eq_none
abbrev wM:=@List.length_set
abbrev g_:=@List.length_singleton
abbrev yP:=@List.append_assoc
abbrev tR:=@List.getElem?_replicate
abbrev J':=@List.mem_cons
abbrev vD:=@List.getElem?_set
abbrev xY:=@List.map_cons
abbrev fU:=@List.take_length_add_append
abbrev vL:=@List.length_take
abbrev nI:=@List.getElem?_cons_succ
abbrev n_:=@List.mem_append
abbrev xZ:=@List.append_nil
abbrev fV:=@List.set_getElem_self
abbrev vW:=@List.pairwise_append
abbrev xU:=@List.mem_append_left
abbrev tD:=@List.getElem?_range
abbrev vE:=@List.pairwise_cons
abbrev I':=@List.getElem?_map
abbrev fW:=@List.getElem?_inj
abbrev fX:=@List.getElem_set
abbrev fY:=@List.take_left'
abbrev yS:=@List.mem_filter
abbrev wW:=@Array.getElem?_eq_some_iff
abbrev sG:=@Array.getElem?_modify
abbrev qX:=@Array.toArray_toList
abbrev tE:=@Array.getElem?_eq_getElem
abbrev sH:=@Array.length_toList
abbrev rA:=@Array.toList_map
abbrev nJ:=@Array.getElem?_push
abbrev rB:=@Array.getElem?_eq_none
abbrev fZ:=@Array.getElem?_setIfInBounds_ne
abbrev nK:=@Array.setIfInBounds_comm
abbrev f_:=@Array.contains_push
abbrev eB:=@Array.toList_filter
abbrev rC:=@BitVec.eq_of_getLsbD_eq
abbrev rS:=@BitVec.getLsbD_or
abbrev eD:=@BitVec.getLsbD_twoPow
abbrev nL:=@BitVec.ofInt_natCast
abbrev qY:=@BitVec.toNat_ofNat
abbrev o_:=@Bool.and_eq_true
abbrev uE:=@Bool.false_eq_true
abbrev wD:=@Bool.not_eq_true'
abbrev wX:=@Bool.or_eq_true
abbrev sI:=@Bool.true_and
abbrev eE:=@Int.natCast_inj
abbrev P_:=@List.getElem?_eq_some_iff
abbrev zH:=@List.getElem?_eq_getElem
abbrev M_:=@List.length_append
abbrev rT:=@Nat.add_assoc
abbrev lV:=@Option.isSome_iff_exists
abbrev xI:=@Option.bind_some
abbrev eF:=@Array.getElem?_toList
abbrev wN:=@BitVec.getLsbD_and
abbrev rU:=@BitVec.getLsbD_not
abbrev rD:=@BitVec.getLsbD_allOnes
abbrev eG:=@BitVec.toNat_xor
abbrev eH:=@BitVec.toNat_not
abbrev vX:=@Bool.false_and
abbrev lW:=@Bool.and_false
abbrev eI:=@Bool.false_or
abbrev zG:=@Int.toNat_natCast
abbrev uF:=@Int.eq_ofNat_of_zero_le
abbrev eJ:=@Int.negSucc_lt_zero
abbrev d_:=@List.length_map
abbrev i_:=@List.length_nil
abbrev yH:=@List.take_length
abbrev vF:=@List.filter_cons_of_pos
abbrev wE:=@List.foldl_append
abbrev yD:=@List.mem_cons_of_mem
abbrev uG:=@List.filter_cons_of_neg
abbrev vG:=@List.flatMap_cons
abbrev yN:=@List.mem_cons_self
abbrev xV:=@List.map_append
abbrev uS:=@List.mem_flatMap
abbrev uH:=@List.filter_append
abbrev rE:=@List.take_append_drop
abbrev xO:=@List.mem_range
abbrev nM:=@List.length_filterMap_le
abbrev wO:=@List.foldl_cons
abbrev vH:=@List.findIdx?_cons
abbrev uI:=@List.mem_append_right
abbrev qZ:=@List.cons_append
abbrev tF:=@List.flatMap_append
abbrev yT:=@List.mem_map
abbrev sJ:=@Nat.testBit_lt_two_pow
abbrev yQ:=@Nat.lt_of_lt_of_le
abbrev vM:=@Nat.mul_le_mul_right
abbrev vY:=@Nat.mod_eq_of_lt
abbrev sK:=@Nat.or_lt_two_pow
abbrev I_:=@Nat.le_refl
abbrev tS:=@Nat.pow_le_pow_right
abbrev pD:=@Nat.ne_of_beq_eq_false
abbrev sL:=@Nat.succ_mul
abbrev rV:=@Nat.min_eq_left
abbrev N_:=@Nat.zero_add
abbrev rF:=@Nat.add_mul
abbrev V_:=@Nat.zero_le
abbrev lX:=@Nat.eq_of_beq_eq_true
abbrev eK:=@Nat.and_two_pow_sub_one_eq_mod
abbrev lY:=@Nat.eq_of_testBit_eq
abbrev lZ:=@Nat.lt_or_gt_of_ne
abbrev nN:=@Nat.lt_or_ge
abbrev V':=@Nat.le_trans
abbrev yW:=@Nat.mul_one
abbrev kF:=@Nat.testBit_or
abbrev nP:=@Nat.mod_lt
abbrev eM:=@Nat.testBit_two_pow
abbrev kG:=@Nat.one_mul
abbrev nQ:=@Nat.le_add_right
abbrev rW:=@Nat.mul_le_mul
abbrev eN:=@List.length_take_le
abbrev eO:=@List.mem_mergeSort
abbrev kH:=@List.map_map
abbrev eP:=@List.prefix_append
abbrev eQ:=@List.size_toArray
abbrev rG:=@List.nodup_append
abbrev xJ:=@List.all_eq_true
abbrev eR:=@List.filter_map
abbrev eS:=@List.count_cons
abbrev eT:=@List.sum_append
abbrev eU:=@List.range_add
abbrev pF:=@List.sum_cons
abbrev rX:=@Nat.and_le_right
abbrev rH:=@Nat.le_of_eq
abbrev kJ:=@Nat.div_div_eq_div_mul
abbrev kK:=@Nat.div_lt_iff_lt_mul
abbrev pG:=@Nat.pow_succ
abbrev vZ:=@Nat.sub_self
abbrev wB:=@Option.map_some
abbrev rI:=@Option.getD_some
abbrev rY:=@Bool.eq_iff_iff
abbrev rZ:=@List.pairwise_singleton
abbrev kL:=@List.count_append
abbrev eV:=@List.count_singleton_self
abbrev kM:=@List.filter_nil
abbrev eW:=@List.length_pos_of_mem
abbrev eX:=@List.pairwise_flatMap
abbrev eY:=@List.getElem_of_mem
abbrev eZ:=@List.ne_nil_of_mem
abbrev dA:=@List.findIdx_cons
abbrev dB:=@List.getElem_mem
abbrev dC:=@List.range'_succ
abbrev tT:=@Nat.lt_or_eq_of_le
abbrev kO:=@Nat.add_right_cancel_iff
abbrev pH:=@Nat.lt_trichotomy
abbrev dD:=@Nat.le_mul_of_pos_left
abbrev wF:=@List.getElem?_cons_zero
abbrev nR:=@List.filter_congr
abbrev tU:=@List.take_of_length_le
abbrev uT:=@List.findIdx?_eq_some_iff_getElem
abbrev sM:=@List.prefix_refl
abbrev sN:=@List.filter_cons
abbrev r':=@List.length_filter_le
abbrev nS:=@List.nil_append
abbrev kP:=@List.mem_of_mem_take
abbrev pI:=@List.findIdx?_append
abbrev dE:=@List.take_append_of_le_length
abbrev nT:=@List.take_zero
abbrev tW:=@List.foldl_nil
abbrev dF:=@List.dropLast_concat_getLast
abbrev pK:=@List.mem_filterMap
abbrev kR:=@List.set_cons_succ
abbrev kS:=@List.all_eq_false
abbrev dG:=@List.mem_of_find?_eq_some
abbrev dH:=@List.getElem?_eq_none_iff
abbrev rJ:=@List.map_nil
abbrev kT:=@List.all_append
abbrev wS:=@List.range_succ
abbrev dI:=@List.length_mergeSort
abbrev dJ:=@List.filterMap_append
abbrev dK:=@List.set_append_right
abbrev sO:=@List.map_congr_left
abbrev dL:=@List.drop_one
abbrev vO:=@Nat.lt_of_not_le
abbrev rK:=@Nat.max_le
abbrev dM:=@Array.getD_eq_getD_getElem?
abbrev dN:=@Array.getElem?_replicate
abbrev nU:=@List.headD_cons
abbrev dO:=@Nat.not_lt_zero
abbrev pL:=@Bool.and_true
abbrev pO:=@Nat.mul_le_mul_left
abbrev kU:=@Option.map_none
abbrev nV:=@Bool.and_self
abbrev rL:=@Int.le_refl
abbrev wP:=@List.perm_append_singleton
abbrev xK:=@List.sublist_cons_self
abbrev qA:=@List.findIdx?_eq_none_iff
abbrev uU:=@List.set_set
abbrev kV:=@List.length_pos_iff
abbrev qB:=@List.length_range
abbrev dP:=@List.getElem_range
abbrev dQ:=@List.take_add_one
abbrev dR:=@List.append_inj'
abbrev dS:=@List.getElem_map
abbrev dT:=@List.nodup_cons
abbrev dV:=@List.mapM_cons
abbrev wQ:=@Nat.mul_add
abbrev tG:=@Nat.lt_succ_self
abbrev nW:=@Nat.le_of_lt
abbrev sQ:=@List.append_sublist_append_left
abbrev sR:=@List.nil_sublist
abbrev nX:=@List.eq_replicate_iff
abbrev nY:=@List.filterMap_cons
abbrev dW:=@List.filterMap_nil
abbrev dX:=@List.flatMap_nil
abbrev dY:=@Nat.le_max_left
abbrev G_:=@if_neg
abbrev H_:=@if_pos
abbrev k_(b:Nat):Option Go.Addr:=zY ⟨b,0,zV⟩
abbrev J_(b:Nat):Go.Value:=.pointer (zY ⟨b,0,zV⟩)
abbrev B_:Int->Go.Value:=Go.Value.int .i64
open Go.Proofs.Tryz
section
variable{p:Prop}
def b_[h:Decidable p](k:¬p):zT p=zU:=decide_eq_false k
def a_[h:Decidable p](k:p):zT p=zW:=decide_eq_true k
def j_[h:Decidable p](k:¬p:=by omega):zT p=zU:=decide_eq_false k
def Y'[h:Decidable p](k:p:=by omega):zT p=zW:=decide_eq_true k
def qC[h:Decidable p]:(zT p=zU)=¬p:=propext decide_eq_false_iff_not
def yL[h:Decidable p]:(zT p=zW)=p:=decide_eq_true_eq
end
namespace Go.Proofs.YtjbnocjgdmnkoaaGreatDoor
variable{P:w_}{f:FuncId}{S B:Nat->Prop}{K:v_->Prop}{q d:Prop}{e t kt:x_}{x y:z_}{w w0:y_}{b n cap lo by_ j m r:Nat}{Q:Exit->Act->y_->Prop}{N:Act->y_->Prop}{c:Code}{l cs:List v_}{z:v_}{k g:IntKind}{vs:Array (Nat×v_)}{a:Option Addr}{bs:Array v_}{la lb:List Lit}{h:Int}{es:Array MapEntry}{Z:List Nat}
abbrev Aa:=Array Obj
abbrev Fr:=List v_
structure Z_(w w':y_):Prop where
 os:w'.os=w.os
 tape:w'.tape=w.tape
 output:w'.output=w.output
def Z_.refl(w:y_):Z_ w w:=⟨rfl,rfl,rfl⟩
def Z_.trans{a b c:y_}(h:Z_ a b)(k:Z_ b c):Z_ a c:=⟨k.os.trans h.os,k.tape.trans h.tape,k.output.trans h.output⟩
def Am(P:w_)(f:FuncId)(args:Array v_)(H:Aa)(R:v_->Aa->Prop):Prop:=∀w:y_,w.heap=H->(callFunc f args).run P w= .ok (.enter f args) w/\
  Calls P f args w λe w'=>∃v,e= .returned v/\Z_ w w'/\R v w'.heap
variable{H H0 H':Aa}{R R':v_->Aa->Prop}
def Am.mono{a:Array v_}(h:Am P f a H R) (c:∀v H',R v H'->R' v H'):Am P f a H R':=λw b=>
 ⟨(h w b).1,(h w b).2.mono λ_ _ ⟨v,d,e,r⟩=>⟨v,d,e,c _ _ r⟩⟩
def A_(S:Nat->Prop)(H H':Aa):Prop:=∀k,S k->H'[k]?=H[k]?
def A_.refl(S:Nat->Prop)(H:Aa):A_ S H H:=λ_ _=>rfl
def A_.trans{a b c:Aa}(h:A_ S a b)(k:A_ S b c):A_ S a c:=λi d=>(k i d).trans (h i d)
def A_.mono{S':Nat->Prop}{a b:Aa}(h:A_ S a b)(hs:∀k,S' k->S k):A_ S' a b:=λi c=>h i (hs i c)
structure A8(P:w_)(m:Sem v_)(S:Nat->Prop)(H:Aa)(K:v_->Prop):Prop where
 in_::
 out_:∃v,(∀w:y_,A_ S H w.heap->m.run P w= .ok v w)/\K v
structure Bu(P:w_)(m:Sem v_)(H:Aa)(K:v_->Aa->Prop):Prop where
 in_::
 out_:∀w:y_,w.heap=H->∃v w',m.run P w= .ok v w'/\Z_ w w'/\K v w'.heap
structure BK(P:w_)(m:Sem Unit)(H:Aa)(K:Aa->Prop):Prop where
 in_::
 out_:∀w:y_,w.heap=H->∃w',m.run P w= .ok () w'/\Z_ w w'/\K w'.heap
structure An(P:w_)(f:FuncId)(args:Array v_)(H:Aa)(K:v_->Aa->Prop):Prop where
 in_::
 out_:Am P f args H K
structure JO(P:w_)(f:FuncId)(args:Array v_)(S:Nat->Prop)(H:Aa)(K:v_->Prop):Prop where
 in_::
 out_:∃v,(∀H',A_ S H H'->Am P f args H' λv' H''=>v'=v/\A_ S H' H'')/\K v
def A8.mk{m:Sem v_}(v:v_)(h:∀w:y_,A_ S H w.heap->m.run P w= .ok v w) (k:K v):A8 P m S H K:=by exact⟨⟨v,h,k⟩⟩
def Bu.mk{m:Sem v_}{K:v_->Aa->Prop}(h:∀w:y_,w.heap=H->∃v a,m.run P w= .ok v a/\Z_ w a/\K v a.heap):Bu P m H K:=by exact⟨h⟩
def BK.mk{m:Sem Unit}{K:Aa->Prop}(h:∀w:y_,w.heap=H->∃a,m.run P w= .ok () a/\Z_ w a/\K a.heap):BK P m H K:=by exact⟨h⟩
def An.mk{a:Array v_}{K:v_->Aa->Prop}(h:Am P f a H R) (k:∀v H',R v H'->K v H'):An P f a H K:=by exact⟨h.mono k⟩
def JO.mk{a:Array v_}(v:v_)(h:∀H',A_ S H H'->Am P f a H' λb H''=>b=v/\A_ S H' H'') (k:K v):JO P f a S H K:=by exact⟨⟨v,h,k⟩⟩
def Av(b:Bool)(p q:Prop):Prop:=match b with | true=>p | false=>q
def Av.mk{b:Bool}{p:Prop}(h:b=zW->p)(k:b=zU->q):Av b p q:=by cases b;exact k rfl;exact h rfl
def Av.m2{p:Prop}[h:Decidable d](k:d->p)(l:¬d->q):Av (zT d) p q:=Av.mk (λe=>k (of_decide_eq_true e)) (λe=>l (of_decide_eq_false e))
def Av.tt{b:Bool}{p:Prop}(a:b=zW)(h:p):Av b p q:=by subst a;exact h
def Av.ff{b:Bool}{p:Prop}(a:b=zU)(h:q):Av b p q:=by subst a;exact h
section
variable{R:Type}
noncomputable def yJ(l:Fr):Nat->(v_->R)->R:=AqM (motive:=λ_=>Nat->(v_->R)->R) (λ_ K=>K undef) (λv _ ih n K=>Nat.casesOn n (K v) λm=>ih m K) l
noncomputable def xS(l:Fr):Nat->v_->(Fr->R)->R:=AqM (motive:=λ_=>Nat->v_->(Fr->R)->R) (λ_ _ K=>K []) (λx l ih n v K=>Nat.casesOn n (K (v::l)) λm=>ih m v λl'=>K (x::l')) l
noncomputable def N'(fr:Fr)(x:z_)(K:v_->R):R:=match x with
 | .tmp t=>yJ fr t K
 | .const v=>K v
 | .global g=>K (J_ g)
 | .func f=>K (.func (.func f) #[] #[])
noncomputable def Iy(fr:Fr)(l:List z_):(List v_->R)->R:=AqM (motive:=λ_=>(List v_->R)->R) (λK=>K []) (λx _ ih K=>N' fr x λv=>ih λvs=>K (v::vs)) l
noncomputable def Cf(dst:Option Tmp)(fr:Fr)(v:v_)(K:Fr->R):R:=match dst with
 | none=>K fr
 | some d=>xS fr d v K
end
def rd(fr:Fr)(i:Nat):v_:=fr.getD i undef
def yI(fr:Fr):z_->v_ | .tmp t=>rd fr t | .const v=>v | .global g=>J_ g | .func f=>.func (.func f) #[] #[]
def Dm{R:Type}(K:v_->R):∀(fr:Fr) (i:Nat),yJ fr i K=K (rd fr i)| [],_=>rfl | _::_,0=>rfl | _::l,n+1=>by show yJ l n K=_;rw[Dm K l n];simp[rd]
def EX{R:Type}:∀(fr:Fr) (i:Nat) (v:v_) (K:Fr->R),xS fr i v K=K (fr.set i v)| [],_,_,_=>rfl | _::_,0,_,_=>rfl | x::l,n+1,v,K=>by show xS l n v (λa=>K (x::a))=_;rw[EX l n v];rfl
def Ix{R:Type}(fr:Fr)(x:z_)(K:v_->R):N' fr x K=K (yI fr x):=by cases x<;>first | rfl | exact Dm K fr _
def Jg{R:Type}(fr:Fr):∀(l:List z_) (K:List v_->R),Iy fr l K=K (l.map (yI fr))| [],_=>rfl | x::l,K=>by show N' fr x (λv=>Iy fr l λvs=>K (v::vs))=_;simp only[Ix,Jg fr l,xY]
def Bk{R:Type}(a:Option Tmp)(fr:Fr)(v:v_)(K:Fr->R):Cf a fr v K=K (match a with | none=>fr | some d=>fr.set d v):=by cases a with|none=>rfl|some d=>exact EX fr d v K
structure At(fr:Fr)(a:Act):Prop where
 tmps:a.tmps.toList=fr
 defers:a.defers=[]
section
variable{fr:Fr}{a:Act}
def At.eval(h:At fr a)(x:z_):a.eval x=yI fr x:=by cases x with|tmp t=>obtain⟨rfl,_⟩:=h;simp[Act.eval,yI,rd]|const v=>rfl|global g=>rfl|func f=>rfl
def At.evalF(h:At fr a):a.eval=yI fr:=funext h.eval
def At.put(h:At fr a)(b:Option Tmp)(v:v_):At (match b with | none=>fr | some d=>fr.set d v) (a.put b v):=by obtain⟨rfl,c⟩:=h;cases b with|none=>exact⟨rfl,c⟩|some d=>exact⟨by simp[Act.put],c⟩
end
def uX:IntKind->IntKind->Bool | .i8,.i8 | .i16,.i16 | .i32,.i32 | .i64,.i64 | .u8,.u8 | .u16,.u16 | .u32,.u32 | .u64,.u64=>zW | _,_=>zU
def AiQ{a b:IntKind}(h:uX a b=zW):a=b:=by cases a<;>cases b<;>first | rfl | simp[uX]at h
def Q8:BinOp->v_->v_->Option v_
 | .add,.int k a,.int k' b=>match uX k k' with | true=>zY (.int k (k.wrap (a+b))) | false=>zV
 | .sub,.int k a,.int k' b=>match uX k k' with | true=>zY (.int k (k.wrap (a-b))) | false=>zV
 | .mul,.int k a,.int k' b=>match uX k k' with | true=>zY (.int k (k.wrap (a*b))) | false=>zV
 | .eql,.int k a,.int k' b=>match uX k k' with | true=>zY (.bool (a==b)) | false=>zV
 | .neq,.int k a,.int k' b=>match uX k k' with | true=>zY (.bool (a != b)) | false=>zV
 | .lss,.int k a,.int k' b=>match uX k k' with | true=>zY (.bool (zT (a<b))) | false=>zV
 | .leq,.int k a,.int k' b=>match uX k k' with | true=>zY (.bool (zT (a<=b))) | false=>zV
 | .gtr,.int k a,.int k' b=>match uX k k' with | true=>zY (.bool (zT (b<a))) | false=>zV
 | .geq,.int k a,.int k' b=>match uX k k' with | true=>zY (.bool (zT (b<=a))) | false=>zV
 | .eql,.string a,.string b=>zY (.bool (a.toList==b.toList))
 | .neq,.string a,.string b=>zY (.bool (!(a.toList==b.toList)))
 | _,_,_=>zV
def CQ(op:BinOp)(t:x_)(x y:z_)(k c:IntKind)(a b:Int)(w:y_):(eqGuard op t x y (.int k a) (.int c b)).run P w= .ok () w:=by cases op<;>simp[eqGuard]
def FH(op:BinOp)(t:x_)(x y:z_)(a b:ByteArray)(w:y_):(eqGuard op t x y (.string a) (.string b)).run P w= .ok () w:=by cases op<;>simp[eqGuard]
def Sm{op:BinOp}{a b v:v_}(h:Q8 op a b=zY v)(w:y_):(do eqGuard op t x y a b;binOp op t a b:Sem v_).run P w= .ok v w:=by
 unfold Q8 at h;split at h;all_goals try (split at h)
 all_goals first
  | (cases h;done)
  | (rename_i c;obtain rfl:=AiQ c;cases h;simp[CQ,binOp,Op.intArith,Op.intCmp];done)
  | (cases h;simp[FH,binOp,Op.stringOp];done)
def VA:UnOp->v_->Option v_ | .not,.bool b=>zY (.bool (!b))| .neg,.int k n=>zY (.int k (k.wrap (0-n)))| _,_=>zV
def VB{op:UnOp}{a v:v_}(h:VA op a=zY v)(w:y_):(Op.unary op a).run P w= .ok v w:=by unfold VA at h;split at h<;>cases h<;>simp[Op.unary,Op.intArith]
noncomputable def Xy{R:Type}(fr:Fr)(x:Option z_)(K:Option v_->R):R:=match x with
 | none=>K zV
 | some x=>N' fr x λv=>K (zY v)
def Wf{R:Type}(fr:Fr)(x:Option z_)(K:Option v_->R):Xy fr x K=K (x.map (yI fr)):=by cases x<;>simp[Xy,Ix]
noncomputable def oY{R:Type}(fr:Fr)(l:List (Nat×z_)):(List (Nat×v_)->R)->R:=AqM (motive:=λ_=>(List (Nat×v_)->R)->R) (λK=>K []) (λp _ ih K=>N' fr p.2 λv=>ih λvs=>K ((p.1,v)::vs)) l
def QS{R:Type}(fr:Fr):∀(l:List (Nat×z_)) (K:List (Nat×v_)->R),oY fr l K=K (l.map fun(i,x)=>(i,yI fr x))| [],_=>rfl | (i,x)::l,K=>by show N' fr x (λv=>oY fr l λvs=>K ((i,v)::vs))=_;simp only[Ix,QS fr l,xY]
def Rh:Option TypeDesc->List v_->Option v_ | some (.slice _),[.slice _ n _]=>zY (.int .i64 n)| some .string,[.string s]=>zY (.int .i64 s.size)| _,_=>zV
def SD{ty:x_}{vs:List v_}{v:v_}(h:Rh (P.underlying t) vs=zY v)(w:y_):(Builtin.len_ #[t] ty vs.toArray).run P w= .ok v w:=by unfold Rh at h;split at h<;>cases h<;>rename_i hu<;>simp[Builtin.len_,run_underlying hu,goInt]
def NF:Option TypeDesc->Option TypeDesc->v_->Option v_ | some _,zY (.int k),.int _ n=>zY (.int k (k.wrap n))| some _,zY .string,.string s=>zY (.string s)| _,_,_=>zV
def QN{s d:x_}{x v:v_}(h:NF (P.underlying s) (P.underlying d) x=zY v)(w:y_):(convert s d x).run P w= .ok v w:=by unfold NF at h;split at h<;>cases h<;>rename_i a b;{simp[convert,run_underlying a,run_underlying b,Conv.intToInt]};simp[convert,run_underlying a,run_underlying b]
def J7(P:w_)(S:Nat->Prop)(o:Oper)(fr:Fr)(H:Aa)(K:v_->Prop):Prop:=match o.op with
 | .move x=>N' fr x K
 | .assign x=>N' fr x K
 | .pick c a b=>N' fr c λvc=>match vc with
   | .bool b'=>Av b' (N' fr a K) (N' fr b K)
   | _=>False
 | .binOp op t x y _=>N' fr x λa=>N' fr y λb=>match Q8 op a b with
   | some v=>K v
   | none=>A8 P (do eqGuard op t x y a b;binOp op t a b) S H K
 | .unOp op _ x=>N' fr x λa=>match VA op a with
   | some v=>K v
   | none=>A8 P (Op.unary op a) S H K
 | .convert s d x=>N' fr x λa=>match NF (P.underlying s) (P.underlying d) a with
   | some v=>K v
   | none=>A8 P (convert s d a) S H K
 | .extract x i=>N' fr x λa=>match a with
   | .tuple vs=>match vs.toList[i]? with
     | some v=>K v
     | none=>False
   | _=>False
 | .nilCheck x=>N' fr x λa=>match a with
   | .pointer (zY p)=>K (.pointer (zY p))
   | _=>False
 | .makeInterface t x=>N' fr x λa=>match P.underlying t with
   | some (.interface _)=>False
   | some _=>K (.iface t a)
   | none=>False
 | .makeFunc fn first cap=>Iy fr first.toList λvs=>Iy fr cap.toList λus=>K (.func fn vs.toArray us.toArray)
 | .load t a=>N' fr a λp=>A8 P (Instr.loadAt t p) S H K
 | .index t x i=>N' fr x λa=>N' fr i λj=>A8 P (Instr.index t a j) S H K
 | .indexAddr t x i=>N' fr x λa=>N' fr i λj=>A8 P (Instr.indexAt t a j) S H K
 | .fieldAddr s x f=>N' fr x λa=>A8 P (Instr.fieldAt s a f) S H K
 | .field t x f=>N' fr x λa=>A8 P (Instr.field t a f) S H K
 | .slice t x lo hi mx=>N' fr x λa=>Xy fr lo λl=>Xy fr hi λh=>Xy fr mx λm=>A8 P (Instr.sliceAt t a l h m) S H K
 | .lookup t x i ok=>N' fr x λa=>N' fr i λj=>A8 P (Instr.lookup t a j ok) S H K
 | .build t ps=>oY fr ps.toList λvs=>A8 P (Instr.build t vs.toArray) S H K
 | .typeAssert x t a ok=>N' fr x λv=>A8 P (Instr.typeAssert v t a ok) S H K
 | .call {callee:=.builtin .len,args,argTypes}=>Iy fr args.toList λvs=>
   match argTypes.toList with
   | [t]=>match Rh (P.underlying t) vs with
     | some v=>K v
     | none=>A8 P (Builtin.len_ argTypes o.type vs.toArray) S H K
   | _=>A8 P (Builtin.len_ argTypes o.type vs.toArray) S H K
 | .call {callee:=.builtin .cap,args,argTypes}=>Iy fr args.toList λvs=>A8 P (Builtin.cap_ argTypes o.type vs.toArray) S H K
 | .call {callee:=.builtin .min,args,argTypes}=>Iy fr args.toList λvs=>A8 P (Builtin.min_ argTypes o.type vs.toArray) S H K
 | .call {callee:=.builtin .max,args,argTypes}=>Iy fr args.toList λvs=>A8 P (Builtin.max_ argTypes o.type vs.toArray) S H K
 | _=>False
def HV(o:Oper):Bool:=match o.op with
 | .move _ | .assign _ | .pick .. | .binOp .. | .unOp .. | .convert .. | .extract .. | .nilCheck _ | .makeInterface .. | .makeFunc .. | .load .. | .index ..
 | .indexAddr .. | .fieldAddr .. | .field .. | .slice .. | .lookup .. | .build .. | .typeAssert .. =>zW
 | .call {callee:=.builtin .len, .. } | .call {callee:=.builtin .cap, .. } | .call {callee:=.builtin .min, .. } | .call {callee:=.builtin .max, .. }=>zW
 | _=>zU
def A8.out{m:Sem v_}(h:A8 P m S H K):∃v,(∀w:y_,A_ S H w.heap->m.run P w= .ok v w)/\K v:=by exact h.out_
def B8{m:Sem v_}{v:v_}{w':y_}(h:m.run P w= .ok v w'):(do pure (Next.value (<-m)):Sem Next).run P w= .ok (.value v) w':=by simp[h]
def cV{m:Sem Unit}{w':y_}(h:m.run P w= .ok () w'):(do m;pure Next.skip:Sem Next).run P w= .ok .skip w':=by simp[h]
def CJ{o:Oper}{fr:Fr}(h:J7 P S o fr H K):∃v,(∀w:y_,A_ S H w.heap->(execOp (yI fr) o).run P w= .ok (.value v) w)/\K v:=by
 unfold J7 at h;split at h<;>rename_i ho<;>simp only[Ix,Jg,Wf,QS]at h;all_goals simp only[execOp,ho]
 case h_1=>exact⟨_,λw _=>zZ,h⟩
 case h_2=>exact⟨_,λw _=>zZ,h⟩
 (case h_3=>split at h;{rename_i b g;cases b;{exact⟨_,λw _=>by simp[g,asBool],h⟩};exact⟨_,λw _=>by simp[g,asBool],h⟩};exact h.elim);(case h_4=>split at h;{rename_i v a;exact⟨v,λw _=>B8 (Sm a w),h⟩};have⟨v,a,k⟩:=h.out;exact⟨v,λw c=>B8 (a w c),k⟩);(case h_5=>split at h;{rename_i v a;exact⟨v,λw _=>B8 (VB a w),h⟩};have⟨v,a,k⟩:=h.out;exact⟨v,λw c=>B8 (a w c),k⟩);(case h_6=>split at h;{rename_i v a;exact⟨v,λw _=>B8 (QN a w),h⟩};have⟨v,a,k⟩:=h.out;exact⟨v,λw c=>B8 (a w c),k⟩);(case h_7=>split at h;{split at h;{rename_i vs f _ v a;refine⟨v,λw _=>B8 ?_,h⟩;simp at a;simp[Instr.extract,f,a]};exact h.elim};exact h.elim);(case h_8=>split at h;{rename_i p j;exact⟨_,λw _=>by simp[j],h⟩};exact h.elim);(case h_9=>split at h;{exact h.elim};{rename_i d l hd;refine⟨_,λw _=>B8 ?_,h⟩;cases d<;>first | (exact(l _ rfl).elim) | simp[Instr.makeInterface,run_underlying hd]};exact h.elim);(case h_10=>refine⟨_,λw _=>B8 ?_,h⟩;simp only[<-rA,qX];simp[Instr.makeFunc])
 all_goals try
  have⟨v,a,k⟩:=h.out;exact⟨v,λw c=>B8 (a w c),k⟩
 (case h_18=>have⟨v,a,k⟩:=h.out;simp only[<-rA,qX]at a;exact⟨v,λw c=>B8 (a w c),k⟩);all_goals simp only[<-rA,qX]at h
 (case h_20=>
 split at h;rename_i t n;split at h;{rename_i v a;refine⟨v,λw _=>B8 (m:=Builtin.len_ _ _ _) ?_,h⟩;have e:∀{A:Array x_},A.toList=[t]->A= #[t]:=λh=>AqJ (by simpa using h);obtain rfl:=e n;have q:=SD (ty:=o.type) a w;rwa [qX]at q};rotate_left
 all_goals have⟨v,a,k⟩:=h.out;exact⟨v,λw c=>B8 (m:=Builtin.len_ _ _ _) (a w c),k⟩);(case h_21=>have⟨v,a,k⟩:=h.out;exact⟨v,λw c=>B8 (m:=Builtin.cap_ _ _ _) (a w c),k⟩);(case h_22=>have⟨v,a,k⟩:=h.out;exact⟨v,λw c=>B8 (m:=Builtin.min_ _ _ _) (a w c),k⟩);(case h_23=>have⟨v,a,k⟩:=h.out;exact⟨v,λw c=>B8 (m:=Builtin.max_ _ _ _) (a w c),k⟩);all_goals exact h.elim
structure Fb(P:w_)(t:x_)(x:v_)(name:String)(args:Array v_)(H:Aa)(K:v_->Aa->Prop):Prop where
 in_::
 out_:∃f as1,(∀w:y_,w.heap=H->(callMethod (.iface t x) name args).run P w= .ok (.enter f as1) w)/\Am P f as1 H K
def VS(P:w_)(q:Bool)(S:Nat->Prop)(f:v_)(args:List v_)(H:Aa)(K:v_->Aa->Prop):Prop:=match f with
 | .func (.func g) first cap=>match q with
   | true=>JO P g (first.toList++args++cap.toList).toArray S H λv=>K v H
   | false=>An P g (first.toList++args++cap.toList).toArray H K
 | _=>False
def mY(P:w_)(o:Oper)(fr:Fr)(H:Aa)(K:v_->Aa->Prop):Prop:=match o.op with
 | .alloc t=>Bu P (Instr.alloc t zW (.tuple #[])) H K
 | .box t x=>N' fr x λv=>Bu P (Instr.box t v) H K
 | .buildSlice t n ps=>oY fr ps.toList λvs=>Bu P (Instr.buildSlice t n vs.toArray) H K
 | .store t a x=>N' fr a λp=>N' fr x λv=>BK P (Instr.storeAt t p v) H λH'=>K undef H'
 | .makeMap t r=>Xy fr r λv=>Bu P (Instr.makeMap t v) H K
 | .makeSlice t l c=>N' fr l λn=>N' fr c λm=>Bu P (Instr.makeSlice t n m) H K
 | .mapUpdate t m k x=>N' fr m λr=>N' fr k λj=>N' fr x λv=>BK P (Instr.mapUpdate t r j v) H λH'=>K undef H'
 | .insert t m k x=>N' fr m λr=>N' fr k λj=>N' fr x λv=>BK P (Instr.mapUpdate t r j v) H λH'=>K undef H'
 | .mapEntry t m k=>N' fr m λr=>N' fr k λj=>Bu P (Instr.mapEntry t r j) H K
 | .entryStore t m s x=>N' fr m λr=>N' fr s λj=>N' fr x λv=>BK P (Instr.entryStore t r j v) H λH'=>K undef H'
 | .range t x=>N' fr x λv=>Bu P (Instr.range t v) H K
 | .next it s=>N' fr it λv=>Bu P (Instr.next v s o.type) H K
 | .entry it=>N' fr it λv=>Bu P (Instr.entry v) H K
 | .convert s d x=>N' fr x λv=>Bu P (convert s d v) H K
 | .call {callee:=.builtin .append,args,argTypes}=>Iy fr args.toList λvs=>Bu P (Builtin.append_ argTypes o.type vs.toArray) H K
 | .call {callee:=.builtin .copy,args,argTypes}=>Iy fr args.toList λvs=>Bu P (Builtin.copy_ argTypes o.type vs.toArray) H K
 | .call {callee:=.builtin .delete,args,argTypes}=>Iy fr args.toList λvs=>Bu P (Builtin.delete_ argTypes o.type vs.toArray) H K
 | .call {callee:=.builtin .clear,args,argTypes}=>Iy fr args.toList λvs=>Bu P (Builtin.clear_ argTypes o.type vs.toArray) H K
 | .call {callee:=.invoke r name,args, .. }=>N' fr r λv=>Iy fr args.toList λvs=>match v with
   | .iface t x=>Fb P t x name vs.toArray H K
   | _=>False
 | .call {callee:=.value f,args, .. }=>N' fr f λg=>Iy fr args.toList λvs=>VS P zU (λ_=>True) g vs H K
 | _=>False
def DC(P:w_)(o:Oper):Bool:=match o.op with
 | .convert s d _=>match P.underlying s,P.underlying d with
   | some (.slice _),_=>zU
   | some .string,zY (.slice _)=>zU
   | _,_=>zW
 | _=>zW
def wH(P:w_)(q:Bool)(S:Nat->Prop)(o:Oper)(fr:Fr)(H:Aa)(K:v_->Aa->Prop):Prop:=match HV o&&DC P o with
 | true=>J7 P S o fr H λv=>K v H
 | false=>match q with
   | true=>match o.op with
     | .call {callee:=.value f,args, .. }=>N' fr f λg=>Iy fr args.toList λvs=>VS P zW S g vs H K
     | _=>False
   | false=>mY P o fr H K
def Bu.out{m:Sem v_}{K:v_->Aa->Prop}(h:Bu P m H K):∀w:y_,w.heap=H->∃v a,m.run P w= .ok v a/\Z_ w a/\K v a.heap:=by exact h.out_
def BK.out{m:Sem Unit}{K:Aa->Prop}(h:BK P m H K):∀w:y_,w.heap=H->∃a,m.run P w= .ok () a/\Z_ w a/\K a.heap:=by exact h.out_
def An.out{a:Array v_}{K:v_->Aa->Prop}(h:An P f a H K):Am P f a H K:=by exact h.out_
def JO.out{a:Array v_}(h:JO P f a S H K):∃v,(∀H',A_ S H H'->Am P f a H' λb H''=>b=v/\A_ S H' H'')/\K v:=by exact h.out_
section
variable{x:v_}{a:String}{b:Array v_}{K:v_->Aa->Prop}
def Fb.out(h:Fb P t x a b H K):∃f c,(∀w:y_,w.heap=H->(callMethod (.iface t x) a b).run P w= .ok (.enter f c) w)/\Am P f c H K:=by exact h.out_
def Fb.mk(f:FuncId)(c:Array v_)(d:∀w:y_,(callMethod (.iface t x) a b).run P w= .ok (.enter f c) w) (h:Am P f c H R) (k:∀v H',R v H'->K v H'):Fb P t x a b H K:=by exact⟨⟨f,c,λw _=>d w,h.mono k⟩⟩
end
def Ud(P:w_)(o:Oper)(a:Act)(w:y_)(K:v_->Aa->Prop):Prop:=∀Q:Exit->Act->y_->Prop,o.wp P a w (λa' w'=>∃v,a'=a.put o.dst v/\Z_ w w'/\K v w'.heap) Q
section
variable{o:Oper}{a:Act}{w':y_}{K:v_->Aa->Prop}
def Om{v:v_}(h:(execOp a.eval o).run P w= .ok (.value v) w') (b:Z_ w w') (k:K v w'.heap):Ud P o a w K:=by intro Q;unfold Oper.wp;rw[h];exact⟨v,rfl,b,k⟩
def XL(h:(execOp a.eval o).run P w= .ok .skip w') (b:Z_ w w') (k:K undef w'.heap):Ud P o a w K:=by intro Q;unfold Oper.wp;rw[h];exact⟨undef,rfl,b,k⟩
end
def Ol{o:Oper}{a:Act}{K:v_->Aa->Prop}{b:Array v_}(h:(execOp a.eval o).run P w=(callFunc f b).run P w) (k:Am P f b w.heap K):Ud P o a w K:=by intro Q;unfold Oper.wp;rw[h,(k w rfl).1];refine(k w rfl).2.mono ?_;rintro e g ⟨v,rfl,c,d⟩;exact⟨v,rfl,c,d⟩
section
variable{o:Oper}{fr:Fr}{a:Act}{K:v_->Aa->Prop}
def UA(k:At fr a)(h:mY P o fr w.heap K):Ud P o a w K:=by
 have j:=k.evalF;unfold mY at h;split at h<;>rename_i ho<;>try simp only[Ix,Jg,Wf,QS,<-rA,qX]at h
 all_goals try (
  have⟨v,p,l,d,m⟩:=h.out w rfl;exact Om (by rw[j];simp only[execOp,ho];exact B8 l) d m)
 all_goals try (
  have⟨p,l,d,m⟩:=h.out w rfl;exact XL (by rw[j];simp only[execOp,ho];exact cV l) d m)
 (case h_19=>split at h;{rename_i t x q;have⟨f,r,u,n⟩:=h.out;refine Ol ?_ n;rw[j];simp only[execOp,ho,resolve,q];rw[(n w rfl).1,<-u w rfl];have y:∀A:Array v_,(#[Value.iface t x]++A)[0]?=zY (Value.iface t x):=λA=>by{simp[Array.getElem?_append]};rename_i b c _;have e2:(AqN (yI fr) b).extract 0 b.size=AqN (yI fr) b:=by{rw[(zZ:b.size=(AqN (yI fr) b).size)];exact Array.extract_size};simp[invoke,y,e2]};exact h.elim);(case h_20=>
 unfold VS at h;rename_i B b c;split at h;{
 rename_i g first cap z
 refine Ol ?_ h.out;rw[j];have e:(first.toList++(AqN (yI fr) b).toList++cap.toList).toArray=first++AqN (yI fr) b++cap:=AqJ zZ
 rw[e];simp only[execOp,ho,resolve,z,Deferred.ofValue];simp[invoke]};exact h.elim);all_goals exact h.elim
def Cn(b:At fr a)(h:wH P zU (λ_=>True) o fr w.heap K):Ud P o a w K:=by unfold wH at h;split at h;{have⟨v,c,d⟩:=CJ h;exact Om (by rw[b.evalF];exact c w (A_.refl _ _)) (Z_.refl w) d};exact UA b h
end
def yU(w0:y_)(S:Nat->Prop)(w:y_):Prop:=Z_ w0 w/\A_ S w0.heap w.heap
def XK{o:Oper}{fr:Fr}{a:Act}{K:v_->Aa->Prop}(d:At fr a)(h:wH P zW S o fr w0.heap K):∃v,(∀w,yU w0 S w->o.quietAt P a (yU w0 S) w v)/\K v w0.heap:=by
 unfold wH at h;split at h;{have⟨v,m,l⟩:=CJ h;refine⟨v,λw j=>?_,l⟩;unfold Oper.quietAt;rw[d.evalF,m w j.2];exact⟨rfl,rfl⟩};dsimp only at h;split at h;{
 rename_i f b c n;simp only[Ix,Jg,<-rA]at h;unfold VS at h;split at h;{
 rename_i g first cap p
 have⟨v,q,l⟩:=h.out;refine⟨v,λw j=>?_,l⟩;have⟨r,t⟩:=q w.heap j.2 w rfl;have u:(execOp a.eval o).run P w=(callFunc g (first.toList++(AqN (yI fr) b).toList++cap.toList).toArray).run P w:=by{
 rw[d.evalF];have e:(first.toList++(AqN (yI fr) b).toList++cap.toList).toArray=first++AqN (yI fr) b++cap:=AqJ zZ
 rw[e];simp only[execOp,n,resolve,p,Deferred.ofValue];simp[invoke]};unfold Oper.quietAt;rw[u,r];refine⟨rfl,t.mono ?_⟩;rintro e y ⟨z,rfl,k,rfl,x⟩;exact⟨rfl,j.1.trans k,j.2.trans x⟩};exact h.elim};exact h.elim
def wT(K:Fr->Aa->Prop)(fr:Fr)(H:Aa):Prop:=K fr H
def QY(P:w_)(q:Bool)(S:Nat->Prop)(o:Oper)(want:Bool)(t:Nat)(fr:Fr)(H:Aa)(K:Fr->Aa->Prop):Prop:=yJ fr t λv=>match v with
  | .bool b=>Av b
    (xS fr t (.bool zW) λfr1=>match want with
     | true=>wH P q S o fr1 H λv H'=>Cf o.dst fr1 v λfr'=>wT K fr' H'
     | false=>Cf o.dst fr1 undef λfr'=>wT K fr' H)
    (xS fr t (.bool zU) λfr1=>match want with
     | false=>wH P q S o fr1 H λv H'=>Cf o.dst fr1 v λfr'=>wT K fr' H'
     | true=>Cf o.dst fr1 undef λfr'=>wT K fr' H)
  | .tuple _=>Cf o.dst fr undef λfr'=>wT K fr' H
  | _=>False
def KQ(P:w_)(q:Bool)(S:Nat->Prop)(all:List Oper)(l:List Oper):Fr->Aa->(Fr->Aa->Prop)->Prop:=AqM (motive:=λ_=>Fr->Aa->(Fr->Aa->Prop)->Prop) (λfr H K=>K fr H) (λo _ ih fr H K=>
  match o.guard with
  | none=>wH P q S o fr H λv H'=>Cf o.dst fr v λfr'=>ih fr' H' K
  | some (j,want)=>match(all[j]?).bind (·.dst)with
    | none=>False
    | some t=>QY P q S o want t fr H λfr' H'=>ih fr' H' K) l
def PJ(P:w_)(q:Bool)(S:Nat->Prop)(all rest:List Oper)(o:Oper)(fr:Fr)(H:Aa)(K:Fr->Aa->Prop):KQ P q S all (o::rest) fr H K=(match o.guard with | none=>wH P q S o fr H λv H'=>Cf o.dst fr v λa=>KQ P q S all rest a H' K | some (j,want)=>match(all[j]?).bind (·.dst)with | none=>False | some t=>QY P q S o want t fr H λa H'=>KQ P q S all rest a H' K):=rfl
def DS{fr:Fr}{t:Nat}{v:v_}(h:rd fr t=v)(b:v≠undef):fr.set t v=fr:=by unfold rd at h;rcases nN t fr.length with a | a;{rw[yV,zH a]at h;subst h;exact fV a};rw[yV,yR a]at h;exact absurd h.symm b
def HR{c:List Oper}{fr:Fr}{a:Act}(e:At fr a){t:Nat}(f:(c[j]?).bind (·.dst)=zY t){b:Bool}(d:rd fr t= .bool b):yielded c.toArray a.tmps j=zY b:=by
 obtain⟨rfl,_⟩:=e;unfold yielded;have:((c.toArray[j]?).bind (·.dst))=zY t:=by simpa using f
 rw[this];unfold rd at d;rw[yV]at d;simp only[xI];cases h:a.tmps[t]? with|none=>simp[h,undef]at d|some v=>simp[h]at d;simp[d]
def HS{b:List Oper}{fr:Fr}{a:Act}(d:At fr a){t:Nat}(e:(b[j]?).bind (·.dst)=zY t){vs:Array v_}(c:rd fr t= .tuple vs):yielded b.toArray a.tmps j=zV:=by
 obtain⟨rfl,_⟩:=d;unfold yielded;have:((b.toArray[j]?).bind (·.dst))=zY t:=by simpa using e
 rw[this];unfold rd at c;rw[yV]at c;simp only[xI];cases h:a.tmps[t]? with|none=>rfl|some v=>simp[h]at c;simp[c]
def Kn{P:w_}{all:List Oper}{Q:Exit->Act->y_->Prop}:∀(l:List Oper) (fr:Fr) (a:Act) (w:y_) (K:Fr->Aa->Prop),At fr a->
  (∀d a' g,At d a'->Z_ w g->K d g.heap->Q .normal a' g)->
  KQ P zU (λ_=>True) all l fr w.heap K->wpList P all.toArray Q l a w
 | [],fr,a,w,K,hat,hq,h=>hq fr a w hat (Z_.refl w) h
 | o::l,fr,a,w,K,hat,hq,h=>by
   have go:∀(c:Bool),(c=zW->Ud P o a w λv H'=>Cf o.dst fr v λd=>KQ P zU (λ_=>True) all l d H' K)->
     (c=zU->Cf o.dst fr undef λd=>KQ P zU (λ_=>True) all l d w.heap K)->
     Region.wanted o (yielded all.toArray a.tmps)=c->wpList P all.toArray Q (o::l) a w:=by
    intro c p q y;unfold wpList;rw[y];cases c with
    | true=>
      refine .inl (Oper.wp_mono ?_ (p rfl _));rintro a' g ⟨v,rfl,f,u⟩;rw[Bk]at u;exact Kn l _ _ _ K (hat.put o.dst v) (λd a' r p q k=>hq d a' r p (f.trans q) k) u
    | false=>
      have k:=q rfl;rw[Bk]at k;exact Kn l _ _ _ K (hat.put o.dst undef) hq k
   rw[PJ]at h;split at h
   ·rename_i e;exact go zW (λ_=>Cn hat h) (λh=>by cases h) (by simp[Region.wanted,e])
   ·rename_i j c e;split at h
    ·exact h.elim
    ·rename_i t x;unfold QY at h;simp only[wT]at h;rw[Dm]at h;split at h
     ·rename_i b m;have n:=HR hat x m;have hs:fr.set t (.bool b)=fr:=DS m (by simp[undef]);cases b<;>cases c<;>simp only[Av,EX,hs]at h
      ·exact go zW (λ_=>Cn hat h) (λh=>by cases h) (by simp[Region.wanted,e,n])
      ·exact go zU (λh=>by cases h) (λ_=>h) (by simp[Region.wanted,e,n])
      ·exact go zU (λh=>by cases h) (λ_=>h) (by simp[Region.wanted,e,n])
      ·exact go zW (λ_=>Cn hat h) (λh=>by cases h) (by simp[Region.wanted,e,n])
     ·rename_i vs m;exact go zU (λh=>by cases h) (λ_=>h) (by simp[Region.wanted,e,HS hat x m])
     ·exact h.elim
def AgB{id:Nat}{l:List Oper}{fr:Fr}{a:Act}{K:Fr->Aa->Prop}(c:At fr a)(e:∀b a' d,At b a'->Z_ w d->K b d.heap->Q .normal a' d)(h:KQ P zU (λ_=>True) l l fr w.heap K):(Code.region id l.toArray zU).wp P Q a w:=wp_region_lit (Kn l fr a w K c e h)
def HD{P:w_}{S:Nat->Prop}{all:List Oper}{w0:y_}:∀(l:List Oper) (fr:Fr) (a:Act) (K:Fr->Aa->Prop) (Q:Act->Prop),At fr a->
  (∀d a',At d a'->K d w0.heap->Q a')->
  KQ P zW S all l fr w0.heap K->wpQuiet P all.toArray (yU w0 S) Q l a
 | [],fr,a,K,Q,hat,hq,h=>hq fr a hat h
 | o::l,fr,a,K,Q,hat,hq,h=>by
   have go:∀(c:Bool),(c=zW->wH P zW S o fr w0.heap λv H'=>Cf o.dst fr v λd=>KQ P zW S all l d H' K)->
     (c=zU->Cf o.dst fr undef λd=>KQ P zW S all l d w0.heap K)->
     Region.wanted o (yielded all.toArray a.tmps)=c->wpQuiet P all.toArray (yU w0 S) Q (o::l) a:=by
    intro c p q r;unfold wpQuiet;rw[r];cases c with
    | true=>
      have⟨v,u,k⟩:=XK hat (p rfl);rw[Bk]at k;exact⟨v,u,HD l _ _ K Q (hat.put o.dst v) hq k⟩
    | false=>
      have m:=q rfl;rw[Bk]at m;exact HD l _ _ K Q (hat.put o.dst undef) hq m
   rw[PJ]at h;split at h
   ·rename_i e;exact go zW (λ_=>h) (λh=>by cases h) (by simp[Region.wanted,e])
   ·rename_i j c e;split at h
    ·exact h.elim
    ·rename_i t n;unfold QY at h;simp only[wT]at h;rw[Dm]at h;split at h
     ·rename_i b f;have g:=HR hat n f;have hs:fr.set t (.bool b)=fr:=DS f (by simp[undef]);cases b<;>cases c<;>simp only[Av,EX,hs]at h
      ·exact go zW (λ_=>h) (λh=>by cases h) (by simp[Region.wanted,e,g])
      ·exact go zU (λh=>by cases h) (λ_=>h) (by simp[Region.wanted,e,g])
      ·exact go zU (λh=>by cases h) (λ_=>h) (by simp[Region.wanted,e,g])
      ·exact go zW (λ_=>h) (λh=>by cases h) (by simp[Region.wanted,e,g])
     ·rename_i vs f;exact go zU (λh=>by cases h) (λ_=>h) (by simp[Region.wanted,e,HS hat n f])
     ·exact h.elim
structure Ap(P:w_)(l:List Oper)(fr:Fr)(H:Aa)(K:Fr->Aa->Prop):Prop where
 in_::
 out_:∀(id:Nat) (Q:Exit->Act->y_->Prop) (a:Act) (w:y_),At fr a->w.heap=H->(∀c a w,¬Q (.panic c) a w)->
  (∀fr' a' w',At fr' a'->Z_ w w'->K fr' w'.heap->Q .normal a' w')->(Code.region id l.toArray zW).wp P Q a w
def Ap.quiet{l:List Oper}{fr:Fr}{K:Fr->Aa->Prop}(S:Nat->Prop)(f:P.follows .mixedOrders=zW)(g:Region.lexB .any l.toArray=zW) (h:KQ P zW S l l fr H λb _=>∀H',A_ S H H'->K b H'):Ap P l fr H K:=by refine⟨?_⟩;intro id Q a w e j _ k;subst j;refine wp_region_quiet (C:=yU w S) f g ⟨⟨rfl,rfl,rfl⟩,A_.refl _ _⟩ ?_;exact HD l fr a _ _ e (λb a' c m n d=>k b a' n c d.1 (m _ d.2)) h
def aC(h:A_ (λ_=>True) H H'):H'=H:=Array.ext_getElem? λi=>h i trivial
def Ap.lex{l:List Oper}{fr:Fr}{K:Fr->Aa->Prop}(f:P.follows .mixedOrders=zW)(g:Region.lexB .any l.toArray=zW) (h:KQ P zW (λ_=>True) l l fr H K):Ap P l fr H K:=by refine⟨?_⟩;intro id Q a w d j _ k;subst j;refine wp_region_quiet (C:=yU w λ_=>True) f g ⟨⟨rfl,rfl,rfl⟩,A_.refl _ _⟩ ?_;exact HD l fr a K _ d (λe a' b m n c=>k e a' n b c.1 (by rw[aC c.2];exact m)) h
def OV(P:w_)(ops:Array Oper)(Q:Exit->Act->y_->Prop)(S:y_->Prop)(z:Nat):Nat->Array Bool->Act->y_->Prop | 0,listed,a,w=>Region.ready .any ops listed=[]/\Q .normal a w | fuel+1,listed,a,w=>(Region.ready .any ops listed=[]->Q .normal a w)/\ ∀i∈Region.ready .any ops listed,wpOp P ops Q i (λa' w'=>(i≠z->S w')/\OV P ops Q S z fuel (listed.setIfInBounds i zW) a' w') a w
def OX{P:w_}{d:Array Oper}{Q:Exit->Act->y_->Prop}{S:y_->Prop}{z:Nat}:∀(b:Nat) (c:Array Bool) (a:Act) (w:y_),OV P d Q S z b c a w->wpAny P .any d Q b c a w | 0,_,_,_,h=>h | b+1,_,_,_,h=>⟨h.1,λi e=>wpOp_mono (λa' f g=>OX b _ a' f g.2) (h.2 i e)⟩
def RU{f:Array Oper}{S:y_->Prop}{z:Nat}{i:Nat}{y:Oper}{v:v_}(L:f[i]?=zY y)(r:∀(j:Nat) (o:Oper) C b,f[j]?=zY o->o.op≠ .select C b)(Y:∀c a w,Q (.panic c) (a.put y.dst v) w->Q (.panic c) a w) (Z:i≠z) (hz:∀W,f[z]?=zY W->∃e∈W.after,Region.binds .any e=zW/\e.on=i):∀(g:Nat) (d:Array Bool) (a:Act) (w:y_),(∀j t,f[j]?=zY t->j≠i->d.getD j zW=zU->(∀e∈t.after,Region.binds .any e=zW->e.on≠i)->y.apart f t=zW)->i∈Region.ready .any f d->YieldsIf P f S y v a->S w->OV P f Q S z g (d.setIfInBounds i zW) (a.put y.dst v) w->OV P f Q S z (g+1) d a w:=by
 intro g;induction g with|zero=>intro d a w _ A I D H;refine⟨λh=>(by rw[h]at A;cases A),λj J=>?_⟩;by_cases l:j=i;{subst l;exact I.wpOp L D ⟨λ_=>D,H⟩};have:=ready_mono J l;rw[H.1]at this;cases this|succ g ih=>{
 intro d a w m A I D H;refine⟨λh=>(by rw[h]at A;cases A),λj J=>?_⟩;by_cases l:j=i;{subst l;exact I.wpOp L D ⟨λ_=>D,H⟩};have B:=H.2 j (ready_mono J l);have⟨u,t,n,E⟩:=mem_ready.1 J;have x:∀e∈t.after,Region.binds .any e=zW->e.on≠i:=λe M N O=>by{have B:=E e M N;have X:=(mem_ready.1 A).1;rw[O]at B;rcases nN i d.size with R | R;{simp[R]at X B;rw[X]at B;cases B};simp[rB R]at B};have p:j≠z:=by{intro p;subst p;have⟨e,M,N,T⟩:=hz t n;exact x e M N T};have h2:=wpOp_putIf n (m j t n l u x) (λC b=>r i y C b L) (λC b=>r j t C b n) Y I B
 have q:∀k ok,f[k]?=zY ok->k≠i->(d.setIfInBounds j zW).getD k zW=zU->
   (∀e∈ok.after,Region.binds .any e=zW->e.on≠i)->y.apart f ok=zW:=λk ok hk U F V=>by
  refine m k ok hk U ?_ V;by_cases G:j=k
  ·subst G;exact u
  ·rw[getD_set_ne zW G]at F;exact F
 refine wpOp_mono (λa' w' K=>⟨λ_=>K.2.1 p,ih (d.setIfInBounds j zW) a' w' q (ready_mono A (Ne.symm l)) K.1 (K.2.1 p) ?_⟩) h2;rw[nK _ _ l];exact K.2.2}
inductive Sch where
 | e
 | q (i:Nat) (s:Sch)
 | f (i:Nat) (s:Sch)
 | b (i:Nat) (s:Sch) (j:Nat) (s':Sch)
def sq:List Nat->Sch->Sch | [],s=>s | i::l,s=>.q i (sq l s)
def TM(P:w_)(S:Nat->Prop)(z:Nat)(H0:Aa)(all:List Oper)(i:Nat)(fr:Fr)(H:Aa)(next:Fr->Aa->Prop):Prop:=match all[i]? with
 | none=>False
 | some o=>match o.guard with
   | some _=>False
   | none=>match Ar1 i z with
     | true=>wH P zU (λ_=>True) o fr H λv H'=>Cf o.dst fr v λfr'=>next fr' H'
     | false=>wH P zU (λ_=>True) o fr H λv H'=>A_ S H0 H'/\Cf o.dst fr v λfr'=>next fr' H'
def S7(P:w_)(S:Nat->Prop)(z:Nat)(H0:Aa)(all:List Oper)(s:Sch):Fr->Aa->(Fr->Aa->Prop)->Prop:=Sch.rec (motive:=λ_=>Fr->Aa->(Fr->Aa->Prop)->Prop) (λfr H K=>K fr H)
  (λi _ ih fr H K=>match all[i]? with
   | none=>False
   | some o=>match o.guard with
     | some _=>False
     | none=>match HV o&&DC P o with
       | true=>J7 P S o fr H λv=>Cf o.dst fr v λfr'=>ih fr' H K
       | false=>False)
  (λi _ ih fr H K=>TM P S z H0 all i fr H λfr' H'=>ih fr' H' K)
  (λi _ j _ ih ih' fr H K=>(TM P S z H0 all i fr H λfr' H'=>ih fr' H' K)/\TM P S z H0 all j fr H λfr' H'=>ih' fr' H' K) s
def AdU(P:w_)(S:Nat->Prop)(z:Nat)(H0:Aa)(all:List Oper)(i:Nat)(s:Sch)(fr:Fr)(H:Aa)(K:Fr->Aa->Prop):S7 P S z H0 all (.q i s) fr H K=(match all[i]? with | none=>False | some o=>match o.guard with | some _=>False | none=>match HV o&&DC P o with | true=>J7 P S o fr H λv=>Cf o.dst fr v λa=>S7 P S z H0 all s a H K | false=>False):=rfl
def Iz(ops:Array Oper)(z:Nat):Sch->Array Bool->Bool | .e,listed=>(Region.ready .any ops listed).isEmpty | .q i s,listed=>(Region.ready .any ops listed).contains i&&Region.free .any ops listed i&& !(Ar1 i z)&&(zT (ops.size<=z)|| Region.waitsFor .any ops z i)&&Iz ops z s (listed.setIfInBounds i zW)| .f i s,listed=>Region.ready .any ops listed==[i]&&(!(Ar1 i z)|| (match s with | .e=>zW | _=>zU))&&Iz ops z s (listed.setIfInBounds i zW)| .b i s j s',listed=>Region.ready .any ops listed==[i,j]&& !(Ar1 i z)&& !(Ar1 j z)&&Iz ops z s (listed.setIfInBounds i zW)&&Iz ops z s' (listed.setIfInBounds j zW)
def Sch.len:Sch->Nat | .e=>0 | .q _ s=>s.len+1 | .f _ s=>s.len+1 | .b _ s _ _=>s.len+1
def Sch.even:Sch->Bool | .e=>zW | .q _ s=>s.even | .f _ s=>s.even | .b _ s _ s'=>s.even&&s'.even&&s.len==s'.len
def II{z:Nat}{all:List Oper}{i:Nat}{fr:Fr}{a:Act}{next:Fr->Aa->Prop}(c:At fr a) (k:Z_ w0 w) (h:TM P S z w0.heap all i fr w.heap next)(n:∀f a' e,At f a'->Z_ w0 e->(i≠z->yU w0 S e)->next f e.heap->N a' e):wpOp P all.toArray Q i N a w:=by
 unfold TM at h;split at h;{exact h.elim};rename_i o p;have l:all.toArray[i]?=zY o:=by simpa using p
 split at h;{exact h.elim};rename_i q;have d:Region.wanted o (yielded all.toArray a.tmps)=zW:=by simp[Region.wanted,q]
 unfold wpOp;rw[l];dsimp only;rw[H_ d];split at h;{rename_i r;refine .inl (Oper.wp_mono ?_ (Cn c h _));rintro a' e ⟨v,rfl,b,g⟩;rw[Bk]at g;exact n _ _ _ (c.put o.dst v) (k.trans b) (λm=>absurd (lX r) m) g};refine .inl (Oper.wp_mono ?_ (Cn c h _));rintro a' e ⟨v,rfl,b,j,g⟩;rw[Bk]at g;exact n _ _ _ (c.put o.dst v) (k.trans b) (λ_=>⟨k.trans b,j⟩) g
def EE{P:w_}{S:Nat->Prop}{z:Nat}{w0:y_}{all:List Oper}{Q:Exit->Act->y_->Prop}(hs:Region.noSelect all.toArray=zW)
  (C:∀c a w,¬Q (.panic c) a w):∀(l:Sch) (d:Array Bool) (fr:Fr) (a:Act) (w:y_) (K:Fr->Aa->Prop),At fr a->(l= .e->Z_ w0 w)->(l≠ .e->yU w0 S w)->
  (∀m a' g,At m a'->Z_ w0 g->K m g.heap->Q .normal a' g)->Iz all.toArray z l d=zW->l.even=zW->
  S7 P S z w0.heap all l fr w.heap K->OV P all.toArray Q (yU w0 S) z l.len d a w
 | .e,d,fr,a,w,K,hat,J,_,hq,hB,_,h=>⟨by simpa [Iz]using hB,hq fr a w hat (J rfl) h⟩
 | .q i s,d,fr,a,w,K,hat,_,p,hq,hB,hev,h=>by
   have p:=p zZ;simp only[Iz,o_,wX,yL,wD]at hB;obtain⟨⟨⟨⟨y,t⟩,L⟩,D⟩,n⟩:=hB;rw[AdU]at h;split at h
   ·exact h.elim
   ·rename_i o W;have E:all.toArray[i]?=zY o:=by simpa using W
    split at h
    ·exact h.elim
    ·rename_i X;have A:Region.wanted o (yielded all.toArray a.tmps)=zW:=by simp[Region.wanted,X]
     split at h
     ·have⟨v,Y,r⟩:=CJ h;rw[Bk]at r;refine RU (v:=v) E (Region.noSelect_spec hs) (λc a' g Z=>(C _ _ _ Z).elim) (pD L) ?_ s.len d a w (Region.free_spec E t) (by simpa using y)
       (.inl ⟨A,λg M=>?_⟩) p ?_
      ·intro oz B;rcases D with D | D
       ·rw[rB D]at B;cases B
       ·have⟨oj,N,e,J,hb,O⟩:=Region.waitsFor_spec D;have:oj=oz:=Option.some.inj (N.symm.trans B);subst this;exact⟨e,J,hb,O⟩
      ·rw[hat.evalF];exact Y g λk r=>(M.2 k r).trans (p.2 k r).symm
      ·exact EE hs C s _ _ _ w K (hat.put o.dst v) (λ_=>p.1) (λ_=>p) hq n hev r
     ·exact h.elim
 | .f i s,d,fr,a,w,K,hat,_,p,hq,hB,hev,h=>by
   have u:=p zZ;simp only[Iz,o_,wX,wD,beq_iff_eq]at hB;obtain⟨⟨y,t⟩,n⟩:=hB;refine⟨(λF=>by rw[y]at F;cases F),λj V=>?_⟩;rw[y]at V;obtain rfl:j=i:=by simpa using V
   refine II hat u.1 h λm a' g G H x I=>⟨x,EE hs C s _ _ _ g K G (λ_=>H) (λR=>x λT=>?_) hq n hev I⟩;rcases t with t | t
   ·exact pD t T
   ·cases s<;>first | exact R rfl | cases t
 | .b i s j s',d,fr,a,w,K,hat,_,p,hq,hB,hev,h=>by
   have u:=p zZ;simp only[Iz,o_,wD,beq_iff_eq]at hB;obtain⟨⟨⟨⟨y,t⟩,L⟩,n⟩,U⟩:=hB;simp only[Sch.even,o_,beq_iff_eq]at hev;obtain⟨⟨e1,e2⟩,e3⟩:=hev;refine⟨(λF=>by rw[y]at F;cases F),λk r=>?_⟩;rw[y]at r;rcases J'.1 r with rfl | r
   ·exact II hat u.1 h.1 λm a' g G H x I=>⟨x,EE hs C s _ _ _ g K G (λ_=>H) (λ_=>x (pD t)) hq n e1 I⟩
   ·obtain rfl:k=j:=by simpa using r
    rw[e3];exact II hat u.1 h.2 λm a' g G H x I=>⟨x,EE hs C s' _ _ _ g K G (λ_=>H) (λ_=>x (pD L)) hq U e2 I⟩
section
variable{l:List Oper}{fr:Fr}{K:Fr->Aa->Prop}
def Ap.held(S:Nat->Prop)(z:Nat)(b:Sch)(e:P.follows .mixedOrders=zW)(c:(Region.noSelect l.toArray&&(b.len==l.length)&&b.even&&Iz l.toArray z b (Aq6 l.length zU))=zW)(h:S7 P S z H l b fr H K):Ap P l fr H K:=by refine⟨?_⟩;intro id Q a w d f g j;subst f;simp only[o_,beq_iff_eq]at c;refine wp_region_any e (OX (S:=yU w S) (z:=z) _ _ _ _ ?_);have:=EE (P:=P) (S:=S) (z:=z) (w0:=w) (Q:=Q) c.1.1.1 g b (Aq6 l.length zU) fr a {w with drawn:=w.drawn+1} K d (λ_=>⟨rfl,rfl,rfl⟩) (λ_=>⟨⟨rfl,rfl,rfl⟩,A_.refl _ _⟩) j c.2 c.1.2 h;rw[c.1.1.2]at this;simpa using this
def Ap.tail(z:Nat)(a:Sch)(b:P.follows .mixedOrders=zW)(c:(Region.noSelect l.toArray&&(a.len==l.length)&&a.even&&Iz l.toArray z a (Aq6 l.length zU))=zW)(h:S7 P (λ_=>True) z H l a fr H K):Ap P l fr H K:=Ap.held _ z a b c h
def Ap.out(h:Ap P l fr H K):∀(id:Nat) (Q:Exit->Act->y_->Prop) (a:Act) (w:y_),At fr a->w.heap=H->(∀c a w,¬Q (.panic c) a w)->(∀b a' d,At b a'->Z_ w d->K b d.heap->Q .normal a' d)->(Code.region id l.toArray zW).wp P Q a w:=by exact h.out_
end
def Gm(w0:y_)(Q:Exit->Fr->Aa->Prop):Exit->Act->y_->Prop | .panic _,_,_=>False | .outgrown,_,_=>False | e,a,w=>∃fr,At fr a/\Z_ w0 w/\Q e fr w.heap
def P0(X:List (Nat×(Fr->Aa->Prop)))(id:Nat)(fr:Fr)(H:Aa):Prop:=match X with
 | []=>False
 | (j,k)::X=>match Ar1 j id with
   | true=>k fr H
   | false=>P0 X id fr H
def Qx(kn:Fr->Aa->Prop)(X:List (Nat×(Fr->Aa->Prop)))(kr:Fr->Aa->Prop)(e:Exit)(fr:Fr)(H:Aa):Prop:=match e with
 | .normal=>kn fr H
 | .exit id=>P0 X id fr H
 | .ret=>kr fr H
 | _=>False
structure AD(P:w_)(c:Code)(fr:Fr)(H:Aa)(X:List (Nat×(Fr->Aa->Prop)))(kr:Fr->Aa->Prop):Prop where
 in_::
 out_:∀(a:Act) (w:y_),At fr a->w.heap=H->(Code.loop c).wp P (Gm w (Qx (λ_ _=>False) X kr)) a w
def Kb:Code->Bool | .ret | .exit _ | .goto _=>zU | .seq a b=>Kb a&&Kb b | .cond _ a b=>Kb a|| Kb b | _=>zW
def Hp(id:Nat):Code->Nat
 | .exit j=>match Ar1 j id with
   | true=>1
   | false=>0
 | .seq a b=>Hp id a+Hp id b
 | .cond _ a b=>Hp id a+Hp id b
 | .block _ c=>Hp id c
 | .loop c=>Hp id c
 | _=>0
def LA:Code->Bool | .seq _ b=>LA b | .cond _ a b=>Kb a&&Kb b | .block id (.loop c)=>Nat.blt 1 (Hp id c)| .block id c=>(Kb c&&Nat.blt 0 (Hp id c))|| Nat.blt 1 (Hp id c)|| LA c | _=>zU
structure AC(P:w_)(x y:Code)(fr:Fr)(H:Aa)(kn:Fr->Aa->Prop)(X:List (Nat×(Fr->Aa->Prop)))(kr:Fr->Aa->Prop):Prop where
 in_::
 out_:∀(a:Act) (w:y_),At fr a->w.heap=H->(Code.seq x y).wp P (Gm w (Qx kn X kr)) a w
def vc(P:w_)(c:Code):Fr->Aa->(Fr->Aa->Prop)->List (Nat×(Fr->Aa->Prop))->(Fr->Aa->Prop)->Prop:=Code.rec (motive:=λ_=>Fr->Aa->(Fr->Aa->Prop)->List (Nat×(Fr->Aa->Prop))->(Fr->Aa->Prop)->Prop)
  (λfr H kn _ _=>kn fr H)
  (λ_ ops draw fr H kn _ _=>match draw with
   | false=>KQ P zU (λ_=>True) ops.toList ops.toList fr H kn
   | true=>Ap P ops.toList fr H kn)
  (λa b iha ihb fr H kn X kr=>match LA a with
   | true=>AC P a b fr H kn X kr
   | false=>iha fr H (λfr' H'=>ihb fr' H' kn X kr) X kr)
  (λc _ _ ihx ihy fr H kn X kr=>match c with
   | .tmp t=>yJ fr t λv=>match v with
     | .bool b=>Av b (xS fr t (.bool zW) λfr1=>ihx fr1 H kn X kr) (xS fr t (.bool zU) λfr1=>ihy fr1 H kn X kr)
     | _=>False
   | .const (.bool b)=>Av b (ihx fr H kn X kr) (ihy fr H kn X kr)
   | _=>False)
  (λid _ ih fr H kn X kr=>ih fr H kn ((id,kn)::X) kr)
  (λc _ fr H _ X kr=>AD P c fr H X kr)
  (λ_ _ _ _ _ _ _ _ _ _ _=>False)
  (λid fr H _ X _=>P0 X id fr H)
  (λ_ _ _ _ _ _ _=>False)
  (λ_ _ _ _ _ _=>False)
  (λ_ _ _ _ _ _=>False)
  (λfr H _ _ kr=>kr fr H)
  (λ_ _ _ _ _ _=>False) c
section
variable(P:w_)(a b:Code)(fr:Fr)(H:Aa)(kn:Fr->Aa->Prop)(X:List (Nat×(Fr->Aa->Prop)))(kr:Fr->Aa->Prop)
def Yx(id:Nat)(a:Array Oper)(b:Bool):vc P (.region id a b) fr H kn X kr=(match b with | false=>KQ P zU (λ_=>True) a.toList a.toList fr H kn | true=>Ap P a.toList fr H kn):=rfl
def AkB:vc P (.seq a b) fr H kn X kr=(match LA a with | true=>AC P a b fr H kn X kr | false=>vc P a fr H (λc H'=>vc P b c H' kn X kr) X kr):=rfl
def AgA(c:z_):vc P (.cond c a b) fr H kn X kr=(match c with
   | .tmp t=>yJ fr t λv=>match v with
     | .bool x=>Av x (xS fr t (.bool zW) λd=>vc P a d H kn X kr) (xS fr t (.bool zU) λd=>vc P b d H kn X kr)
     | _=>False
   | .const (.bool x)=>Av x (vc P a fr H kn X kr) (vc P b fr H kn X kr)
   | _=>False):=rfl
def bY(id:Nat):vc P (.block id a) fr H kn X kr=vc P a fr H kn ((id,kn)::X) kr:=rfl
end
variable{X:List (Nat×(Fr->Aa->Prop))}{kr kn:Fr->Aa->Prop}
def AD.out{fr:Fr}(h:AD P c fr H X kr):∀(a:Act) (w:y_),At fr a->w.heap=H->(Code.loop c).wp P (Gm w (Qx (λ_ _=>False) X kr)) a w:=by exact h.out_
def AC.out{x y:Code}{fr:Fr}(h:AC P x y fr H kn X kr):∀(a:Act) (w:y_),At fr a->w.heap=H->(Code.seq x y).wp P (Gm w (Qx kn X kr)) a w:=by exact h.out_
def Gm.env{c:y_}{Q:Exit->Fr->Aa->Prop}(b:Z_ w0 c):∀{e:Exit} {a:Act} {w:y_},Gm c Q e a w->Gm w0 Q e a w | .normal,_,_,⟨fr,h1,h2,h3⟩ | .exit _,_,_,⟨fr,h1,h2,h3⟩ | .goto _,_,_,⟨fr,h1,h2,h3⟩ | .ret,_,_,⟨fr,h1,h2,h3⟩=>⟨fr,h1,b.trans h2,h3⟩
variable{Q':Exit->Fr->Aa->Prop}
def Gm.mono{Q:Exit->Fr->Aa->Prop}(b:∀e fr H,Q e fr H->Q' e fr H):∀{e:Exit} {a:Act} {w:y_},Gm w0 Q e a w->Gm w0 Q' e a w | .normal,_,_,⟨fr,h1,h2,h3⟩ | .exit _,_,_,⟨fr,h1,h2,h3⟩ | .goto _,_,_,⟨fr,h1,h2,h3⟩ | .ret,_,_,⟨fr,h1,h2,h3⟩=>⟨fr,h1,h2,b _ _ _ h3⟩
def OC{x y:Code}{d:Fr->Aa->Prop}{a:Act}(g:x.wp P (Gm w (Qx d X kr)) a w)(j:∀fr a' b,At fr a'->Z_ w b->d fr b.heap->y.wp P (Gm b (Qx kn X kr)) a' b):(Code.seq x y).wp P (Gm w (Qx kn X kr)) a w:=by refine wp_seq (Code.wp_mono ?_ g);intro e a' b h;cases e with|normal=>have⟨fr,k,f,m⟩:=h;exact Code.wp_mono (λe a w h=>Gm.env f h) (j fr a' b k f m)|exit id=>exact h|goto l=>exact h|ret=>exact h|panic c=>exact h|outgrown=>exact h
def Cv{P:w_}:∀(c:Code) (fr:Fr) (kn:Fr->Aa->Prop) (X:List (Nat×(Fr->Aa->Prop))) (kr:Fr->Aa->Prop) (a:Act) (w:y_),At fr a->
  vc P c fr w.heap kn X kr->c.wp P (Gm w (Qx kn X kr)) a w
 | .skip,fr,kn,X,kr,a,w,hat,h=>wp_skip ⟨fr,hat,Z_.refl w,h⟩
 | .region id ops draw,fr,kn,X,kr,a,w,hat,h=>by
   rw[Yx]at h;cases draw with
   | false=>
     have:=AgB (P:=P) (id:=id) (l:=ops.toList) (Q:=Gm w (Qx kn X kr)) hat (λd a' m g k f=>⟨d,g,k,f⟩) h;simpa using this
   | true=>
     have:=h.out id (Gm w (Qx kn X kr)) a w hat rfl (λ_ _ _ h=>h) (λd a' m g k f=>⟨d,g,k,f⟩);simpa using this
 | .seq x y,fr,kn,X,kr,a,w,hat,h=>by
   rw[AkB]at h;split at h
   ·exact h.out a w hat rfl
   ·exact OC (Cv x fr _ X kr a w hat h) λd a' m g _ f=>Cv y d kn X kr a' m g f
 | .cond c x y,fr,kn,X,kr,a,w,hat,h=>by
   rw[AgA]at h;split at h
   ·rename_i t;rw[Dm]at h;split at h
    ·rename_i b p;have hs:fr.set t (.bool b)=fr:=DS p (by simp[undef]);have q:a.eval (.tmp t)= .bool b:=by rw[hat.eval];exact p
     cases b<;>simp only[Av,EX,hs]at h
     ·exact wp_cond_false q (Cv y fr kn X kr a w hat h)
     ·exact wp_cond_true q (Cv x fr kn X kr a w hat h)
    ·exact h.elim
   ·rename_i b;cases b<;>simp only[Av]at h
    ·exact wp_cond_false rfl (Cv y fr kn X kr a w hat h)
    ·exact wp_cond_true rfl (Cv x fr kn X kr a w hat h)
   ·exact h.elim
 | .block id c,fr,kn,X,kr,a,w,hat,h=>by
   rw[bY]at h;refine wp_block (Code.wp_mono ?_ (Cv c fr kn _ kr a w hat h));intro e a' m h;cases e with
   | exit n=>
     have⟨d,g,k,f⟩:=h;simp only[Qx,P0]at f;simp only[Exit.inBlock];split at f
     ·rename_i j;have:=lX j;rw[H_ this.symm];exact⟨d,g,k,f⟩
     ·rename_i j;have:id≠n:=pD j;rw[G_ (Ne.symm this)];exact⟨d,g,k,f⟩
   | normal=>exact h
   | goto l=>exact h
   | ret=>exact h
   | panic c=>exact h
   | outgrown=>exact h
 | .loop c,fr,kn,X,kr,a,w,hat,h=>Code.wp_mono (λe a w=>Gm.mono λe fr H r=>by
   cases e<;>first | exact r | exact r.elim) (h.out a w hat rfl)
 | .exit id,fr,kn,X,kr,a,w,hat,h=>wp_exit ⟨fr,hat,Z_.refl w,h⟩
 | .ret,fr,kn,X,kr,a,w,hat,h=>wp_ret ⟨fr,hat,Z_.refl w,h⟩
 | .rangeFunc ..,_,_,_,_,_,_,_,h=>h.elim
 | .scope _,_,_,_,_,_,_,_,h=>h.elim
 | .label _,_,_,_,_,_,_,_,h=>h.elim
 | .goto _,_,_,_,_,_,_,_,h=>h.elim
 | .refuse _,_,_,_,_,_,_,_,h=>h.elim
noncomputable def R8{R:Type}(fr:Fr)(ts:List Nat):(List v_->R)->R:=AqM (motive:=λ_=>(List v_->R)->R) (λK=>K []) (λt _ ih K=>yJ fr t λv=>ih λvs=>K (v::vs)) ts
noncomputable def VG{R:Type}(fr:Fr)(ts:List Nat)(vs:List v_)(K:Fr->R):R:=AqM (motive:=λ_=>List v_->Fr->R) (λ_ fr=>K fr) (λt _ ih vs fr=>List.casesOn vs (K fr) λv vs=>xS fr t v λfr'=>ih vs fr') ts vs fr
noncomputable def Hw{R:Type}(f:Nat->v_)(fr:Fr)(ts:List Nat)(K:Fr->R):R:=AqM (motive:=λ_=>Fr->R) (λfr=>K fr) (λt _ ih fr=>xS fr t (f t) λfr'=>ih fr') ts fr
def oS(fr:Fr):List Nat->List v_->Fr | t::ts,v::vs=>oS (fr.set t v) ts vs | _,_=>fr
def F8(f:Nat->v_)(fr:Fr):List Nat->Fr | []=>fr | t::ts=>F8 f (fr.set t (f t)) ts
def Gf{R:Type}(fr:Fr):∀(ts:List Nat) (K:List v_->R),R8 fr ts K=K (ts.map (rd fr))| [],_=>rfl | t::ts,K=>by show yJ fr t (λv=>R8 fr ts λvs=>K (v::vs))=_;simp only[Dm,Gf fr ts,xY]
def Jx{R:Type}:∀(ts:List Nat) (vs:List v_) (fr:Fr) (K:Fr->R),VG fr ts vs K=K (oS fr ts vs)| [],vs,fr,K=>by cases vs<;>rfl | _::_,[],_,_=>rfl | t::ts,v::vs,fr,K=>by show xS fr t v (λa=>VG a ts vs K)=_;simp only[EX,oS];exact Jx ts vs _ K
def CE{R:Type}(f:Nat->v_):∀(ts:List Nat) (fr:Fr) (K:Fr->R),Hw f fr ts K=K (F8 f fr ts)| [],_,_=>rfl | t::ts,fr,K=>by show xS fr t (f t) (λa=>Hw f a ts K)=_;simp only[EX,F8];exact CE f ts _ K
def L7(f:Nat->v_):∀(ts:List Nat) (fr:Fr) (i:Nat),(F8 f fr ts)[i]?=if i∈ts/\i<fr.length then zY (f i)else fr[i]?
 | [],fr,i=>by simp[F8]
 | t::ts,fr,i=>by
   simp only[F8,L7 f ts,wM,J',vD];by_cases c:i∈ts<;>by_cases b:i<fr.length<;>by_cases a:t=i
   all_goals simp[c,b,a]
   all_goals first | (subst a;simp[b];done) | (rw[G_ (by omega)];done) | (have:¬i=t:=λh=>a h.symm;simp[this];done) | skip
def KI(f:Nat->v_):∀(ts:List Nat) (fr:Fr),(F8 f fr ts).length=fr.length | [],_=>rfl | t::ts,fr=>by simp only[F8,KI f ts,wM]
def Dh{ws:List Nat}{fr a:Fr}(h:F8 (λ_=>undef) a ws=F8 (λ_=>undef) fr ws):F8 (rd a) fr ws=a:=by
 have d:a.length=fr.length:=by have:=congrArg List.length h;simpa [KI]using this
 apply wR;intro i;rw[L7];have b:=congrArg (λl:List v_=>l[i]?) h;simp only[L7,d]at b;by_cases c:i∈ws/\i<fr.length;{rw[H_ c];simp[rd,zH (d ▸ c.2)]};rw[G_ c]at b ⊢;rw[G_ c]at b;exact b.symm
def Hf:∀(ts:List Nat) (fr:Fr),oS fr ts (ts.map (rd fr))=fr
 | [],_=>rfl
 | t::ts,fr=>by
   have hs:fr.set t (rd fr t)=fr:=by
    unfold rd;rcases nN t fr.length with a | a
    ·rw[yV,zH a];exact fV a
    ·exact List.set_eq_of_length_le a
   simp only[xY,oS,hs];exact Hf ts fr
def JH(ws:List Nat)(fr fr':Fr)(p:Prop):Prop:=Hw (λ_=>undef) fr' ws λa=>Hw (λ_=>undef) fr ws λb=>a=b/\p
def M9(J:Nat->Act->y_->Prop)(g:∀n a w,J n a w->c.wp P (Exit.then (λa' j=>∃q,q<n/\J q a' j) Q) a w):∀n a w,J n a w->(Code.loop c).wp P Q a w:=by intro A B w0 C b k r;have t:∀n a w,J n a w->∃e a' j,Q e a' j/\Arrives P (lone (b.at a (.code c:: .inLoop c::k)) r w) b k r e a' j:=by{intro n;induction n using Nat.strongRecOn with|_ n ih=>intro a w D;have⟨e,m,p,f,d⟩:=g n a w D b (.inLoop c::k) r;cases e;(case normal=>have⟨q,u,y⟩:=f;have⟨E,F,G,z,h⟩:=ih q u m p y;exact⟨E,F,G,z,.of_steps (Steps.trans d (.one step_inLoop)) h⟩);(case' exit id=>skip);(case' goto l=>skip);(case' panic H=>skip);all_goals exact⟨_,m,p,f,.pass (x:=.inLoop c) rfl (λ_ _=>.inl zZ) d⟩};have⟨e,a',j,f,d⟩:=t A B w0 C;exact⟨e,a',j,f,.of_steps (.one step_loop) d⟩
def Qr:List Oper->List Nat->List Nat | [],acc=>acc | o::l,acc=>match o.dst with | some d=>d::Qr l acc | none=>Qr l acc
def HQ:Code->List Nat->List Nat | .region _ ops _,acc=>Qr ops.toList acc | .seq a b,acc=>HQ a (HQ b acc)| .cond _ a b,acc=>HQ a (HQ b acc)| .block _ c,acc=>HQ c acc | .loop c,acc=>HQ c acc | .scope c,acc=>HQ c acc | _,acc=>acc
def AD.mk{fr:Fr}{α:Type}(ts:List Nat)(enc:α->List v_)(I:α->Aa->Prop)(m:α->Aa->Nat)(h0:R8 fr ts λvs=>∃x,vs=enc x/\I x H)(G:∀(x:α) (H1:Aa) (k:Nat->v_),I x H1->Hw k fr (HQ c []) λt=>VG t ts (enc x) λf=> vc P c f H1 (λd H'=>JH (HQ c []) fr d (R8 d ts λvs=>∃y,vs=enc y/\I y H'/\m y H'<m x H1)) X kr):AD P c fr H X kr:=by generalize HQ c []=ws at G;refine⟨?_⟩;intro a w u L;subst L;have p:=h0;rw[Gf]at p;have⟨M,z,A⟩:=p;let J (n:Nat) (a':Act) (w':y_):Prop:=∃d x,At d a'/\Z_ w w'/\F8 (λ_=>undef) d ws=F8 (λ_=>undef) fr ws/\ts.map (rd d)=enc x/\I x w'.heap/\m x w'.heap=n;refine M9 J ?_ _ a w ⟨fr,M,u,Z_.refl w,rfl,z,A,rfl⟩;rintro n a1 K ⟨f,N,q,b,B,C,D,rfl⟩;have h:=G N K.heap (rd f) D;rw[CE,Jx,Dh B,<-C,Hf ts f]at h;refine Code.wp_mono ?_ (Cv c f _ X kr a1 K q h);intro e a2 O g;cases e with|normal=>have⟨fr2,r,j,g⟩:=g;simp only[Qx,JH,CE,Gf]at g;have⟨E,y,Q,F,R⟩:=g;exact⟨m y O.heap,R,fr2,y,r,b.trans j,E,Q,F,rfl⟩|exit id=>exact Gm.env b g|goto l=>exact Gm.env b g|ret=>exact Gm.env b g|panic c=>exact g|outgrown=>exact g
def AC.run{x y:Code}{fr:Fr}(h:vc P x fr H (λb H'=>vc P y b H' kn X kr) X kr):AC P x y fr H kn X kr:=by refine⟨?_⟩;intro a w c d;subst d;exact OC (Cv x fr _ X kr a w c h) λb a' e f _ g=>Cv y b kn X kr a' e f g
def AC.cut{x y:Code}{fr:Fr}{α:Type}(ts:List Nat)(enc:α->List v_)(I:α->Aa->Prop)(h:vc P x fr H (λc H'=>JH (HQ x []) fr c (R8 c ts λvs=>∃y,vs=enc y/\I y H')) X kr)(k:∀(z:α) (H1:Aa) (d:Nat->v_),I z H1->Hw d fr (HQ x []) λe=>VG e ts (enc z) λb=>vc P y b H1 kn X kr):AC P x y fr H kn X kr:=by generalize HQ x []=ws at h k;refine⟨?_⟩;intro a w f l;subst l;refine OC (Cv x fr _ X kr a w f h) λb a1 g m _ j=>?_;simp only[JH,CE,Gf]at j;have⟨n,z,p,q⟩:=j;have h:=k z g.heap (rd b) q;rw[CE,Jx,Dh n,<-p,Hf ts b]at h;exact Cv y b kn X kr a1 g m h
def uK(P:w_)(t:x_)(p:v_)(H:Aa)(K:v_->Prop):Prop:=match p with
 | .pointer (zY a)=>A8 P (Instr.loadAt t (.pointer (zY a))) (λ_=>True) H K
 | _=>False
def RA(P:w_)(rs:List ResultVar)(fr:Fr)(H:Aa)(R:v_->Aa->Prop):Prop:=match rs with
 | [.tmp t]=>yJ fr t λv=>R v H
 | []=>R (.tuple #[]) H
 | [.tmp t,.tmp u]=>yJ fr t λv=>yJ fr u λx=>R (.tuple #[v,x]) H
 | [.tmp t,.tmp u,.tmp y]=>yJ fr t λv=>yJ fr u λx=>yJ fr y λz=>R (.tuple #[v,x,z]) H
 | [.cell a t]=>yJ fr a λp=>uK P t p H λv=>R v H
 | [.cell a t,.tmp u]=>yJ fr a λp=>uK P t p H λv=>yJ fr u λx=>R (.tuple #[v,x]) H
 | [.tmp u,.cell a t]=>yJ fr a λp=>uK P t p H λv=>yJ fr u λx=>R (.tuple #[x,v]) H
 | [.cell a t,.cell b u]=>yJ fr a λp=>uK P t p H λv=>yJ fr b λq=>uK P u q H λx=>R (.tuple #[v,x]) H
 | _=>False
def Fq{p:v_}(h:uK P t p w.heap K):∃a v,p= .pointer (zY a)/\(loadVar t a).run P w= .ok v w/\K v:=by unfold uK at h;split at h;{rename_i a;have⟨v,c,k⟩:=h.out;have b:=c w (A_.refl _ _);simp[Instr.loadAt,Instr.sureAddr]at b;exact⟨a,v,rfl,b,k⟩};exact h.elim
def O4{fn:Func}{fr:Fr}{a:Act}(g:At fr a)(h:RA P fn.results.toList fr w.heap R):∃v,(results fn a.tmps).run P w= .ok v w/\R v w.heap:=by have c:∀t,a.tmps.getD t undef=rd fr t:=λt=>g.eval (.tmp t);have mk:∀l:List ResultVar,fn.results.toList=l->fn.results=l.toArray:=λl m=>AqJ (by simpa using m);unfold RA at h;split at h<;>rename_i hr<;>(try simp only[Dm]at h)<;>have b:=mk _ hr;{exact⟨_,by simp[results,b,c],h⟩};{exact⟨_,by simp[results,b],h⟩};{exact⟨_,by simp[results,b,c],h⟩};{exact⟨_,by simp[results,b,c],h⟩};{have⟨p,v,e,f,d⟩:=Fq h;exact⟨v,by simp[results,b,c,e,asAddr,f],d⟩};{have⟨p,v,e,f,d⟩:=Fq h;exact⟨_,by simp[results,b,c,e,asAddr,f],d⟩};{have⟨p,v,e,f,d⟩:=Fq h;exact⟨_,by simp[results,b,c,e,asAddr,f],d⟩};have⟨p,v,e,f,d⟩:=Fq h;have⟨n,q,j,k,d⟩:=Fq d;exact⟨_,by simp[results,b,c,e,j,asAddr,f,k],d⟩
noncomputable def Oi{R:Type}(l:Fr):(Fr->R)->R:=AqM (motive:=λ_=>(Fr->R)->R) (λK=>K []) (λv _ ih K=>ih λl'=>K (v::l')) l
def I7{R:Type}:∀(l:Fr) (K:Fr->R),Oi l K=K l | [],_=>rfl | v::l,K=>by show Oi l (λa=>K (v::a))=_;exact I7 l _
def Am.of_vc{fn:Func}{a:Array v_}(q:P.funcs[f]?=zY fn)(r:fn.body=zY c)(j:∀w:y_,(callFunc f a).run P w= .ok (.enter f a) w)(h:Oi (a.toList++AlW (fn.ntmps-a.size) undef) λfr=>vc P c fr H (λk H'=>RA P fn.results.toList k H' R) [] (λk H'=>RA P fn.results.toList k H' R)):Am P f a H R:=by intro w t;subst t;refine⟨j w,?_⟩;refine calls_of_wp q r ?_;rw[I7]at h;have n:At (a.toList++AlW (fn.ntmps-a.size) undef) {tmps:=a++Aq6 (fn.ntmps-a.size) undef,defers:=[]}:=⟨zZ,rfl⟩;refine Code.wp_mono ?_ (Cv c _ _ _ _ _ w n h);intro e a' m b;have fin:∀fr,At fr a'->Z_ w m->RA P fn.results.toList fr m.heap R->a'.defers=[]/\∃v,(results fn a'.tmps).run P m= .ok v m/\∃p,Ending.returned v= .returned p/\Z_ w m/\R p m.heap:=by{intro fr g b d;have⟨v,u,x⟩:=O4 g d;exact⟨g.defers,v,u,v,rfl,b,x⟩};cases e with|normal=>have⟨fr,g,b,d⟩:=b;exact fin fr g b d|ret=>have⟨fr,g,b,d⟩:=b;exact fin fr g b d|exit id=>have⟨fr,g,b,d⟩:=b;exact d.elim|goto l=>have⟨fr,g,b,d⟩:=b;exact d.elim|panic c=>exact b.elim|outgrown=>exact b.elim
structure SlT(P:w_)(t e:x_)(sz by_:Nat)(z:v_):Prop where
 under:P.underlying t=zY (.slice e)
 info:∃i,P.info? e=zY i/\i.size=sz/\i.bytes=by_/\i.zero=zY z
 zsz:z.cells.size=sz
class CellT (P:w_) (t:x_):Prop where
 under:∃d,P.underlying t=zY d/\d.isRow=zU
 size:(P.info? t).map (·.size)=zY 1
class AggT (P:w_) (t:x_) (n:outParam Nat):Prop where
 under:∃d,P.underlying t=zY d/\d.isRow=zW
 size:(P.info? t).map (·.size)=zY n
class FieldT (P:w_) (s f:Nat) (off ft n:outParam Nat):Prop where
 under:∃fs fd,P.underlying s=zY (.struct fs)/\fs[f]?=zY fd/\fd.offset=off/\fd.type=ft
 size:(P.info? ft).map (·.size)=zY n
 pos:n≠0
structure Qs(P:w_)(t len e sz:Nat):Prop where
 under:P.underlying t=zY (.array len e)
 size:(P.info? e).map (·.size)=zY sz
def cell(H:Aa)(b o:Nat):Option v_:=match H[b]? with
 | some (.cells c _ _)=>c[o]?
 | _=>zV
def AO(H:Aa)(b o:Nat)(cs:List v_):Prop:=∀j v,cs[j]?=zY v->cell H b (o+j)=zY v
def L_(H:Aa)(b:Nat)(e:x_)(l:List v_):Prop:=H[b]?=zY (.cells l.toArray e (0,0))
def F0(w:y_)(b o:Nat):w.cell? ⟨b,o,zV⟩=cell w.heap b o:=by unfold World.cell? cell;cases h:w.heap[b]? with|none=>rfl|some x=>cases x<;>rfl
def MU{o:Nat}(h:H'[b]?=H[b]?):cell H' b o=cell H b o:=by unfold cell;rw[h]
def AO.eq{o:Nat}(a:AO H b o cs)(h:H'[b]?=H[b]?):AO H' b o cs:=λj v c=>by rw[MU h];exact a j v c
def L_.cell(h:L_ H b e l)(o:Nat):YtjbnocjgdmnkoaaGreatDoor.cell H b o=l[o]? :=by unfold YtjbnocjgdmnkoaaGreatDoor.cell;rw[h];simp
def L_.ce{H b e l}(h:L_ H b e l){o}{v:v_}(k:l[o]?=zY v):YtjbnocjgdmnkoaaGreatDoor.cell H b o=zY v:=(h.cell o).trans k
def L_.cellE(h:L_ H b e l){o:Nat}{v:v_}(k:l[o]?=zY v):YtjbnocjgdmnkoaaGreatDoor.cell H b o=zY v:=by rw[h.cell];exact k
def L_.cells(h:L_ H b e l){o:Nat}(a:∀j v,cs[j]?=zY v->l[o+j]?=zY v):AO H b o cs:=λj v c=>by rw[h.cell];exact a j v c
def L_.lt(h:L_ H b e l):b<H.size:=(wW.1 h).1
def L_.eq(h:L_ H b e l)(k:H'[b]?=H[b]?):L_ H' b e l:=k.trans h
def L_.agr(h:L_ H b e l)(k:A_ S H H')(a:S b):L_ H' b e l:=(k b a).trans h
def Y9(h:A_ (λk=>k<n) H H')(b:n<=H.size):n<=H'.size:=by rcases Nat.eq_zero_or_pos n with a | a;{omega};have:=h (n-1) zO;rw[tE (zO:n-1<H.size)]at this;have:=(wW.1 this).1;omega
section
variable{o:Nat}
def R7(a:AO H b o cs)(h:w.heap[b]?=H[b]?):w.rangeAt b o cs:=λj v c=>by
 rw[F0,MU h];exact a j v c
def C_{v:v_} [ht:CellT P t](c:cell H b o=zY v)(e:S b)(k:K v):A8 P (Instr.loadAt t (.pointer (zY ⟨b,o,zV⟩))) S H K:=by
 refine A8.mk v (λw f=>?_) k;have⟨d,g,hd⟩:=ht.under;have h:w.cell? ⟨b,o,zV⟩=zY v:=by rw[F0,MU (f b e)];exact c
 have a:(isAgg t).run P w= .ok zU w:=by{unfold isAgg;rw[Sem.run_bind,run_underlying g w];cases d<;>simp_all};simp[Instr.loadAt,Instr.sureAddr,loadVar,a,load,Sem.run,h]
def lT{v:v_} [ht:CellT P t](a:cell H b o=zY v)(k:K v):A8 P (Instr.loadAt t (.pointer (zY ⟨b,o,zV⟩))) (λ_=>True) H K:=C_ a zA k
def K_ [ht:AggT P t cs.length](a:AO H b o cs)(c:S b)(k:K (.agg cs.toArray)):A8 P (Instr.loadAt t (.pointer (zY ⟨b,o,zV⟩))) S H K:=by refine A8.mk _ (λw e=>?_) k;have⟨d,f,hd⟩:=ht.under;exact run_loadAt_mid w b o t cs d (R7 a (e b c)) f hd ht.size
def lN [ht:AggT P t cs.length](a:AO H b o cs)(k:K (.agg cs.toArray)):A8 P (Instr.loadAt t (.pointer (zY ⟨b,o,zV⟩))) (λ_=>True) H K:=K_ a zA k
end
def ix{sz:Nat}{o:Nat}{i:Int}(a:SlT P t e sz by_ z)(h0:0<=i)(c:i<n)(d:K (.pointer (zY ⟨b,o+i.toNat*sz,zV⟩))):A8 P (Instr.indexAt t (.slice (zY ⟨b,o,zV⟩) n cap) (.int k i)) S H K:=by obtain⟨f,g,hs,_,_⟩:=a.info;refine A8.mk _ (λw _=>?_) d;have h:(⟨b,o,zV⟩:Addr).add (i.toNat*sz)=⟨b,o+i.toNat*sz,zV⟩:=Addr.add_mid _ _ _;simp[Instr.indexAt,asIntOf,run_underlying a.under,h0,c,sizeOf,typeInfo,g,hs,h]
def D7(H:Aa)(o:Obj):A_ (λk=>k<H.size) H (H.push o):=λk a=>by
 rw[nJ,G_ zO]
def Fz(w:y_)(o:Obj):(w.alloc o).heap=w.heap.push o:=rfl
def New(H:Aa)(K:Nat->Aa->Prop)(e:x_)(l:List v_):Prop:=∀b H',b=H.size->H'.size=b+1->L_ H' b e l->A_ (λk=>k<b) H H'->K b H'
def New.go{K:Nat->Aa->Prop}(h:New H K e l):K H.size (H.push (.cells l.toArray e)):=h H.size _ rfl zZ (by unfold L_;simp) (D7 H _)
def BF{v:v_}{K:v_->Aa->Prop}(l:List v_)(a:v.cells=l.toArray)(h:New H (λb H'=>K (J_ b) H') t l):Bu P (Instr.box t v) H K:=by refine Bu.mk λw c=>?_;subst c;exact⟨_,w.alloc (.cells l.toArray t),by simp[Instr.box,newVar,a,newRow],⟨rfl,rfl,rfl⟩,h.go⟩
def Aq{K:v_->Aa->Prop}(z:v_)(l:List v_)(a:(P.info? t).bind (·.zero)=zY z)(e:z.cells=l.toArray)(h:New H (λb H'=>K (J_ b) H') t l):Bu P (Instr.alloc t zW (.tuple #[])) H K:=by refine Bu.mk λw f=>?_;subst f;refine⟨_,w.alloc (.cells l.toArray t),?_,⟨rfl,rfl,rfl⟩,h.go⟩;cases c:P.info? t with|none=>rw[c]at a;cases a|some i=>have d:i.zero=zY z:=by{simpa [c]using a};simp[Instr.alloc,zeroValue,typeInfo,c,d,newVar,e,newRow]
def hK{sz:Nat}{K:v_->Aa->Prop}(a:SlT P t e sz by_ z)(l:List v_)(p:n*sz<=16777216)(h0:0<n*sz)(c:Instr.fill (λi=>zY (i*sz,sz)) ((Array.range (n*sz)).map (z.cells[· % z.cells.size]!)) vs.toList=zY l.toArray)(h:New H (λb H'=>K (.slice (k_ b) n n) H') e l):Bu P (Instr.buildSlice t n vs) H K:=by refine Bu.mk λw d=>?_;subst d;refine⟨_,w.alloc (.cells l.toArray e),?_,⟨rfl,rfl,rfl⟩,h.go⟩;obtain⟨f,g,hs,_,j⟩:=a.info;have k:¬(16777216<n*sz):=zO;have m:¬(n*sz=0):=zO;simp only[Instr.buildSlice,Sem.run_bind,run_underlying a.under,Result.andThen_ok,sizeOf,typeInfo,zeroValue];simp[g,hs,j,k,m,c,newRow]
def mR{sz:Nat}{j:IntKind}{l c:Int}{K:v_->Aa->Prop}(k:SlT P t e sz by_ z)(h0:0<=l)(d:l<=c)(n:(by_:Int)*c<=281474976710656)(f:c<=9223372036854775807)(h:New H (λb H'=>K (.slice (k_ b) l.toNat c.toNat) H') e ((AqP (c.toNat*sz)).map (z.cells[· % z.cells.size]!))):Bu P (Instr.makeSlice t (.int g l) (.int j c)) H K:=by refine Bu.mk λw p=>?_;subst p;have⟨a,q,hs,hby,r⟩:=k.info;have m:=run_make (P:=P) w t e a z k.under q r g j l c h0 d (by rw[hby];exact n) f;have u:madeCells z.cells (c.toNat*a.size)=((AqP (c.toNat*sz)).map (z.cells[· % z.cells.size]!)).toArray:=by{rw[hs];unfold madeCells;apply AqJ;simp};rw[u]at m;exact⟨_,_,m,⟨rfl,rfl,rfl⟩,h.go⟩
def RD(w:y_)(b o:Nat)(v:v_):(w.setCell ⟨b,o,zV⟩ v).heap=w.heap.modify b fun | .cells c d a=>.cells (c.setIfInBounds o v) d a | x=>x:=by unfold World.setCell;simp only[Option.isSome_none,uE,if_false];congr 1
def Mz{o:Nat}(a:L_ w.heap b e l)(v:v_):L_ (w.setCell ⟨b,o,zV⟩ v).heap b e (l.set o v)/\A_ (λk=>k≠b) w.heap (w.setCell ⟨b,o,zV⟩ v).heap/\(w.setCell ⟨b,o,zV⟩ v).heap.size=w.heap.size:=by rw[RD];refine⟨?_,λk c=>?_,zZ⟩;{unfold L_ at a ⊢;rw[sG,H_ rfl,a];simp};rw[sG,G_ (λh=>c h.symm)]
def Hs{o:Nat}(a:L_ w.heap b e l):w.frozen? ⟨b,o,zV⟩=zU:=by unfold World.frozen?;simp only;rw[a];simp
def qW(H:Aa)(K:Aa->Prop)(b:Nat)(e:x_)(l:List v_):Prop:=∀H',L_ H' b e l->A_ (λk=>k≠b) H H'->H'.size=H.size->K H'
def st1{o:Nat}{v:v_}{K:Aa->Prop} [ht:CellT P t](c:L_ H b e l)(g:o<l.length)(j:v.oneCell'=zW)(h:qW H K b e (l.set o v)):BK P (Instr.storeAt t (.pointer (zY ⟨b,o,zV⟩)) v) H K:=by
 refine BK.mk λw k=>?_;subst k;have m:w.cell? ⟨b,o,zV⟩=zY l[o]:=by rw[F0,c.cell];simp[g]
 have⟨n,p,q⟩:=Mz (o:=o) c v;refine⟨_,?_,?_,h _ n p q⟩;{have d:v.cells= #[v]:=by{cases v<;>simp_all [Value.cells,Value.oneCell']};have a:=run_storeCells_cells (P:=P) b o [v] 0 w (by simp[m]) (by simp[Hs c]) (by simpa using j);cases f:P.info? t with|none=>have:=ht.size;simp[f]at this|some i=>have hs:i.size=1:=by{have:=ht.size;simpa [f]using this};simp only[Nat.add_zero]at a;simp[Instr.storeAt,Instr.sureAddr,storeVar,sizeOf,typeInfo,f,d,hs,a,World.setCells]};exact⟨rfl,rfl,rfl⟩
abbrev yO:=@st1
def As(l:List v_)(o:Nat)(cs:List v_):List v_:=l.take o++cs++l.drop (o+cs.length)
def DA{o:Nat}(h:o+cs.length<=l.length):(As l o cs).length=l.length:=by unfold As;simp;omega
def Dp{o:Nat}(h:o+cs.length<=l.length)(j:Nat):(As l o cs)[j]?=if o<=j/\j<o+cs.length then cs[j-o]? else l[j]? :=by unfold As;rw[yP];by_cases a:j<o;{rw[G_ zO,zE (by simp;omega),List.getElem?_take_of_lt a]};rw[y' (by simp;omega)];simp only[vL,rV (zO:o<=l.length)];by_cases b:j<o+cs.length;{rw[H_ zO,zE zO]};rw[G_ zO,y' zO,List.getElem?_drop];congr 1;omega
def Fj{b:Nat}{e:x_}:∀(cs:List v_) (o:Nat) (l:List v_) (w:y_),L_ w.heap b e l->o+cs.length<=l.length->
  L_ (w.setCells b o cs).heap b e (As l o cs)/\A_ (λk=>k≠b) w.heap (w.setCells b o cs).heap/\(w.setCells b o cs).heap.size=w.heap.size/\Z_ w (w.setCells b o cs)
 | [],o,l,w,hb,_=>⟨by simpa [As,World.setCells]using hb,A_.refl _ _,rfl,Z_.refl w⟩
 | v::cs,o,l,w,hb,hl=>by
   simp only[U_]at hl;have⟨f,a,g⟩:=Mz (o:=o) hb v;have⟨m,n,p,c⟩:=Fj cs (o+1) (l.set o v) (w.setCell ⟨b,o,zV⟩ v) f (by simp;omega);refine⟨?_,a.trans n,p.trans g,⟨c.os,c.tape,c.output⟩⟩;have q:As (l.set o v) (o+1) cs=As l o (v::cs):=by
    apply wR;intro j;rw[Dp (by simp;omega),Dp (by simp;omega)];simp only[U_];by_cases h:j=o
    ·subst h;rw[G_ zO,H_ zO];simp[(zO:j<l.length)]
    ·by_cases d:o+1<=j/\j<o+1+cs.length
     ·rw[H_ d,H_ zO];rw[(zO:j-o=(j-(o+1))+1),nI]
     ·rw[G_ d,G_ zO,vD,G_ (λa=>h a.symm)]
   rw[<-q];exact m
def wG{o:Nat}{K:Aa->Prop}(d:(P.info? t).map (·.size)=zY cs.length)(c:L_ H b e l)(f:o+cs.length<=l.length)(g:cs.all (·.oneCell')=zW)(h:qW H K b e (As l o cs)):BK P (Instr.storeAt t (.pointer (zY ⟨b,o,zV⟩)) (.agg cs.toArray)) H K:=by refine BK.mk λw k=>?_;subst k;have a:w.there b o cs.toArray.size:=λj m=>by{simp only[List.size_toArray]at m;refine⟨?_,Hs c⟩;rw[F0,c.cell];simp;omega};have⟨n,p,q,r⟩:=Fj cs o l w c f;refine⟨_,run_storeAt_mid (P:=P) w b o t cs.toArray a (by simpa using d) (by simpa using g),by simpa using r,?_⟩;simpa using h _ n p q
def Sl(H:Aa)(lo:Nat)(e:x_)(sz:Nat)(v:v_)(n:Nat)(cs:List v_):Prop:=cs.length=n*sz/\((v= .slice zV 0 0/\n=0)\/
  ∃b cap l,v= .slice (k_ b) n cap/\lo<=b/\L_ H b e l/\n<=cap/\cap<=maxLen/\l.length=cap*sz/\l.take (n*sz)=cs)
def R_(v:v_)(k:Nat):Prop:=∃o n c,v= .slice (zY ⟨k,o,zV⟩) n c
def Sl.nil(H:Aa)(lo:Nat)(e:x_)(sz:Nat):Sl H lo e sz (.slice zV 0 0) 0 []:=⟨zZ,.inl ⟨rfl,rfl⟩⟩
def Sl.made{sz:Nat}(a:lo<=b)(f:L_ H b e l)(c:n<=cap)(g:cap<=maxLen)(d:l.length=cap*sz):Sl H lo e sz (.slice (k_ b) n cap) n (l.take (n*sz)):=⟨by rw[vL,d,rV (vM _ c)],.inr ⟨b,cap,l,rfl,a,f,c,g,d,rfl⟩⟩
def Sl.agr{sz:Nat}{v:v_}(h:Sl H lo e sz v n cs)(k:A_ S H H')(d:∀b,R_ v b->S b):Sl H' lo e sz v n cs:=by have⟨f,a⟩:=h;refine⟨f,?_⟩;rcases a with a | ⟨b,cap,l,rfl,c,g,r⟩;{exact .inl a};exact .inr ⟨b,cap,l,rfl,c,g.agr k (d b ⟨_,_,_,rfl⟩),r⟩
def Sl.lt{sz:Nat}{v:v_}(h:Sl H lo e sz v n cs)(a:R_ v b):lo<=b/\b<H.size:=by obtain⟨o,g,c,rfl⟩:=a;rcases h.2 with⟨d,_⟩ | ⟨b',cap,l,d,f,a,r⟩;{cases d};cases d;exact⟨f,a.lt⟩
def RP{C ty:x_}{sz:Nat}{K:v_->Aa->Prop}(E:SlT P t e sz by_ z){v x:v_}{news:List v_}(hs:Sl H lo e sz v n cs) (N:lo<=H.size) (hx:∀w:y_,w.heap=H->Src P sz C x m news w) (F:n+m<=maxLen) (hby:(n+m)*by_<=140737488355328)(h:∀D H',Sl H' lo e sz D (n+m) (cs++news)->A_ (λk=>k<H.size/\¬R_ v k) H H'->H.size<=H'.size->(∀k,R_ D k->R_ v k\/H.size<=k)->K D H'):Bu P (Builtin.append_ #[t,C] ty [v,x].toArray) H K:=by
 refine Bu.mk λw hw=>?_;subst hw;have⟨g,O,p,Q,hz⟩:=E.info;have u:=hx w rfl;have a:Src P g.size C x m news w:=by rw[p];exact u
 have A:news.length=m*sz:=u.newsLen;have Z:n+m<=9223372036854775807:=by simp only[maxLen]at F;omega
 have⟨B,R⟩:=hs;have d:(cs++news).length=(n+m)*sz:=by rw[M_,B,A,rF]
 have grow:∀(base:Option Addr) (cap:Nat),v= .slice base n cap->cap<n+m->(Builtin.firstCells g.size n (.slice base n cap)).run P w.drew= .ok cs.toArray w.drew->
   ∃D S,(Builtin.append_ #[t,C] ty [v,x].toArray).run P w= .ok D S/\Z_ w S/\K D S.heap:=by
  intro base cap y G hold;subst y;have T:=run_append_grow_src (P:=P) w t C ty e g z E.under O hz base n cap cs hold x m news a G zO (growslice_fits zO (by rw[Q];exact hby));refine⟨_,_,T,⟨rfl,rfl,rfl⟩,?_⟩;have U:=grownCap_ge w (n+m) cap e;have V:=grownCap_le_maxLen w (n+m) cap e F;have I:L_ (w.drew.alloc (.cells ((cs++news).toArray++Builtin.zeroCells z.cells (grownCap w (n+m) cap e-(n+m))) e)).heap w.heap.size e
    ((cs++news)++(Builtin.zeroCells z.cells (grownCap w (n+m) cap e-(n+m))).toList):=by
   unfold L_;have:(w.drew.alloc (.cells ((cs++news).toArray++Builtin.zeroCells z.cells (grownCap w (n+m) cap e-(n+m))) e)).heap=w.heap.push (.cells ((cs++news).toArray++Builtin.zeroCells z.cells (grownCap w (n+m) cap e-(n+m))) e):=rfl;rw[this];simp
  refine h _ _ ⟨d,.inr ⟨w.heap.size,_,_,rfl,N,I,U,V,?_,?_⟩⟩ ?_ ?_ ?_
  ·rw[M_,d,sH,size_zeroCells,E.zsz,<-rF]
   congr 1;omega
  ·rw[<-d,fY];rfl
  ·intro k q;exact D7 w.heap _ k q.1
  ·show w.heap.size<=(w.heap.push _).size;simp
  ·rintro k ⟨o,n',c,q⟩;cases q;exact .inr (I_ _)
 rcases R with⟨rfl,rfl⟩ | ⟨b,cap,l,rfl,J,M,a8,W,L,r⟩;{have X:cs=[]:=wL (by simpa using B);subst X;by_cases hm:m=0;{subst hm;have hn:news=[]:=wL (by simpa using A);subst hn;refine⟨.slice zV 0 0,w,?_,Z_.refl w,h _ _ (Sl.nil _ _ _ _) (A_.refl _ _) (I_ _) (λk q=>.inl q)⟩;rcases a.kind with⟨e',q⟩ | q<;>simp[Builtin.append_,run_underlying E.under,run_underlying q,sizeOf,typeInfo,O,a.len,a.cells]};exact grow zV 0 rfl zO (by simp[Builtin.firstCells])};by_cases f:n+m<=cap;{have a0:n*sz+news.length<=l.length:=by{rw[A,L,<-rF];exact vM _ f};have T:=run_append_room_src (P:=P) w t C ty e g E.under O b 0 n cap x m news a f (λj hj=>by rw[F0,M.cell];simp[p];omega) (λj hj=>Hs M);have⟨h1,h2,h3,h4⟩:=Fj news (0+n*g.size) l w M (by rw[p];omega);refine⟨_,_,T,h4,h _ _ ⟨d,.inr ⟨b,cap,_,rfl,J,h1,f,W,?_,?_⟩⟩ (h2.mono λk q=>?_) zO ?_⟩;{rw[DA (by rw[p];omega)];exact L};{rw[p,N_];unfold As;rw[r,<-d,fY];rfl};{intro Y;subst Y;exact q.2 ⟨0,n,cap,rfl⟩};rintro k ⟨o,n',c,q⟩;cases q;exact .inl ⟨0,n,cap,rfl⟩};refine grow (k_ b) cap rfl zO ?_;have hc:AO w.heap b 0 cs:=M.cells λj v y=>by{rw[<-r,tP]at y;split at y;{simpa using y};cases y};have:=run_firstCells_some (P:=P) w.drew g.size n ⟨b,0,zV⟩ n cap cs (by rw[p];exact B) (λj v y=>by{rw[Addr.add_mid];have:=R7 (w:=w.drew) (H:=w.heap) hc rfl j v y;exact this});exact this
structure Ty(α:Type) where
 size:Nat
 rep:(Nat->Prop)->Aa->List v_->α->Prop
 len:∀{S H cs x},rep S H cs x->cs.length=size
 frame:∀{S H H' cs x},rep S H cs x->A_ S H H'->rep S H' cs x
 mono:∀{S S' H cs x},rep S H cs x->(∀k,S k->S' k)->rep S' H cs x
def Ty.reps{α:Type}(T:Ty α)(S:Nat->Prop)(H:Aa):List v_->List α->Prop | cs,[]=>cs=[]| cs,x::xs=>∃c r,cs=c++r/\T.rep S H c x/\T.reps S H r xs
def Ty.reps_len{α:Type}{T:Ty α}:∀{xs:List α} {cs:List v_},T.reps S H cs xs->cs.length=xs.length*T.size | [],_,h=>by cases h;simp | x::xs,_,⟨c,r,rfl,h1,h2⟩=>by rw[M_,T.len h1,Ty.reps_len h2,U_,sL];omega
def Ty.reps_frame{α:Type}{T:Ty α}(k:A_ S H H'):∀{xs:List α} {cs:List v_},T.reps S H cs xs->T.reps S H' cs xs | [],_,h=>h | x::xs,_,⟨c,r,e,h1,h2⟩=>⟨c,r,e,T.frame h1 k,Ty.reps_frame k h2⟩
def Ty.reps_mono{α:Type}{T:Ty α}{S':Nat->Prop}(k:∀i,S i->S' i):∀{xs:List α} {cs:List v_},T.reps S H cs xs->T.reps S' H cs xs | [],_,h=>h | x::xs,_,⟨c,r,e,h1,h2⟩=>⟨c,r,e,T.mono h1 k,Ty.reps_mono k h2⟩
def Ty.reps_append{α:Type}{T:Ty α}:∀{xs ys:List α} {cs ds:List v_},T.reps S H cs xs->T.reps S H ds ys->T.reps S H (cs++ds) (xs++ys)| [],_,_,_,h,h'=>by cases h;simpa using h' | x::xs,_,_,_,⟨c,r,e,h1,h2⟩,h'=>⟨c,r++_,by rw[e,yP],h1,Ty.reps_append h2 h'⟩
def Ty.reps_one{α:Type}{T:Ty α}{c:List v_}{x:α}(h:T.rep S H c x):T.reps S H c [x]:=⟨c,[],zZ,h,rfl⟩
def Ty.reps_get{α:Type}{T:Ty α}:∀{xs:List α} {cs:List v_} {i:Nat} {x:α},T.reps S H cs xs->xs[i]?=zY x->∃l c r,cs=l++c++r/\l.length=i*T.size/\T.rep S H c x | x::xs,_,0,y,⟨c,r,e,h1,h2⟩,hx=>by simp at hx;subst hx;exact⟨[],c,r,by simp[e],by simp,h1⟩ | x::xs,_,i+1,y,⟨c,r,e,h1,h2⟩,hx=>by simp at hx;have⟨l,a,b,d,f,g⟩:=Ty.reps_get h2 hx;exact⟨c++l,a,b,by simp[e,d,yP],by rw[M_,T.len h1,f,sL];omega,g⟩
def AO.mid{o:Nat}{c r:List v_}(h:AO H b o (l++c++r)):AO H b (o+l.length) c:=λj v a=>by
 have:=h (l.length+j) v (by
  rw[yP,y' zO,zE (by
   have:=(P_.1 a).1;omega)]
  rw[(zO:l.length+j-l.length=j)];exact a)
 rw[<-rT]at this;exact this
def AO.right{o:Nat}{r:List v_}(h:AO H b o (l++r)):AO H b (o+l.length) r:=by have:=AO.mid (H:=H) (b:=b) (o:=o) (l:=l) (c:=r) (r:=[]) (by simpa using h);simpa using this
def AO.one{o:Nat}{v:v_}(h:AO H b o [v]):cell H b o=zY v:=by have:=h 0 v rfl;simpa using this
def zC(k:IntKind)(x:Int):Prop:=k.min<=x/\x<=k.max
def Dc(k:IntKind):Ty Int where
 size:=1
 rep _ _ cs x:=cs=[.int k x]/\zC k x
 len h:=by rw[h.1];rfl
 frame h _:=h
 mono h _:=h
def Cu:Ty Bool where
 size:=1
 rep _ _ cs x:=cs=[.bool x]
 len h:=by rw[h];rfl
 frame h _:=h
 mono h _:=h
def lM:Ty ByteArray where
 size:=1
 rep _ _ cs x:=cs=[.string x]/\x.size<=maxLen
 len h:=by rw[h.1];rfl
 frame h _:=h
 mono h _:=h
section
variable{α:Type}
def c_(T:Ty α)(S:Nat->Prop)(H:Aa)(a:Option Addr)(cap:Nat)(xs:List α):Prop:=match a with
 | none=>xs=[]/\cap=0
 | some ad=>xs.length<=cap/\cap<=maxLen/\(cap=0\/ad.spot=zV/\S ad.block/\∃ec,AO H ad.block ad.off ec/\T.reps S H ec xs)
def c_.intro{T:Ty α}{o:Nat}{xs:List α}{ec:List v_}(a:S b)(c:xs.length<=cap)(d:cap<=maxLen)(e:AO H b o ec)(f:T.reps S H ec xs):c_ T S H (zY ⟨b,o,zV⟩) cap xs:=⟨c,d,.inr ⟨rfl,a,ec,e,f⟩⟩
def c_.frame{T:Ty α}{xs:List α}(h:c_ T S H a cap xs)(k:A_ S H H'):c_ T S H' a cap xs:=by cases a with|none=>exact h|some m=>obtain⟨b,c,e | ⟨f,d,g,j,l⟩⟩:=h;{exact⟨b,c,.inl e⟩};exact⟨b,c,.inr ⟨f,d,g,j.eq (k _ d),Ty.reps_frame k l⟩⟩
def c_.mono{T:Ty α}{S':Nat->Prop}{xs:List α}(h:c_ T S H a cap xs)(k:∀i,S i->S' i):c_ T S' H a cap xs:=by cases a with|none=>exact h|some m=>obtain⟨b,c,d | ⟨e,f,g,j,l⟩⟩:=h;{exact⟨b,c,.inl d⟩};exact⟨b,c,.inr ⟨e,k _ f,g,j,Ty.reps_mono k l⟩⟩
def c_.le{T:Ty α}{xs:List α}(h:c_ T S H a cap xs):xs.length<=cap/\cap<=maxLen:=by cases a with|none=>obtain⟨rfl,rfl⟩:=h;simp|some b=>exact⟨h.1,h.2.1⟩
def xR(T:Ty α):Ty (List α) where
 size:=1
 rep S H cs xs:=∃a cap,cs=[.slice a xs.length cap]/\c_ T S H a cap xs
 len:=by rintro S H cs x ⟨a,cap,rfl,_⟩;rfl
 frame:=by rintro S H H' cs x ⟨a,cap,e,h⟩ k;exact⟨a,cap,e,h.frame k⟩
 mono:=by rintro S S' H cs x ⟨a,cap,e,h⟩ k;exact⟨a,cap,e,h.mono k⟩
def c_.get{T:Ty α}{i:Nat}{xs:List α}{x:α}(h:c_ T S H a cap xs)(d:xs[i]?=zY x):∃b o c,a=zY ⟨b,o,zV⟩/\S b/\AO H b (o+i*T.size) c/\T.rep S H c x:=by cases a with|none=>obtain⟨rfl,_⟩:=h;simp at d|some e=>have⟨b,o,n⟩:=e;obtain⟨p,q,t | ⟨rfl,f,u,g,j⟩⟩:=h;{have:=(P_.1 d).1;omega};obtain⟨l,c,r,rfl,k,m⟩:=Ty.reps_get j d;exact⟨b,o,c,rfl,f,by rw[<-k];exact g.mid,m⟩
def zP{T:Ty α}{t e:Nat}{i:Nat}{j:Int}{xs:List α}{x:α}(f:SlT P t e T.size by_ z) (h:c_ T S H a cap xs) (d:xs[i]?=zY x) (g:j=(i:Int))(l:∀b o c,S b->AO H b o c->T.rep S H c x->K (.pointer (zY ⟨b,o,zV⟩))):A8 P (Instr.indexAt t (.slice a xs.length cap) (.int k j)) B H K:=by obtain⟨b,o,c,rfl,m,n,p⟩:=h.get d;subst g;have q:=(P_.1 d).1;exact ix f zO zO (by simpa using l b _ c m n p)
end
def fa{s f off d o:Nat} [ht:FieldT P s f off d n](k:K (.pointer (zY ⟨b,o+off,zV⟩))):A8 P (Instr.fieldAt s (.pointer (zY ⟨b,o,zV⟩)) f) S H K:=by obtain⟨fs,a,e,g,rfl,rfl⟩:=ht.under;refine A8.mk _ (λw _=>?_) k;cases c:P.info? a.type with|none=>have:=ht.size;simp[c]at this|some i=>have hs:i.size=n:=by{have:=ht.size;simpa [c]using this};have h:=ht.pos;have j:(⟨b,o,zV⟩:Addr).add a.offset=⟨b,o+a.offset,zV⟩:=Addr.add_mid _ _ _;simp[Instr.fieldAt,run_underlying e,g,Instr.sureAddr,fieldPlace,sizeOf,typeInfo,c,hs,h,j]
abbrev E_:=@fa
def yX{t len e sz o:Nat}{i:Int}(a:Qs P t len e sz)(h0:0<=i)(f:i<len)(g:K (.pointer (zY ⟨b,o+i.toNat*sz,zV⟩))):A8 P (Instr.indexAt t (.pointer (zY ⟨b,o,zV⟩)) (.int k i)) S H K:=by refine A8.mk _ (λw _=>?_) g;cases c:P.info? e with|none=>have:=a.size;simp[c]at this|some d=>have hs:d.size=sz:=by{have:=a.size;simpa [c]using this};have h:(⟨b,o,zV⟩:Addr).add (i.toNat*sz)=⟨b,o+i.toNat*sz,zV⟩:=Addr.add_mid _ _ _;simp[Instr.indexAt,asIntOf,run_underlying a.under,Instr.sureAddr,h0,f,sizeOf,typeInfo,c,hs,h]
section
variable{t off:Nat}{cs:Array v_}
def PX{v:v_} [ht:CellT P t](b:cs[off]?=zY v)(w:y_):(part t cs off).run P w= .ok v w:=by have⟨d,c,hd⟩:=ht.under;have a:(isAgg t).run P w= .ok zU w:=by{unfold isAgg;rw[Sem.run_bind,run_underlying c w];cases d<;>simp_all};simp[part,a,b]
def PY [ht:AggT P t n](w:y_):(part t cs off).run P w= .ok (.agg (cs.extract off (off+n))) w:=by have⟨d,c,hd⟩:=ht.under;have a:(isAgg t).run P w= .ok zW w:=by{unfold isAgg;rw[Sem.run_bind,run_underlying c w];cases d<;>simp_all};cases b:P.info? t with|none=>have:=ht.size;simp[b]at this|some i=>have hs:i.size=n:=by{have:=ht.size;simpa [b]using this};simp[part,a,sizeOf,typeInfo,b,hs]
end
section
variable{s f off a:Nat}{cs:Array v_}
def QV{v:v_} [ht:FieldT P s f off a n] [hc:CellT P a](b:cs[off]?=zY v)(k:K v):A8 P (Instr.field s (.agg cs) f) S H K:=by obtain⟨fs,e,c,d,rfl,rfl⟩:=ht.under;refine A8.mk _ (λw _=>?_) k;simp[Instr.field,run_underlying c,d,asAgg,PX b]
def jD [ht:FieldT P s f off a n] [hc:AggT P a n](k:K (.agg (cs.extract off (off+n)))):A8 P (Instr.field s (.agg cs) f) S H K:=by obtain⟨fs,d,b,c,rfl,rfl⟩:=ht.under;refine A8.mk _ (λw _=>?_) k;simp[Instr.field,run_underlying b,c,asAgg,PY]
end
def oD{t len e sz:Nat}{i:Int}{cs:Array v_}{v:v_}(a:Qs P t len e sz) [hc:CellT P e](h0:0<=i)(d:i<len)(f:cs[i.toNat*sz]?=zY v) (g:K v):A8 P (Instr.index t (.agg cs) (.int k i)) S H K:=by refine A8.mk _ (λw _=>?_) g;cases b:P.info? e with|none=>have:=a.size;simp[b]at this|some c=>have hs:c.size=sz:=by{have:=a.size;simpa [b]using this};simp[Instr.index,asIntOf,run_underlying a.under,h0,d,sizeOf,typeInfo,b,hs,PX f]
def Em{t len e sz:Nat}(b:Qs P t len e sz)(z:v_)(c:(P.info? t).bind (·.zero)=zY z)(l:List v_)(h:Instr.fill (λi=>zY (i*sz,sz)) z.cells vs.toList=zY l.toArray) (k:K (.agg l.toArray)):A8 P (Instr.build t vs) S H K:=by refine A8.mk _ (λw _=>?_) k;cases d:P.info? e with|none=>have:=b.size;simp[d]at this|some f=>{have hs:f.size=sz:=by{have:=b.size;simpa [d]using this};cases a:P.info? t with|none=>rw[a]at c;cases c|some j=>have g:j.zero=zY z:=by{simpa [a]using c};simp[Instr.build,zeroValue,typeInfo,a,g,run_underlying b.under,sizeOf,d,hs,h]}
def Ad{t:Nat}{fs:Array Field}(m:P.underlying t=zY (.struct fs))(b:fs.toList.all (λf=>(P.info? f.type).isSome)=zW)(z:v_) (c:(P.info? t).bind (·.zero)=zY z) (l:List v_)(n:Instr.fill (λi=>(fs.toList.map λf=>(f.offset,P.cellsOf f.type))[i]?) z.cells vs.toList=zY l.toArray) (k:K (.agg l.toArray)):A8 P (Instr.build t vs) S H K:=by refine A8.mk _ (λw _=>?_) k;cases a:P.info? t with|none=>rw[a]at c;cases c|some p=>{have d:p.zero=zY z:=by{simpa [a]using c};have q:∀(l:List Field),l.all (λf=>(P.info? f.type).isSome)=zW->(l.mapM λf=>(do pure (f.offset,<-sizeOf f.type):Sem (Nat×Nat))).run P w= .ok (l.map λf=>(f.offset,P.cellsOf f.type)) w:=by{intro l;induction l with|nil=>intro _;simp|cons f l r=>intro h;simp only[List.all_cons,o_]at h;have⟨u,x⟩:=lV.1 h.1;have e:(sizeOf f.type).run P w= .ok (P.cellsOf f.type) w:=by{simp[sizeOf,typeInfo,x,Program.cellsOf]};simp only[List.mapM_cons,Sem.run_bind,e,Result.andThen_ok,Sem.run_pure,r h.2,xY]};have g:(fs.mapM λf=>(do pure (f.offset,<-sizeOf f.type):Sem (Nat×Nat))).run P w= .ok (fs.toList.map λf=>(f.offset,P.cellsOf f.type)).toArray w:=by{rw[Array.mapM_eq_mapM_toList];rw[show(List.toArray <$> fs.toList.mapM λf=>(do pure (f.offset,<-sizeOf f.type):Sem (Nat×Nat)))=(do let l <-fs.toList.mapM λf=>(do pure (f.offset,<-sizeOf f.type):Sem (Nat×Nat));pure l.toArray)from rfl];rw[Sem.run_bind,q _ b];simp};have j:(zeroValue t).run P w= .ok z w:=by{simp[zeroValue,typeInfo,a,d]};simp only[Instr.build,Sem.run_bind,j,Result.andThen_ok,run_underlying m];rw[g];simp only[Result.andThen_ok,List.getElem?_toArray,n,Sem.run_pure]}
def EV{j:IntKind}{l c:Int}{K:v_->Aa->Prop}(m:SlT P t e 1 by_ z)(q:z.oneCell'=zW)(h0:0<=l)(d:l<=c)(n:(by_:Int)*c<=281474976710656)(f:c<=9223372036854775807)(h:New H (λb H'=>K (.slice (k_ b) l.toNat c.toNat) H') e (AlW c.toNat z)):Bu P (Instr.makeSlice t (.int j l) (.int k c)) H K:=by
 refine mR m h0 d n f ?_;have g:z.cells= #[z]:=by cases z<;>simp_all [Value.cells,Value.oneCell']
 have p:((AqP (c.toNat*1)).map (z.cells[· % z.cells.size]!))=AlW c.toNat z:=by{rw[g,yW];apply wR;intro i;simp only[I',tR];by_cases a:i<c.toNat;{rw[tD a,H_ a];simp[Nat.mod_one]};rw[yR (by simpa using a),G_ a]<;>rfl};rw[p];exact h
def Jw{x:Int}(h:zC k x):k.wrap x=x:=by have⟨a,b⟩:=h;unfold IntKind.wrap;cases k<;>simp only[IntKind.min,IntKind.max,IntKind.signed,IntKind.bits,if_true,uE,if_false,AqV,As4,AqW]at a b ⊢ <;>simp only[sI,Bool.false_and,yL,uE,if_false,ge_iff_le]<;>(try split)<;>omega
def vU{x:Int}(h0: -9223372036854775808<=x)(a:x<=9223372036854775807):IntKind.wrap .i64 x=x:=Jw ⟨h0,a⟩
def m_{x:Int}(h:-9223372036854775808<=x/\x<=9223372036854775807):IntKind.wrap .i64 x=x:=vU h.1 h.2
def S_(x:Int)(h:-9223372036854775808<=x+1/\x+1<=9223372036854775807):IntKind.wrap .i64 (x+1)=x+1:=vU h.1 h.2
def w8{x:Int}(h0:0<=x)(a:x<=255):IntKind.wrap .u8 x=x:=Jw ⟨h0,a⟩
def EH{x:Nat}(h:zC k (x:Int)):x<2^k.bits:=by obtain⟨_,a⟩:=h;cases k<;>simp only[IntKind.max,IntKind.signed,IntKind.bits,if_true,uE,if_false,AqV,As4,AqW]at a ⊢ <;>omega
def Z0{x y:Nat}(h:zC k (x:Int))(a:y<=x):zC k (y:Int):=by obtain⟨_,b⟩:=h;refine⟨?_,zO⟩;cases k<;>simp only[IntKind.min,IntKind.signed,IntKind.bits,if_true,uE,if_false,AqV,AqW]<;>omega
def JF{x:Nat}(h:x<18446744073709551616):zC .u64 (x:Int):=⟨by simp[IntKind.min,IntKind.signed],by simp[IntKind.max,IntKind.signed,IntKind.bits];omega⟩
def CF{x:Nat}(h:x<9223372036854775808):zC .i64 (x:Int):=by refine⟨?_,by simp[IntKind.max,IntKind.signed,IntKind.bits];omega⟩;have:IntKind.i64.min= -9223372036854775808:=zQ;omega
def I1{x:Nat}(h:x<256):zC .u8 (x:Int):=⟨by simp[IntKind.min,IntKind.signed],by simp[IntKind.max,IntKind.signed,IntKind.bits];omega⟩
def Ik{a:Nat}(c:zC k (a:Int))(d:zC k (b:Int))(e:K (.int k ((a &&& b:Nat):Int))):A8 P (do eqGuard .and t x y (.int k a) (.int k b);binOp .and t (.int k a) (.int k b)) S H K:=by refine A8.mk _ (λw _=>?_) e;have f:(Ar8 k.bits (a:Int) &&& Ar8 k.bits (b:Int)).toNat=a &&& b:=by{simp only[nL,BitVec.toNat_and,qY,vY (EH c),vY (EH d)]};simp[CQ,binOp,Op.intBits,vY (EH c),vY (EH d),Jw (Z0 c (Nat.and_le_left))]
def Aj7{a:Nat}(c:zC k (a:Int))(d:zC k (b:Int)):zC k ((a ||| b:Nat):Int):=by have⟨g,e⟩:=c;have⟨h,f⟩:=d;refine⟨?_,?_⟩;{cases k<;>simp only[IntKind.min,IntKind.signed,IntKind.bits,if_true,uE,if_false,AqV,AqW]<;>omega};cases k<;>simp only[IntKind.max,IntKind.signed,IntKind.bits,if_true,uE,if_false,AqV,AqW]at e f ⊢;{have:=sK (n:=7) (x:=a) (y:=b) zO zO;omega};{have:=sK (n:=15) (x:=a) (y:=b) zO zO;omega};{have:=sK (n:=31) (x:=a) (y:=b) zO zO;omega};{have:=sK (n:=63) (x:=a) (y:=b) zO zO;omega};{have:=sK (n:=8) (x:=a) (y:=b) zO zO;omega};{have:=sK (n:=16) (x:=a) (y:=b) zO zO;omega};{have:=sK (n:=32) (x:=a) (y:=b) zO zO;omega};have:=sK (n:=64) (x:=a) (y:=b) zO zO;omega
def rP{a:Nat}(c:zC k (a:Int))(d:zC k (b:Int))(e:K (.int k ((a ||| b:Nat):Int))):A8 P (do eqGuard .or t x y (.int k a) (.int k b);binOp .or t (.int k a) (.int k b)) S H K:=by refine A8.mk _ (λw _=>?_) e;have f:(Ar8 k.bits (a:Int) ||| Ar8 k.bits (b:Int)).toNat=a ||| b:=by{simp only[nL,BitVec.toNat_or,qY,vY (EH c),vY (EH d)]};simp[CQ,binOp,Op.intBits,vY (EH c),vY (EH d),Jw (Aj7 c d)]
def Lm{c:IntKind}{a:Nat}(d:b<=k.bits)(e:K (.int k ((a / 2^b:Nat):Int))):A8 P (do eqGuard .shr t x y (.int k a) (.int c b);binOp .shr t (.int k a) (.int c b)) S H K:=by refine A8.mk _ (λw _=>?_) e;have f:((a:Int).fdiv (2^b))=((a / 2^b:Nat):Int):=by{rw[Int.fdiv_eq_ediv_of_nonneg _ (by exact_mod_cast V_ _)];push_cast;rfl};have e2:min b k.bits=b:=rV d;have g:¬((b:Int)<0):=zO;simp[CQ,binOp,Op.shift,e2,g,f]
def lP{d:IntKind}{a:Nat}(e:b<=k.bits)(c:zC k ((a*2^b:Nat):Int))(f:K (.int k ((a*2^b:Nat):Int))):A8 P (do eqGuard .shl t x y (.int k a) (.int d b);binOp .shl t (.int k a) (.int d b)) S H K:=by
 refine A8.mk _ (λw _=>?_) f;have e2:min b k.bits=b:=rV e;have g:¬((b:Int)<0):=zO;have h:(a:Int)*2^b=((a*2^b:Nat):Int):=by push_cast;rfl
 simp only[CQ,binOp,Op.shift,Sem.run_bind,Result.andThen_ok,g,if_false,Int.toNat_natCast,e2,h,Jw c,Sem.run_pure]
section
variable{t D:Nat}{a:Array v_}
def O9(e:P.keyTypeAt m t=zW)(q:m<=10000)(f:P.eqGuardType P.depth t=zU)(fa:(Value.agg a).formed P t=zW) (g:(Value.agg bs).formed P t=zW) (h:P.keyLits D t a.toList=zY la) (j:P.keyLits cap t bs.toList=zY lb) {r:Bool} (k:r=zW↔la=lb){op:BinOp} (b:op= .eql\/op= .neq) (x y:z_) (w:y_):(do eqGuard op t x y (.agg a) (.agg bs);binOp op t (.agg a) (.agg bs):Sem v_).run P w= .ok (.bool (if op matches .eql then r else !r)) w:=by
 have⟨l,d,n⟩:=run_equalIn_deep (10000-m) m t e w D cap (.agg a) (.agg bs) la lb fa g h j;rw[(zO:10000-m+m=10000)]at d;have c:l=r:=by rw[Bool.eq_iff_iff,n,k]
 subst c;have p:program.run P w= .ok P w:=rfl;rcases b with rfl | rfl<;>simp[eqGuard,p,f,binOp,Op.equal,Op.maxDepth,d]
def cG(b:P.keyTypeAt m t=zW)(c:m<=10000)(d:P.eqGuardType P.depth t=zU)(fa:(Value.agg a).formed P t=zW) (e:(Value.agg bs).formed P t=zW) (f:P.keyLits D t a.toList=zY la) (g:P.keyLits n t bs.toList=zY lb) {r:Bool} (h:r=zW↔la=lb) (k:K (.bool r)):A8 P (do eqGuard .eql t x y (.agg a) (.agg bs);binOp .eql t (.agg a) (.agg bs)) S H K:=A8.mk _ (λw _=>O9 b c d fa e f g h (.inl rfl) x y w) k
def qS(b:P.keyTypeAt m t=zW)(c:m<=10000)(d:P.eqGuardType P.depth t=zU)(fa:(Value.agg a).formed P t=zW) (e:(Value.agg bs).formed P t=zW) (f:P.keyLits D t a.toList=zY la) (g:P.keyLits n t bs.toList=zY lb) {r:Bool} (h:r=zW↔la=lb) (k:K (.bool (!r))):A8 P (do eqGuard .neq t x y (.agg a) (.agg bs);binOp .neq t (.agg a) (.agg bs)) S H K:=A8.mk _ (λw _=>O9 b c d fa e f g h (.inr rfl) x y w) k
end
def AT(P:w_)(f:FuncId)(args:Array v_)(H:Aa)(v:v_):Prop:=Am P f args H λv' H'=>v'=v/\A_ (λk=>k<H.size) H H'
def F_(H:Aa)(k:Nat):Prop:=k<H.size
def A_.new{q:Nat}(h:A_ (λk=>k<q) H H')(a:q=H.size):A_ (F_ H) H H':=by subst a;exact h
def Ak(h:A_ (F_ H) H H'){k:Nat}(a:F_ H k):k<H'.size:=by have b:=h k a;unfold F_ at a;rw[tE a]at b;exact(wW.1 b).1
def Ay(h:A_ (F_ H) H H'):H.size<=H'.size:=Y9 h (I_ _)
def Ei{a:Array v_}{v:v_}(h:∀H',A_ (F_ H) H H'->AT P f a H' v) (k:K v):JO P f a (F_ H) H K:=JO.mk v (λH' b=>(h H' b).mono λg H'' ⟨e,c⟩=>⟨e,c.mono λk d=>Ak b d⟩) k
def Af{a:Array v_}{K:v_->Aa->Prop}{v:v_}(h:AT P f a H v) (k:∀H',A_ (F_ H) H H'->K v H'):An P f a H K:=An.mk h λc H' ⟨e,b⟩=>by subst e;exact k H' b
section
variable{α:Type}
def h_(T:Ty α)(S:Nat->Prop)(H:Aa)(lo:Nat)(e:x_)(v:v_)(xs:List α):Prop:=∃cs,Sl H lo e T.size v xs.length cs/\T.reps S H cs xs
def h_.nil{T:Ty α}:h_ T S H lo e (.slice zV 0 0) []:=⟨[],Sl.nil _ _ _ _,rfl⟩
def h_.agr{T:Ty α}{S':Nat->Prop}{v:v_}{xs:List α}(h:h_ T S H lo e v xs)(k:A_ S' H H')(a:∀b,R_ v b->S' b)(hs:∀b,S b->S' b):h_ T S H' lo e v xs:=by have⟨c,d,f⟩:=h;exact⟨c,d.agr k a,Ty.reps_frame (k.mono hs) f⟩
def h_.mono{T:Ty α}{S':Nat->Prop}{v:v_}{xs:List α}(h:h_ T S H lo e v xs)(hs:∀b,S b->S' b):h_ T S' H lo e v xs:=by have⟨a,c,d⟩:=h;exact⟨a,c,Ty.reps_mono hs d⟩
def h_.lt{T:Ty α}{v:v_}{xs:List α}(h:h_ T S H lo e v xs)(a:R_ v b):lo<=b/\b<H.size:=by obtain⟨d,c,_⟩:=h;exact c.lt a
def h_.lower{T:Ty α}{v:v_}{xs:List α}{a:Nat}(h:h_ T S H lo e v xs)(k:a<=lo):h_ T S H a e v xs:=by obtain⟨d,⟨f,c⟩,g⟩:=h;refine⟨d,⟨f,?_⟩,g⟩;rcases c with c | ⟨b,cap,l,j,m,r⟩;{exact .inl c};exact .inr ⟨b,cap,l,j,zO,r⟩
def h_.one{T:Ty α}{v:v_}{xs:List α}(h:h_ T S H lo e v xs):v.oneCell'=zW:=by obtain⟨c,⟨d,a⟩,f⟩:=h;rcases a with⟨rfl,_⟩ | ⟨b,cap,l,rfl,r⟩<;>rfl
def h_.len{T:Ty α}{v:v_}{xs:List α}(h:h_ T S H lo e v xs):xs.length<=maxLen:=by obtain⟨c,⟨d,a⟩,f⟩:=h;rcases a with⟨_,a⟩ | ⟨b,cap,l,g,j,k,m,n,r⟩;{omega};omega
def h_.view{T:Ty α}{S':Nat->Prop}{v:v_}{xs:List α}(h:h_ T S H lo e v xs)(g:∀b,R_ v b->S' b)(hs:∀b,S b->S' b):∃a cap,v= .slice a xs.length cap/\c_ T S' H a cap xs/\(∀b,R_ v b↔a.map (·.block)=zY b):=by obtain⟨k,⟨w,d⟩,m⟩:=h;rcases d with⟨rfl,d⟩ | ⟨b,cap,l,rfl,x,p,q,r,y,t⟩;{refine⟨zV,0,by rw[d],⟨wL d,rfl⟩,λb=>⟨?_,λh=>by cases h⟩⟩;rintro⟨o,n,c,h⟩;cases h};refine⟨zY ⟨b,0,zV⟩,cap,rfl,c_.intro (g b ⟨_,_,_,rfl⟩) q r (ec:=k) ?_ (Ty.reps_mono hs m),λb'=>⟨?_,λh=>?_⟩⟩;{refine p.cells λj u f=>?_;rw[<-t,tP]at f;split at f;{simpa using f};cases f};{rintro⟨o,n,c,h⟩;cases h;rfl};cases h;exact⟨0,_,_,rfl⟩
def cS{T:Ty α}{xs:List α}{c:List v_}{i:Nat}{x:α}(h:T.reps S H cs xs)(b:T.rep S H c x)(e:i<xs.length):T.reps S H (As cs (i*T.size) c) (xs.set i x):=by induction xs generalizing cs i with|nil=>simp at e|cons y ys k=>{obtain⟨d,r,rfl,f,g⟩:=h;have j:=T.len f;have a:=T.len b;cases i with|zero=>refine⟨c,r,?_,b,g⟩;unfold As;simp only[Nat.zero_mul,List.take_zero,List.nil_append,N_];rw[a,<-j,List.drop_left]|succ i=>simp only[U_]at e;refine⟨d,As r (i*T.size) c,?_,f,k g zO⟩;have l:(i+1)*T.size=d.length+i*T.size:=by{rw[j,sL];omega};unfold As;rw[l,fU,(zO:d.length+i*T.size+c.length=d.length+(i*T.size+c.length)),List.drop_length_add_append];simp[yP]}
def h_.place{T:Ty α}{v:v_}{xs:List α}{i:Nat}(h:h_ T S H lo e v xs)(z:i<xs.length):∃b cap l k,v= .slice (k_ b) xs.length cap/\lo<=b/\L_ H b e l/\i*T.size+T.size<=l.length/\(∀x,xs[i]?=zY x->∃c,AO H b (i*T.size) c/\T.rep S H c x)/\T.reps S H k xs/\ ∀(H':Aa) (c:List v_) (x:α),L_ H' b e (As l (i*T.size) c)->A_ S H H'->T.rep S H' c x->h_ T S H' lo e v (xs.set i x):=by
 obtain⟨k,⟨f,A⟩,p⟩:=h;rcases A with⟨rfl,A⟩ | ⟨b,cap,l,rfl,B,C,D,I,E,F⟩;{omega};have d:i*T.size+T.size<=xs.length*T.size:=by rw[<-sL];exact vM _ z
 have G:xs.length*T.size<=l.length:=by rw[E];exact vM _ D
 refine⟨b,cap,l,k,rfl,B,C,zO,?_,p,?_⟩;{intro x J;obtain⟨K,c,r,rfl,q,m⟩:=Ty.reps_get p J;refine⟨c,?_,m⟩;rw[<-q];have t:AO H b 0 (K++c++r):=C.cells λj u n=>by{rw[<-F,tP]at n;split at n;{simpa using n};cases n};have:=t.mid;simpa using this};intro H' c x w g m;have a:=T.len m;refine⟨As k (i*T.size) c,⟨?_,.inr ⟨b,cap,_,by rw[wM],B,w,by rw[wM];exact D,I,?_,?_⟩⟩,cS (Ty.reps_frame g p) m z⟩;{rw[DA (by rw[a,f];exact d),f,wM]};{rw[DA (by rw[a];omega),E]};rw[wM];apply wR;intro j;rw[tP];by_cases y:j<xs.length*T.size;{rw[H_ y,Dp (by rw[a];omega),Dp (by rw[a,f];exact d)];split;{rfl};rw[<-F,tP,H_ y]};rw[G_ y,yR];rw[DA (by rw[a,f];exact d),f];omega
def C8{T:Ty α}{t ty e:Nat}{K:v_->Aa->Prop}(p:SlT P t e T.size by_ z){q o:Nat}{v:v_}{xs ys:List α}{ds:List v_}(hs:h_ T S H lo e v xs) (d:lo<=H.size) (r:∀k,S k->k<H.size/\¬R_ v k) (hd:AO H q o ds) (x:T.reps S H ds ys) (y:m=ys.length) (A:∀u∈ds,u.oneCell'=zW)(f:xs.length+ys.length<=maxLen) (hby:(xs.length+ys.length)*by_<=140737488355328)(h:∀b H',h_ T S H' lo e b (xs++ys)->A_ (λk=>k<H.size/\¬R_ v k) H H'->H.size<=H'.size->(∀k,R_ b k->R_ v k\/H.size<=k)->K b H'):Bu P (Builtin.append_ #[t,t] ty [v,.slice (zY ⟨q,o,zV⟩) m cap].toArray) H K:=by have⟨E,g,B⟩:=hs;subst y;refine RP (m:=ys.length) (news:=ds) p g d (λw C=>?_) f hby ?_;{refine Src.ofSlice w p.under ⟨q,o,zV⟩ ys.length cap ds (Ty.reps_len x) (λj u D=>?_) A;rw[Addr.add_mid];subst C;have:=hd j u D;rw[F0];exact this};intro b H' c a l n;refine h b H' ⟨_,by rw[M_];exact c,Ty.reps_append (Ty.reps_frame (a.mono r) B) (Ty.reps_frame (a.mono r) x)⟩ a l n
def I2{T:Ty α}{t e:Nat}{i:Nat}{j:Int}{xs:List α}{x:α}(d:SlT P t e T.size by_ z) (h:c_ T S H a cap xs) (f:n=xs.length) (g:xs[i]?=zY x) (l:j=(i:Int))(m:∀b o c,S b->AO H b o c->T.rep S H c x->K (.pointer (zY ⟨b,o,zV⟩))):A8 P (Instr.indexAt t (.slice a n cap) (.int k j)) B H K:=by subst f;exact zP d h g l m
end
def Ej{α:Type}{T:Ty α}{S:Nat->Prop}{H:Aa}:∀{vs:List v_} {xs:List α},vs.length=xs.length->(∀(i:Nat) (v:v_) (x:α),vs[i]?=zY v->xs[i]?=zY x->T.rep S H [v] x)->T.reps S H vs xs | [],[],_,_=>rfl | v::vs,[],h,_=>by simp at h | [],x::xs,h,_=>by simp at h | v::vs,x::xs,h,k=>⟨[v],vs,rfl,k 0 v x rfl rfl,Ej (by simpa using h) λi a b c d=>k (i+1) a b (by simpa using c) (by simpa using d)⟩
def KF:∀(vs:List v_) (k:Nat) (cells:Array v_) (off:Nat),off+k+vs.length<=cells.size->
  (vs.zipIdx k).foldl (λc (x:v_×Nat)=>c.setIfInBounds (off+x.2) x.1) cells=(As cells.toList (off+k) vs).toArray
 | [],k,cells,off,_=>by apply AqJ;simp[As]
 | v::vs,k,cells,off,h=>by
   simp only[U_]at h;rw[List.zipIdx_cons,List.foldl_cons,KF vs (k+1) _ off (by simp;omega)];apply congrArg;apply wR;intro j;rw[Dp (by simp;omega),Dp (by simp;omega)];simp only[Array.toList_setIfInBounds,U_];by_cases a:off+(k+1)<=j/\j<off+(k+1)+vs.length
   ·rw[H_ a,H_ (by omega),show j-(off+k)=(j-(off+(k+1)))+1 by omega,nI]
   ·rw[G_ a];by_cases b:j=off+k
    ·subst b;rw[H_ (by omega),Nat.sub_self,List.getElem?_cons_zero,xW (by simp;omega)]
    ·rw[G_ (by omega),vD,G_ (λd=>b d.symm)]
def L4{place:Nat->Option (Nat×Nat)}{cells:Array v_}{i:Nat}{v:v_}{rest:List (Nat×v_)}{off size:Nat}(b:place i=zY (off,size))(d:v.cells.size=size)(e:off+size<=cells.size):Instr.fill place cells ((i,v)::rest)=Instr.fill place (As cells.toList off v.cells.toList).toArray rest:=by have c:¬(v.cells.size≠size\/off+v.cells.size>cells.size):=zO;have a:=KF v.cells.toList 0 cells off (by simp;omega);simp only[Nat.add_zero]at a;rw[Instr.fill,b];simp only[wX,yL,c,if_false];congr 1;rw[<-a,<-Array.foldl_toList,Array.toList_zipIdx]
def Az{sz:Nat}{v:v_}{K:v_->Aa->Prop}(d:SlT P t e sz by_ z)(l:List v_)(a:v.cells=l.toArray)(c:l.length=sz)(h0:0<sz)(f:sz<=16777216)(h:New H (λb H'=>K (.slice (k_ b) 1 1) H') e l):Bu P (Instr.buildSlice t 1 [(0,v)].toArray) H K:=by refine hK d l zO zO ?_ h;rw[show([(0,v)].toArray).toList=(0,v)::[]from rfl,L4 (off:=0) (size:=sz) zZ (by rw[a];simpa using c) zZ];rw[Instr.fill,a];congr 1;apply AqJ;simp only[As];simp[c]
structure Tab{α:Type}(T:Ty α)(S:Nat->Prop)(H:Aa)(lo:Nat)(e:x_)(nb:Nat)(te:x_)(vs:List v_)(xs:List (List α)):Prop where
 len:vs.length=xs.length
 blk:L_ H nb te vs
 nlo:nb<lo
 own:∀(i:Nat) (v:v_) (x:List α),vs[i]?=zY v->xs[i]?=zY x->h_ T S H lo e v x
 apart:∀(i j:Nat) (v w:v_) (k:Nat),i≠j->vs[i]?=zY v->vs[j]?=zY w->R_ v k->¬R_ w k
section
variable{α:Type}{T:Ty α}
def Tab.agr{S':Nat->Prop}{H1:Aa}{nb:Nat}{te:x_}{vs:List v_}{xs:List (List α)}(h:Tab T S H lo e nb te vs xs)(k:A_ S' H H1)(g:S' nb)(a:∀b,lo<=b->b<H.size->S' b)(hs:∀b,S b->S' b):Tab T S H1 lo e nb te vs xs:=⟨h.len,h.blk.agr k g,h.nlo,λi v x c d=>(h.own i v x c d).agr k (λb f=>a b ((h.own i v x c d).lt f).1 ((h.own i v x c d).lt f).2) hs,h.apart⟩
def Tab.new{nb:Nat}{te:x_}(f:L_ H nb te (AlW n (.slice zV 0 0)))(b:nb<lo):Tab T S H lo e nb te (AlW n (.slice zV 0 0)) (AlW n []):=by refine⟨zZ,f,b,λi v x a d=>?_,λi j v w k g a p l=>?_⟩;{rw[tR]at a d;split at a;{rename_i m;rw[H_ m]at d;cases a;cases d;exact h_.nil};cases a};rw[tR]at a;split at a;{cases a;have⟨o,n,c,h⟩:=l;cases h};cases a
def Tab.get{nb:Nat}{te:x_}{vs:List v_}{xs:List (List α)}(h:Tab T S H lo e nb te vs xs){i:Nat}(a:i<xs.length):∃v x,vs[i]?=zY v/\xs[i]?=zY x/\h_ T S H lo e v x:=by
 have b:i<vs.length:=by rw[h.len];exact a
 exact⟨vs[i],xs[i],zH b,zH a,h.own i _ _ (zH b) (zH a)⟩
def Tab.push{H1:Aa}{nb:Nat}{te:x_}{vs:List v_}{xs:List (List α)}(h:Tab T S H lo e nb te vs xs){t:Nat}{v m:v_}{G:List α}(D:vs[t]?=zY v)(l:h_ T S H1 lo e m G)(J:A_ (λk=>k<H.size/\¬R_ v k) H H1)(g:∀k,R_ m k->R_ v k\/H.size<=k) (c:L_ H0 nb te (vs.set t m)) (q:A_ (λk=>k≠nb) H1 H0) (A:∀k,S k->k<H.size/\¬R_ v k/\k≠nb):Tab T S H0 lo e nb te (vs.set t m) (xs.set t G):=by have B:t<vs.length:=(P_.1 D).1;refine⟨by simp[h.len],c,h.nlo,λi w x a C=>?_,λi j u w k r y a n f=>?_⟩;{by_cases d:i=t;{subst d;rw[xW B]at a;rw[xW (by rw[<-h.len];exact B)]at C;cases a;cases C;exact l.agr q (λb c=>by have:=(l.lt c).1;have:=h.nlo;omega) (λb c=>(A b c).2.2)};rw[xX (Ne.symm d)]at a C;have p:=h.own i w x a C;have K:h_ T S H1 lo e w x:=p.agr J (λb c=>⟨(p.lt c).2,λE=>h.apart i t w v b d a D c E⟩) (λb c=>⟨(A b c).1,(A b c).2.1⟩);exact K.agr q (λb c=>by have:=(p.lt c).1;have:=h.nlo;omega) (λb c=>(A b c).2.2)};have old:∀(i:Nat) (w:v_),i≠t->(vs.set t m)[i]?=zY w->R_ w k->¬R_ m k:=by{intro i w I a n f;rw[xX (Ne.symm I)]at a;rcases g k f with p | p;{exact h.apart i t w v k I a D n p};have F:i<xs.length:=by{rw[<-h.len];exact(P_.1 a).1};have:=((h.own i w _ a (zH F)).lt n).2;omega};by_cases d:i=t;{subst d;rw[xW B]at y;cases y;exact old j w (Ne.symm r) a f n};by_cases z:j=t;{subst z;rw[xW B]at a;cases a;exact old i u d y n f};rw[xX (Ne.symm d)]at y;rw[xX (Ne.symm z)]at a;exact h.apart i j u w k r y a n f
def Tab.view{S':Nat->Prop}{nb:Nat}{te:x_}{vs:List v_}{xs:List (List α)}(h:Tab T S H lo e nb te vs xs)(g:n=xs.length)(l:n<=maxLen)(d:∀k,nb<=k->k<H.size->S' k) (hs:∀k,S k->S' k):c_ (xR T) S' H (k_ nb) n xs:=by subst g;refine c_.intro (d nb (I_ _) h.blk.lt) (I_ _) l (h.blk.cells (cs:=vs) (λj v b=>by simpa using b)) (Ej h.len λi v x b m=>?_);have hd:=h.own i v x b m;obtain⟨p,a,rfl,c,-⟩:=hd.view (S':=S') (λk f=>d k (by have:=(hd.lt f).1;have:=h.nlo;omega) (hd.lt f).2) hs;exact⟨p,a,rfl,c⟩
end
def mQ{t e sz:Nat}(b:SlT P t e sz by_ z)(h0:0<=h)(c:h<=cap)(d:K (.slice a h.toNat cap)):A8 P (Instr.sliceAt t (.slice a n cap) zV (zY (.int k h)) zV) S H K:=by
 obtain⟨f,g,hs,_,_⟩:=b.info;refine A8.mk _ (λw _=>?_) d;have j:(a.map λx=>x.add 0)=a:=by cases a<;>rfl
 simp[Instr.sliceAt,Instr.slice,run_underlying b.under,Instr.sliceBounds,Instr.sliceBound,asIntOf,h0,c,sizeOf,typeInfo,g,j]
def h_.pop{α:Type}{T:Ty α}{xs:List α}{x:α}(h:h_ T S H lo e (.slice a n cap) (xs++[x])):h_ T S H lo e (.slice a xs.length cap) xs:=by obtain⟨d,⟨g,f⟩,p⟩:=h;have split:∀(xs:List α) (d:List v_),T.reps S H d (xs++[x])->T.reps S H (d.take (xs.length*T.size)) xs:=by{intro xs;induction xs with|nil=>intro d _;simp[Ty.reps]|cons y ys q=>rintro d ⟨c,r,rfl,j,t⟩;refine⟨c,r.take (ys.length*T.size),?_,j,q r t⟩;have:=T.len j;rw[U_,sL,Nat.add_comm,<-this,fU]};rcases f with⟨f,u⟩ | ⟨b,k,l,f,w,z,A,B,C,m⟩;{simp at u};cases f;simp only[M_,g_]at A m g;refine⟨d.take (xs.length*T.size),⟨?_,.inr ⟨b,cap,l,rfl,w,z,zO,B,C,?_⟩⟩,split xs d p⟩;{rw[vL,g,rV (vM _ zO)]};rw[<-m,List.take_take,rV (vM _ zO)]
def Ty.Ones{α:Type}(T:Ty α):Prop:=∀S H cs x,T.rep S H cs x->∀u∈cs,u.oneCell'=zW
def Ty.Ones.reps{α:Type}{T:Ty α}(h:T.Ones):∀{cs:List v_} {xs:List α},T.reps S H cs xs->∀u∈cs,u.oneCell'=zW:=by intro cs xs;induction xs generalizing cs with|nil=>intro b u a;simp only[Ty.reps]at b;subst b;cases a|cons x xs d=>{rintro⟨c,r,rfl,e,b⟩ u a;rcases n_.1 a with a | a;{exact h S H c x e u a};exact d b u a}
def Yl:∀(k:IntKind),(Dc k).Ones:=by rintro k S H b x ⟨rfl,_⟩ u a;cases Q_.1 a;rfl
def V0:Cu.Ones:=by rintro S H b x rfl u a;cases Q_.1 a;rfl
def OU{α:Type}{T:Ty α}{t ty e:Nat}{K:v_->Aa->Prop}(r:SlT P t e T.size by_ z)(x:T.Ones){v:v_}{xs ys:List α}(hs:h_ T S H lo e v xs) (d:lo<=H.size) (y:∀k,S k->k<H.size/\¬R_ v k) (D:c_ T S H a cap ys)(f:xs.length+ys.length<=maxLen) (hby:(xs.length+ys.length)*by_<=140737488355328)(h:∀g H',h_ T S H' lo e g (xs++ys)->A_ (λk=>k<H.size/\¬R_ v k) H H'->H.size<=H'.size->(∀k,R_ g k->R_ v k\/H.size<=k)->K g H'):Bu P (Builtin.append_ #[t,t] ty [v,.slice a ys.length cap].toArray) H K:=by cases a with|some F=>have⟨q,o,J⟩:=F;obtain⟨L,M,N | ⟨rfl,O,Q,G,E⟩⟩:=D;{obtain rfl:ys=[]:=wL zO;have⟨A,l,B⟩:=hs;refine RP (m:=0) (news:=[]) r l d (λw I=>Src.ofSlice w r.under _ 0 cap [] zZ (λj u C=>by simp at C) (λu C=>by cases C)) (by simpa using f) (by simpa using hby) ?_;intro g H' c b n p;refine h g H' ⟨A,by simpa using c,?_⟩ b n p;rw[xZ];exact Ty.reps_frame (b.mono y) B};exact C8 r hs d y G E rfl (x.reps E) f hby h|none=>obtain⟨rfl,rfl⟩:=D;have⟨A,l,B⟩:=hs;refine RP (m:=0) (news:=[]) r l d (λw I=>Src.ofNil w r.under 0) (by simpa using f) (by simpa using hby) ?_;intro g H' c b n p;refine h g H' ⟨A,by simpa using c,?_⟩ b n p;rw[xZ];exact Ty.reps_frame (b.mono y) B
def Ty.Free{α:Type}(T:Ty α):Prop:=∀S S' H H' cs x,T.rep S H cs x->T.rep S' H' cs x
def Yk(k:IntKind):(Dc k).Free:=λS S' H H' a x h=>h
def Vz:Cu.Free:=λS S' H H' a x h=>h
def Ty.Free.reps{α:Type}{T:Ty α}(h:T.Free){S':Nat->Prop}:∀{cs:List v_} {xs:List α},T.reps S H cs xs->T.reps S' H' cs xs:=by intro cs xs;induction xs generalizing cs with|nil=>exact λa=>a|cons x xs b=>rintro⟨c,r,e,d,a⟩;exact⟨c,r,e,h S S' H H' c x d,b a⟩
def h_.free{α:Type}{T:Ty α}(a:T.Free){S':Nat->Prop}{v:v_}{xs:List α}(h:h_ T S H lo e v xs):h_ T S' H lo e v xs:=by have⟨b,c,d⟩:=h;exact⟨b,c,a.reps d⟩
def My(h:P.underlying t=zY (.pointer e))(p:Option Addr)(w:y_):(Op.equal t (.pointer p) (.pointer zV)).run P w= .ok p.isNone w:=by have:∀d:Nat,(Op.equalIn (d+1) t (.pointer p) (.pointer zV)).run P w= .ok p.isNone w:=λd=>by{cases p<;>simp[Op.equalIn,run_underlying h]};exact this 9999
def cC{p:Option Addr}(h:P.underlying t=zY (.pointer e))(k:K (.bool p.isNone)):A8 P (do eqGuard .eql t x y (.pointer p) (.pointer zV);binOp .eql t (.pointer p) (.pointer zV)) S H K:=by refine A8.mk _ (λw _=>?_) k;simp[eqGuard,binOp,My h]
def oK{p:Option Addr}(h:P.underlying t=zY (.pointer e))(k:K (.bool (!p.isNone))):A8 P (do eqGuard .neq t x y (.pointer p) (.pointer zV);binOp .neq t (.pointer p) (.pointer zV)) S H K:=by refine A8.mk _ (λw _=>?_) k;simp[eqGuard,binOp,My h]
def Pi(h:P.underlying t=zY (.pointer e))(k:K (.bool zW)):A8 P (do eqGuard .eql t x y (.pointer zV) (.pointer zV);binOp .eql t (.pointer zV) (.pointer zV)) S H K:=cC h k
def Oo{a:Addr}(h:P.underlying t=zY (.pointer e))(k:K (.bool zU)):A8 P (do eqGuard .eql t x y (.pointer (zY a)) (.pointer zV);binOp .eql t (.pointer (zY a)) (.pointer zV)) S H K:=cC h k
def Te(h:P.underlying t=zY (.pointer e))(k:K (.bool zU)):A8 P (do eqGuard .neq t x y (.pointer zV) (.pointer zV);binOp .neq t (.pointer zV) (.pointer zV)) S H K:=oK h k
def PO{a:Addr}(h:P.underlying t=zY (.pointer e))(k:K (.bool zW)):A8 P (do eqGuard .neq t x y (.pointer (zY a)) (.pointer zV);binOp .neq t (.pointer (zY a)) (.pointer zV)) S H K:=oK h k
def Mw(h:P.underlying t=zY .bool)(a b:Bool)(w:y_):(Op.equal t (.bool a) (.bool b)).run P w= .ok (a==b) w:=by
 have:∀d:Nat,(Op.equalIn (d+1) t (.bool a) (.bool b)).run P w= .ok (a==b) w:=λd=>by simp[Op.equalIn,run_underlying h]
 exact this 9999
def AkW{a b:Bool}(h:P.underlying t=zY .bool)(k:K (.bool (a==b))):A8 P (do eqGuard .eql t x y (.bool a) (.bool b);binOp .eql t (.bool a) (.bool b)) S H K:=by refine A8.mk _ (λw _=>?_) k;simp[eqGuard,binOp,Mw h]
def AhX{a b:Bool}(h:P.underlying t=zY .bool)(k:K (.bool (!(a==b)))):A8 P (do eqGuard .neq t x y (.bool a) (.bool b);binOp .neq t (.bool a) (.bool b)) S H K:=by refine A8.mk _ (λw _=>?_) k;simp[eqGuard,binOp,Mw h]
def En{s:ByteArray}{i:Nat}{j:Int}{b:UInt8}(h:P.underlying t=zY .string)(c:j=(i:Int))(d:s.data[i]?=zY b)(e:K (.int .u8 (b.toNat:Int))):A8 P (Instr.index t (.string s) (.int k j)) S H K:=by subst c;have a:s[i]?=zY b:=by{have⟨f,g⟩:=wW.1 d;have l:i<s.size:=f;rw[getElem?_pos s i l];exact congrArg zY g};refine A8.mk _ (λw _=>?_) e;simp[Instr.index,asIntOf,run_underlying h,a]
def h_.ofBlk{α:Type}{T:Ty α}{xs:List α}(a:lo<=b)(f:L_ H b e l)(c:T.reps S H l xs)(g:n=xs.length)(h:n<=maxLen):h_ T S H lo e (.slice (k_ b) n n) xs:=by subst g;have d:=Ty.reps_len c;refine⟨l,?_,c⟩;have:=Sl.made (sz:=T.size) (n:=xs.length) (cap:=xs.length) a f (I_ _) h d;rwa [<-d,List.take_length]at this
def IB{S:Nat->Prop}{H:Aa}{α:Type}{T:Ty α}{c:List v_}{v:α}(h:T.rep S H c v):∀n,T.reps S H (AlW n c).flatten (AlW n v)| 0=>rfl | n+1=>⟨c,_,rfl,h,IB h n⟩
def XB(z:Array v_)(n:Nat):(AqP (n*z.size)).map (z[· % z.size]!)=(AlW n z.toList).flatten:=by induction n with|zero=>simp|succ n b=>rw[sL,List.range_add,List.map_append,b,List.replicate_succ',List.flatten_append];congr 1;simp only[List.flatten_cons,List.flatten_nil,xZ,List.map_map];apply wR;intro i;by_cases a:i<z.size;{rw[I',tD a];simp only[Option.map_some,Function.comp,Array.getElem?_toList];have:(n*z.size+i) % z.size=i:=by{rw[Nat.mul_comm,Nat.mul_add_mod];exact vY a};rw[this,getElem!_pos z i a,getElem?_pos z i a]};rw[yR (by simp;omega),yR (by simp;omega)]
def AkC{α:Type}{T:Ty α}{j:IntKind}{l c:Int}{v:α}{K:v_->Aa->Prop}(f:SlT P t e T.size by_ z)(m:T.rep S H z.cells.toList v)(h0:0<=l)(a:l=c)(k:(by_:Int)*c<=281474976710656)(d:c<=9223372036854775807)(h:New H (λb H'=>K (.slice (k_ b) c.toNat c.toNat) H') e (AlW c.toNat z.cells.toList).flatten):Bu P (Instr.makeSlice t (.int g l) (.int j c)) H K:=by subst a;refine mR f h0 (Int.le_refl _) k d ?_;rw[<-f.zsz,XB];exact h
def h_.placeS{α:Type}{T:Ty α}{o i:Nat}{xs:List α}(h:h_ T S H lo e (.slice (zY ⟨b,o,zV⟩) n cap) xs)(f:i<xs.length):n=xs.length/\o=0/\lo<=b/\∃l,L_ H b e l/\i*T.size+T.size<=l.length/\(∀x,xs[i]?=zY x->∃c,AO H b (i*T.size) c/\T.rep S H c x)/\ ∀(H':Aa) (c:List v_) (x:α),L_ H' b e (As l (i*T.size) c)->A_ S H H'->T.rep S H' c x->h_ T S H' lo e (.slice (zY ⟨b,o,zV⟩) n cap) (xs.set i x):=by have⟨b',a,l,q,d,g,j,k,m,r,p⟩:=h.place f;have e2:=d;injection d with e3 e4 e5;injection e3 with e3;injection e3 with e6 e7 e8;subst e6;subst e7;subst e4;subst e5;exact⟨rfl,rfl,g,l,j,k,m,p⟩
def Ap.cut{l:List Oper}{fr:Fr}{K:Fr->Aa->Prop}{α:Type}(ts:List Nat)(enc:α->List v_)(I:α->Aa->Prop)(h:Ap P l fr H (λb H'=>JH (Qr l []) fr b (R8 b ts λvs=>∃y,vs=enc y/\I y H')))(k:∀(z:α) (H1:Aa) (c:Nat->v_),I z H1->Hw c fr (Qr l []) λf=>VG f ts (enc z) λg=>K g H1):Ap P l fr H K:=by generalize Qr l []=ws at h k;have h:=h.out_;refine⟨?_⟩;intro id Q a w j p q r;refine h id Q a w j p q λb a' m d e n=>r b a' m d e ?_;simp only[JH,CE,Gf]at n;have⟨t,z,u,x⟩:=n;have h:=k z m.heap (rd b) x;rw[CE,Jx,Dh t,<-u,Hf ts b]at h;exact h
def JD{a b:ByteArray}(h:a.size+b.size<=maxLen)(k:K (.string (a++b))):A8 P (do eqGuard .add t x y (.string a) (.string b);binOp .add t (.string a) (.string b)) S H K:=by refine A8.mk _ (λw _=>?_) k;have c:((a.size+b.size:Nat):Int)<=9223372036854775807:=by{unfold maxLen at h;omega};have d:IntKind.i64.max=9223372036854775807:=rfl;rw[Int.natCast_add]at c;simp[FH,binOp,Op.stringOp,d,c]
section
variable{s:ByteArray}
def M6{a:IntKind}{l:Int}(b:P.underlying t=zY .string)(h0:0<=l)(c:l<=h)(d:h<=s.size)(e:K (.string (s.extract l.toNat h.toNat))):A8 P (Instr.sliceAt t (.string s) (zY (.int k l)) (zY (.int a h)) zV) S H K:=by refine A8.mk _ (λw _=>?_) e;have f:0<=h:=zO;have g:l<=max h 0:=zO;simp[Instr.sliceAt,Instr.slice,run_underlying b,Instr.sliceBounds,Instr.sliceBound,asIntOf,h0,c,d,f,g]
def hU{a:IntKind}(b:P.underlying t=zY .string)(c:0<=h)(d:h<=s.size)(e:K (.string (s.extract 0 h.toNat))):A8 P (Instr.sliceAt t (.string s) zV (zY (.int a h)) zV) S H K:=by refine A8.mk _ (λw _=>?_) e;simp[Instr.sliceAt,Instr.slice,run_underlying b,Instr.sliceBounds,Instr.sliceBound,asIntOf,d,c]
def hW{l:Int}(a:P.underlying t=zY .string)(h0:0<=l)(b:l<=s.size)(c:K (.string (s.extract l.toNat s.size))):A8 P (Instr.sliceAt t (.string s) (zY (.int k l)) zV zV) S H K:=by refine A8.mk _ (λw _=>?_) c;simp[Instr.sliceAt,Instr.slice,run_underlying a,Instr.sliceBounds,Instr.sliceBound,asIntOf,h0,b]
end
def OH{o:Nat}{v:v_}(h:o<l.length):As l o [v]=l.set o v:=by apply wR;intro j;rw[Dp (by simp;omega),vD];simp only[g_];by_cases a:o=j;{subst a;simp[h]};rw[G_ zO,G_ a]
def HP{sz:Nat}{g j:v_}{K:v_->Aa->Prop}(m:SlT P t e sz by_ z)(k l:List v_)(a:g.cells=k.toArray)(c:j.cells=l.toArray)(d:k.length=sz)(f:l.length=sz)(h0:0<sz)(n:2*sz<=16777216)(h:New H (λb H'=>K (.slice (k_ b) 2 2) H') e (k++l)):Bu P (Instr.buildSlice t 2 [(0,g),(1,j)].toArray) H K:=by refine hK m (k++l) zO zO ?_ h;rw[show([(0,g),(1,j)].toArray).toList=(0,g)::(1,j)::[]from rfl,L4 (off:=0) (size:=sz) zZ (by rw[a];simpa using d) (by simp;omega),L4 (off:=sz) (size:=sz) zZ (by rw[c];simpa using f) (by simp[As,a];omega)];rw[Instr.fill,a,c];congr 1;apply AqJ;simp[As,d,f];omega
structure Pc where
 foot:Nat->Prop
 ok:Aa->Prop
 fr:∀{H H':Aa},A_ foot H H'->ok H->ok H'
def Dis(p q:Pc):Prop:=∀k,p.foot k->¬q.foot k
structure D_(B:Nat->Prop)(H0 H:Aa)(ps:List Pc):Prop where
 old:A_ B H0 H
 lt0:∀k,B k->k<H0.size
 size:H0.size<=H.size
 oks:∀p∈ps,p.ok H
 rng:∀p∈ps,∀k,p.foot k->¬B k/\k<H.size
 dis:ps.Pairwise Dis
abbrev St(H0 H:Aa)(ps:List Pc):Prop:=D_ (F_ H0) H0 H ps
def St.nil(H:Aa):St H H []:=⟨A_.refl _ _,λ_ h=>h,I_ _,(λ_ h=>by cases h),(λ_ h=>by cases h),List.Pairwise.nil⟩
variable{ps:List Pc}
def D_.up(a:D_ B H0 H ps){k:Nat}(b:B k):k<H.size:=yQ (a.lt0 k b) a.size
def D_.call(a:D_ B H0 H ps)(h:A_ (F_ H) H H'):D_ B H0 H' ps:=⟨a.old.trans (h.mono λk b=>a.up b),a.lt0,V' a.size (Ay h),λp c=>p.fr (h.mono λk b=>(a.rng p c k b).2) (a.oks p c),
  λp c k b=>⟨(a.rng p c k b).1,Ak h (a.rng p c k b).2⟩,a.dis⟩
variable{p:Pc}
def D_.at_(a:D_ B H0 H ps)(i:Nat)(b:ps[i]?=zY p):p.ok H:=a.oks p (Y_ b)
def D_.in_(a:D_ B H0 H ps)(i:Nat)(b:ps[i]?=zY p){k:Nat}(c:p.foot k):¬B k/\k<H.size:=a.rng p (Y_ b) k c
def D_.add(e:D_ B H0 H ps)(h:A_ (F_ H) H H')(p:Pc)(m:p.ok H')(g:∀k,p.foot k->H.size<=k/\k<H'.size):D_ B H0 H' (ps++[p]):=by have d:=e.call h;refine⟨d.old,e.lt0,d.size,λq c=>?_,λq c k f=>?_,vW.2 ⟨e.dis,List.pairwise_singleton _ _,λa n b l=>?_⟩⟩;{rcases n_.1 c with c | c;{exact d.oks q c};rw[Q_]at c;subst c;exact m};{rcases n_.1 c with c | c;{exact d.rng q c k f};rw[Q_]at c;subst c;exact⟨λr=>by have:=e.up r;have:=g k f;omega,(g k f).2⟩};rw[Q_]at l;subst l;intro k f j;have:=(e.rng a n k f).2;have:=(g k j).1;omega
def D_.upd(f:D_ B H0 H ps)(i:Nat)(y:ps[i]?=zY p)(h:A_ (λk=>k<H.size/\¬p.foot k) H H')(q:Pc)(G:q.ok H')(D:∀k,q.foot k->p.foot k\/H.size<=k)(I:∀k,q.foot k->k<H'.size)(hs:H.size<=H'.size):D_ B H0 H' (ps.set i q):=by have z:=(P_.1 y).1;have t:=Y_ y;have u:∀(j:Nat) (r:Pc),ps[j]?=zY r->j≠i->Dis r p:=by{intro j r c l k d g;have w:=(P_.1 c).1;have E:=(P_.1 c).2;have e2:=(P_.1 y).2;rcases lZ l with e | e;{exact xT.1 f.dis j i w z e k (by rw[E];exact d) (by rw[e2];exact g)};exact xT.1 f.dis i j z w e k (by rw[e2];exact g) (by rw[E];exact d)};have x:∀r,r∈ps.set i q->r=q\/∃j,j≠i/\ps[j]?=zY r:=by{intro r c;have⟨j,l⟩:=xB c;by_cases e:i=j;{subst e;rw[xW z]at l;cases l;exact .inl rfl};rw[xX e]at l;exact .inr ⟨j,Ne.symm e,l⟩};refine⟨f.old.trans (h.mono λk d=>⟨f.up d,λn=>(f.rng p t k n).1 d⟩),f.lt0,V' f.size hs,λr c=>?_,λr c k d=>?_,?_⟩;{rcases x r c with rfl | ⟨j,l,c⟩;{exact G};exact r.fr (h.mono λk d=>⟨(f.rng r (Y_ c) k d).2,λn=>u j r c l k d n⟩) (f.oks r (Y_ c))};{rcases x r c with rfl | ⟨j,l,c⟩;{refine⟨?_,I k d⟩;rcases D k d with m | m;{exact(f.rng p t k m).1};exact λJ=>by have:=f.up J;omega};have:=f.rng r (Y_ c) k d;exact⟨this.1,zO⟩};have old:∀(j:Nat) (r:Pc),ps[j]?=zY r->j≠i->Dis r q:=by{intro j r c l k d g;rcases D k g with m | m;{exact u j r c l k d m};have:=(f.rng r (Y_ c) k d).2;omega};rw[xT];intro a b A n C;simp only[wM]at A n;rw[fX,fX];by_cases m:i=a;{subst m;rw[H_ rfl,G_ zO];exact λk d g=>old b _ (zH n) zO k g d};rw[G_ m];by_cases F:i=b;{subst F;rw[H_ rfl];exact old a _ (zH A) zO};rw[G_ F];exact xT.1 f.dis a b A n C
def D_.pick(c:D_ B H0 H ps)(is:List Nat)(u:is.Nodup):D_ B H0 H (is.filterMap λi=>ps[i]?):=by have m:∀r,r∈is.filterMap (λi=>ps[i]?)->r∈ps:=λr d=>by{obtain⟨i,_,w⟩:=List.mem_filterMap.1 d;exact Y_ w};refine⟨c.old,c.lt0,c.size,λr d=>c.oks r (m r d),λr d=>c.rng r (m r d),?_⟩;rw[List.pairwise_filterMap];refine u.imp ?_;intro i j l a n b p k q e;have f:=(P_.1 n).1;have g:=(P_.1 p).1;have t:=(P_.1 n).2;have e2:=(P_.1 p).2;rcases lZ l with h | h;{exact xT.1 c.dis i j f g h k (by rw[t];exact q) (by rw[e2];exact e)};exact xT.1 c.dis j i g f h k (by rw[e2];exact e) (by rw[t];exact q)
def D_.say(b:D_ B H0 H ps)(i:Nat)(c:ps[i]?=zY p)(q:Pc)(e:q.ok H)(d:∀k,q.foot k->p.foot k):D_ B H0 H (ps.set i q):=b.upd i c (A_.refl _ _) q e (λk a=>.inl (d k a)) (λk a=>(b.in_ i c (d k a)).2) (I_ _)
def St.ge(a:St H0 H ps)(i:Nat)(b:ps[i]?=zY p){k:Nat}(c:p.foot k):H0.size<=k:=by have:=(a.in_ i b c).1;unfold F_ at this;omega
def pJ(p q:Pc):Pc:=⟨λk=>p.foot k\/q.foot k,λH=>p.ok H/\q.ok H,λh hp=>⟨p.fr (h.mono λ_ hk=>.inl hk) hp.1,q.fr (h.mono λ_ hk=>.inr hk) hp.2⟩⟩
def D_.join{B:Nat->Prop}{H0 H:Aa}{ps:List Pc}{p q:Pc}(g:D_ B H0 H ps)(i j:Nat)(A:ps[i]?=zY p)(C:ps[j]?=zY q)(L:i<j):D_ B H0 H ((ps.eraseIdx j).set i (pJ p q)):=by have M:=(P_.1 A).1;have N:=(P_.1 C).1;have t:=Y_ A;have u:=Y_ C;have d:∀(a:Nat) (r:Pc),((ps.eraseIdx j).set i (pJ p q))[a]?=zY r->(a=i/\r=pJ p q)\/(a≠i/\∃b,b≠i/\b≠j/\ps[b]?=zY r/\b=if a<j then a else a+1):=by{intro a r f;by_cases m:i=a;{subst m;rw[xW (by rw[List.length_eraseIdx];split<;>omega)]at f;cases f;exact .inl ⟨rfl,rfl⟩};rw[xX m,List.getElem?_eraseIdx]at f;refine .inr ⟨Ne.symm m,if a<j then a else a+1,?_,?_,?_,rfl⟩;{split<;>omega};{split<;>omega};split at f;{rename_i h;rw[H_ h];exact f};rename_i h;rw[G_ h];exact f};have l:∀(a b:Nat) (r s:Pc),a≠b->ps[a]?=zY r->ps[b]?=zY s->Dis r s:=by{intro a b r s w f hs k e c;have x:=(P_.1 f).1;have y:=(P_.1 hs).1;have K:=(P_.1 f).2;have e2:=(P_.1 hs).2;rcases lZ w with h | h;{exact xT.1 g.dis a b x y h k (by rw[K];exact e) (by rw[e2];exact c)};exact xT.1 g.dis b a y x h k (by rw[e2];exact c) (by rw[K];exact e)};refine⟨g.old,g.lt0,g.size,λr f=>?_,λr f k e=>?_,?_⟩;{have⟨a,m⟩:=xB f;rcases d a r m with⟨_,rfl⟩ | ⟨_,b,_,_,z,_⟩;{exact⟨g.oks p t,g.oks q u⟩};exact g.oks r (Y_ z)};{have⟨a,m⟩:=xB f;rcases d a r m with⟨_,rfl⟩ | ⟨_,b,_,_,z,_⟩;{rcases e with e | e;{exact g.rng p t k e};exact g.rng q u k e};exact g.rng r (Y_ z) k e};rw[xT];intro a b m z w k e c;have O:=zH m;have P:=zH z;rcases d a _ O with⟨Q,R⟩ | ⟨Q,a',S,T,D,U⟩<;>rcases d b _ P with⟨E,F⟩ | ⟨E,b',G,I,n,J⟩;{omega};{rw[R]at e;rcases e with e | e;{exact l i b' p _ (Ne.symm G) A n k e c};exact l j b' q _ (Ne.symm I) C n k e c};{rw[F]at c;rcases c with c | c;{exact l a' i _ p S D A k e c};exact l a' j _ q T D C k e c};refine l a' b' _ _ ?_ D n k e c;rw[U,J];split<;>split<;>omega
def pB(e:x_)(b:Nat)(l:List v_):Pc:=⟨λk=>k=b,λH=>L_ H b e l,λh hp=>hp.agr h rfl⟩
def D_.box(c:D_ B H0 H ps)(d:b=H.size)(hs:H'.size=b+1)(a:L_ H' b e l)(f:A_ (λk=>k<b) H H'):D_ B H0 H' (ps++[pB e b l]):=by subst d;exact c.add (f.mono λk a=>a) _ a λk a=>by have:k=H.size:=a;omega
def BO{K:v_->Aa->Prop}(a:D_ B H0 H ps)(z:v_)(l:List v_)(c:(P.info? t).bind (·.zero)=zY z)(d:z.cells=l.toArray)(h:∀b H',D_ B H0 H' (ps++[pB t b l])->K (J_ b) H'):Bu P (Instr.alloc t zW (.tuple #[])) H K:=Aq z l c d λb H' e hs f g=>h b H' (a.box e hs f g)
def Ec{v:v_}{K:v_->Aa->Prop}(a:D_ B H0 H ps)(l:List v_)(c:v.cells=l.toArray)(h:∀b H',D_ B H0 H' (ps++[pB t b l])->K (J_ b) H'):Bu P (Instr.box t v) H K:=BF l c λb H' d hs e f=>h b H' (a.box d hs e f)
def D_.skip(a:D_ B H0 H ps)(c:b=H.size)(d:A_ (λk=>k<b) H H'):D_ B H0 H' ps:=by subst c;exact a.call (d.mono λk e=>e)
def D_.blk(a:D_ B H0 H ps)(i:Nat)(c:ps[i]?=zY (pB e b l)):L_ H b e l:=a.at_ i c
def Bc{t o:Nat}{v:v_}{K:Aa->Prop}(c:D_ B H0 H ps)(i:Nat) [ht:CellT P t](d:ps[i]?=zY (pB e b l))(m:o<l.length)(n:v.oneCell'=zW)(k:∀H',D_ B H0 H' (ps.set i (pB e b (l.set o v)))->K H'):BK P (Instr.storeAt t (.pointer (zY ⟨b,o,zV⟩)) v) H K:=by refine yO (c.at_ i d) m n ?_;intro H' f g h;exact k H' (c.upd i d (g.mono λk a j=>a.2 j) _ f (λk a=>.inl a) (λk a=>by rw[h];exact(c.in_ i d a).2) zO)
def AB{t o:Nat}{K:Aa->Prop}(c:D_ B H0 H ps)(i:Nat)(m:(P.info? t).map (·.size)=zY cs.length)(d:ps[i]?=zY (pB e b l))(n:o+cs.length<=l.length)(p:cs.all (·.oneCell')=zW)(k:∀H',D_ B H0 H' (ps.set i (pB e b (As l o cs)))->K H'):BK P (Instr.storeAt t (.pointer (zY ⟨b,o,zV⟩)) (.agg cs.toArray)) H K:=by refine wG m (c.at_ i d) n p ?_;intro H' f g h;exact k H' (c.upd i d (g.mono λk a j=>a.2 j) _ f (λk a=>.inl a) (λk a=>by rw[h];exact(c.in_ i d a).2) zO)
section
variable{α:Type}
def pN(T:Ty α)(S:Nat->Prop)(e:x_)(a:Option Addr)(n cap:Nat)(xs:List α):Pc where
 foot k:=R_ (.slice a n cap) k\/S k
 ok H:=h_ T S H 0 e (.slice a n cap) xs/\∀k,S k->¬R_ (.slice a n cap) k
 fr h hp:=⟨hp.1.agr h (λ_ hb=>.inl hb) (λ_ hb=>.inr hb),hp.2⟩
def none_(_:Nat):Prop:=False
abbrev pS(T:Ty α)(e:x_)(a:Option Addr)(n cap:Nat)(xs:List α):Pc:=pN T none_ e a n cap xs
variable{T:Ty α}{S:Nat->Prop}{e:x_}{a:Option Addr}{n cap:Nat}{xs:List α}{B:Nat->Prop}{H0 H H':Aa}{ps:List Pc}
def h_.hull{lo:Nat}{v:v_}(h:h_ T S H lo e v xs):∃a cap,v= .slice a xs.length cap:=by obtain⟨d,⟨f,c⟩,g⟩:=h;rcases c with⟨rfl,c⟩ | ⟨b,cap,l,rfl,j,k,m,n,p,q⟩;{exact⟨zV,0,by rw[c]⟩};exact⟨_,_,rfl⟩
def h_.nlen{lo:Nat}(h:h_ T S H lo e (.slice a n cap) xs):n=xs.length:=by have⟨a',b,e⟩:=h.hull;injection e
def h_.up{lo:Nat}{v:v_}(h:h_ T S H 0 e v xs)(c:∀b,R_ v b->lo<=b):h_ T S H lo e v xs:=by obtain⟨d,⟨f,a⟩,g⟩:=h;refine⟨d,⟨f,?_⟩,g⟩;rcases a with a | ⟨b,cap,l,rfl,r⟩;{exact .inl a};exact .inr ⟨b,cap,l,rfl,c b ⟨_,_,_,rfl⟩,r.2⟩
def St.own(c:St H0 H ps)(i:Nat)(d:ps[i]?=zY (pN T S e a n cap xs)):h_ T S H H0.size e (.slice a n cap) xs:=(c.at_ i d).1.up λb f=>c.ge i d (.inl f)
def D_.len(b:D_ B H0 H ps)(i:Nat)(c:ps[i]?=zY (pN T S e a n cap xs)):n=xs.length:=(b.at_ i c).1.nlen
def D_.max(b:D_ B H0 H ps)(i:Nat)(c:ps[i]?=zY (pN T S e a n cap xs)):xs.length<=maxLen:=(b.at_ i c).1.len
def D_.adr(d:D_ B H0 H ps)(i:Nat)(f:ps[i]?=zY (pN T S e a n cap xs))(g:0<xs.length):∃b,a=zY ⟨b,0,zV⟩:=by obtain⟨h,⟨j,c⟩,k⟩:=(d.at_ i f).1;rcases c with⟨c,m⟩ | ⟨b,cap,l,c,r⟩;{omega};{injection c with c;exact⟨b,c⟩}
def D_.view(c:D_ B H0 H ps)(i:Nat)(d:ps[i]?=zY (pN T S e a n cap xs)):c_ T (F_ H) H a cap xs:=by obtain⟨a',j,f,h,-⟩:=(c.at_ i d).1.view (S':=F_ H) (λb g=>(c.in_ i d (.inl g)).2) (λb g=>(c.in_ i d (.inr g)).2);injection f with f e2 e3;subst f;subst e3;exact h
def St.viewF(c:St H0 H ps)(i:Nat)(d:ps[i]?=zY (pN T S e a n cap xs)):c_ T (λk=>H0.size<=k/\k<H.size) H a cap xs:=by obtain⟨a',j,g,h,-⟩:=(c.at_ i d).1.view (S':=λk=>H0.size<=k/\k<H.size) (λb f=>⟨c.ge i d (.inl f),(c.in_ i d (.inl f)).2⟩) (λb f=>⟨c.ge i d (.inr f),(c.in_ i d (.inr f)).2⟩);injection g with g e2 e3;subst g;subst e3;exact h
def xM{t by_ j:Nat}{x:α}{d:Int}{S0:Nat->Prop}{H2:Aa}{K:v_->Prop}(m:SlT P t e T.size by_ z)(f:D_ B H0 H ps)(i:Nat)(g:ps[i]?=zY (pN T S e a n cap xs))(l:xs[j]?=zY x) (p:d=(j:Int)) (q:∀b o c,F_ H b->AO H b o c->T.rep (F_ H) H c x->K (.pointer (zY ⟨b,o,zV⟩))):A8 P (Instr.indexAt t (.slice a n cap) (.int k d)) S0 H2 K:=by have h:=f.view i g;have y:=f.len i g;obtain⟨b,o,c,rfl,r,u,w⟩:=h.get l;subst p;have A:=(P_.1 l).1;exact ix m zO zO (by simpa using q b _ c r u w)
def oT{t b o j:Nat}{v:v_}{x:α}{K:Aa->Prop}(q:D_ B H0 H ps)(i:Nat) [ht:CellT P t](r:ps[i]?=zY (pN T S t (k_ b) n cap xs))(u:T.size=1)(z:o=j)(A:j<xs.length)
  (C:v.oneCell'=zW) (D:∀H',A_ S H H'->T.rep S H' [v] x) (k:∀H',D_ B H0 H' (ps.set i (pN T S t (k_ b) n cap (xs.set j x)))->K H'):BK P (Instr.storeAt t (.pointer (zY ⟨b,o,zV⟩)) v) H K:=by subst z;have c:=q.at_ i r;obtain⟨-,-,-,l,f,g,-,a⟩:=c.1.placeS A;rw[u,yW]at g a;refine yO f zO C ?_;intro H' w h y;have m:A_ S H H':=h.mono λk d e=>c.2 k d (by subst e;exact⟨0,n,cap,rfl⟩);have p:=a H' [v] x (by rw[OH zO];exact w) m (D H' m);refine k H' (q.upd i r (h.mono λk d e=>d.2 (.inl (by subst e;exact⟨0,n,cap,rfl⟩))) _ ⟨p,c.2⟩ (λk d=>.inl d) (λk d=>by rw[y];exact(q.in_ i r d).2) zO)
def jX{t b o j:Nat}{cs:List v_}{x:α}{K:Aa->Prop}(r:D_ B H0 H ps)(i:Nat)(A:(P.info? t).map (·.size)=zY T.size)(u:ps[i]?=zY (pN T S t (k_ b) n cap xs))(C:o=j*T.size)(D:j<xs.length)
  (E:cs.all (·.oneCell')=zW) (z:∀H',A_ S H H'->T.rep S H' cs x) (k:∀H',D_ B H0 H' (ps.set i (pN T S t (k_ b) n cap (xs.set j x)))->K H'):BK P (Instr.storeAt t (.pointer (zY ⟨b,o,zV⟩)) (.agg cs.toArray)) H K:=by subst C;have a:=r.at_ i u;have e:=T.len (z H (A_.refl _ _));obtain⟨-,-,-,l,f,g,-,h⟩:=a.1.placeS D;refine wG (by rw[e];exact A) f (by rw[e];exact g) E ?_;intro H' w m y;have p:A_ S H H':=m.mono λk c d=>a.2 k c (by subst d;exact⟨0,n,cap,rfl⟩);have q:=h H' cs x w p (z H' p);refine k H' (r.upd i u (m.mono λk c d=>c.2 (.inl (by subst d;exact⟨0,n,cap,rfl⟩))) _ ⟨q,a.2⟩ (λk c=>.inl c) (λk c=>by rw[y];exact(r.in_ i u c).2) zO)
def D_.new{b:Nat}{l:List v_}(d:D_ B H0 H ps)(f:b=H.size)(hs:H'.size=b+1)(a:L_ H' b e l)(g:A_ (λk=>k<b) H H')(j:T.reps none_ H' l xs)(m:n=xs.length)(p:n<=maxLen):D_ B H0 H' (ps++[pS T e (k_ b) n n xs]):=by subst f;refine d.add (g.mono λk a=>a) _ ⟨h_.ofBlk (V_ _) a j m p,λk a=>a.elim⟩ λk a=>?_;rcases a with⟨o,q,c,h⟩ | h;{cases h;omega};exact h.elim
def D_.nils(b:D_ B H0 H ps)(T:Ty α)(e:x_):D_ B H0 H (ps++[pS T e zV 0 0 []]):=b.add (A_.refl _ _) _ ⟨h_.nil,λk a=>a.elim⟩ λk a=>by
  rcases a with⟨o,d,c,h⟩ | h
  ·cases h
  ·exact h.elim
def D_.got{v:v_}(c:D_ B H0 H ps)(d:A_ (F_ H) H H')(h:h_ T none_ H' H.size e v xs):∃a cap,v= .slice a xs.length cap/\D_ B H0 H' (ps++[pS T e a xs.length cap xs]):=by obtain⟨a,cap,rfl⟩:=h.hull;refine⟨a,cap,rfl,c.add d _ ⟨h.lower (V_ _),λk b=>b.elim⟩ λk b=>?_⟩;rcases b with b | b;{exact h.lt b};exact b.elim
def Uj{t ty q o m g by_:Nat}{ys:List α}{ds:List v_}{K:v_->Aa->Prop}(r:D_ B H0 H ps)(i:Nat)(x:SlT P t e T.size by_ z)(w:ps[i]?=zY (pS T e a n cap xs))(hd:AO H q o ds) (y:T.reps none_ H ds ys) (A:m=ys.length) (C:∀u∈ds,u.oneCell'=zW) (l:xs.length+ys.length<=34359738368) (hby:by_<=1024)(k:∀a' c H',D_ B H0 H' (ps.set i (pS T e a' (xs.length+ys.length) c (xs++ys)))->A_ (λk=>k<H.size/\¬R_ (.slice a n cap) k) H H'->K (.slice a' (xs.length+ys.length) c) H'):Bu P (Builtin.append_ #[t,t] ty [.slice a n cap,.slice (zY ⟨q,o,zV⟩) m g].toArray) H K:=by refine C8 (T:=T) (S:=none_) (lo:=0) x (r.at_ i w).1 (V_ _) (λk b=>b.elim) hd y A C (by unfold maxLen;omega) (by have:=rW l hby;omega) ?_;intro E H' d f p j;obtain⟨a',c,rfl⟩:=d.hull;rw[M_]at d j ⊢;refine k a' c H' (r.upd i w (f.mono λk b=>⟨b.1,λD=>b.2 (.inl D)⟩) _ ⟨d,λk b=>b.elim⟩ (λk b=>?_) (λk b=>?_) p) f;{rcases b with b | b;{rcases j k b with h | h;{exact .inl (.inl h)};exact .inr h};exact b.elim};rcases b with b | b;{exact(d.lt b).2};exact b.elim
def Ip{t ty q by_:Nat}{v:v_}{x:α}{K:v_->Aa->Prop}(f:D_ B H0 H ps)(i:Nat)(g:SlT P t e T.size by_ z)(h:ps[i]?=zY (pS T e a n cap xs))(hd:L_ H q e [v]) (l:T.rep none_ H [v] x) (c:v.oneCell'=zW) (d:xs.length+1<=34359738368) (hby:by_<=1024)(k:∀a' b H',D_ B H0 H' (ps.set i (pS T e a' (xs.length+1) b (xs++[x])))->A_ (λk=>k<H.size/\¬R_ (.slice a n cap) k) H H'->K (.slice a' (xs.length+1) b) H'):Bu P (Builtin.append_ #[t,t] ty [.slice a n cap,.slice (k_ q) 1 1].toArray) H K:=Uj (ys:=[x]) f i g h (hd.cells (λj v c=>by simpa using c)) (Ty.reps_one l) rfl (λu m=>by cases Q_.1 m;exact c) (by simpa using d) hby k
end
section
variable{α:Type}{T:Ty α}{B:Nat->Prop}{H0 H H1:Aa}{ps:List Pc}{e te:x_}{nb:Nat}{vs:List v_}{xs:List (List α)}
def Tab.hold{S':Nat->Prop}{lo:Nat}(h:Tab T none_ H lo e nb te vs xs)(k:A_ S' H H1)(f:S' nb)(a:∀(i:Nat) (v:v_),vs[i]?=zY v->∀j,R_ v j->S' j):Tab T none_ H1 lo e nb te vs xs:=⟨h.len,h.blk.agr k f,h.nlo,λi v x d g=>(h.own i v x d g).agr k (λb c=>a i v d b c) (λb a=>a.elim),h.apart⟩
def pT(T:Ty α)(e te:x_)(nb:Nat)(vs:List v_)(xs:List (List α)):Pc where
 foot k:=k=nb\/∃(i:Nat) (v:v_),vs[i]?=zY v/\R_ v k
 ok H:=Tab T none_ H (nb+1) e nb te vs xs
 fr h hp:=hp.hold h (.inl rfl) λi v hv j hj=>.inr ⟨i,v,hv,hj⟩
def D_.tab(a:D_ B H0 H ps)(i:Nat)(b:ps[i]?=zY (pT T e te nb vs xs)):Tab T none_ H (nb+1) e nb te vs xs:=a.at_ i b
def D_.tabNew{n:Nat}(d:D_ B H0 H ps)(T:Ty α)(e:x_)(f:nb=H.size)(hs:H1.size=nb+1)(a:L_ H1 nb te (AlW n (.slice zV 0 0)))(g:A_ (λk=>k<nb) H H1):D_ B H0 H1 (ps++[pT T e te nb (AlW n (.slice zV 0 0)) (AlW n [])]):=by subst f;refine d.add (g.mono λk a=>a) _ (Tab.new a (Nat.lt_succ_self _)) λk a=>?_;rcases a with rfl | ⟨i,v,b,a⟩;{omega};{rw[tR]at b;split at b;{cases b;have⟨o,n,c,h⟩:=a;cases h};{cases b}}
def D_.row(h:D_ B H0 H ps)(i:Nat)(j:ps[i]?=zY (pT T e te nb vs xs)){t:Nat}{x:List α}(g:xs[t]?=zY x):∃a cap,vs[t]?=zY (.slice a x.length cap)/\c_ T (F_ H) H a cap x:=by have tab:=h.tab i j;have k:=(P_.1 g).1;have⟨v,n,l,d,c⟩:=tab.get k;rw[g]at d;cases d;obtain⟨a,cap,rfl,hd,-⟩:=c.view (S':=F_ H) (λb m=>(c.lt m).2) (λ_ f=>f.elim);exact⟨a,cap,l,hd⟩
def D_.tcell(a:D_ B H0 H ps)(i:Nat)(b:ps[i]?=zY (pT T e te nb vs xs)){t o:Nat}{v:v_}(c:vs[t]?=zY v)(d:o=t):YtjbnocjgdmnkoaaGreatDoor.cell H nb o=zY v:=by subst d;rw[(a.tab i b).blk.cell];exact c
structure Mid(T:Ty α)(B:Nat->Prop)(H0 H H1:Aa)(ps:List Pc)(i:Nat)(e te:x_)(nb:Nat)(vs:List v_)(xs:List (List α))(t:Nat)(v':v_)(x':List α):Prop where
 st:D_ B H0 H ps
 hp:ps[i]?=zY (pT T e te nb vs xs)
 own:h_ T none_ H1 (nb+1) e v' x'
 ex:∃v,vs[t]?=zY v/\A_ (λk=>k<H.size/\¬R_ v k) H H1/\∀k,R_ v' k->R_ v k\/H.size<=k
 le:H.size<=H1.size
def Zab{tt ty q by_ t:Nat}{z w:v_}{n cap:Nat}{x:List α}{y:α}{K:v_->Aa->Prop}(p:D_ B H0 H ps)(i:Nat)(A:SlT P tt e T.size by_ z)(r:ps[i]?=zY (pT T e te nb vs xs))(h:vs[t]?=zY (.slice a n cap))(C:xs[t]?=zY x)(hd:L_ H q e [w]) (D:T.rep none_ H [w] y) (E:w.oneCell'=zW) (l:x.length+1<=34359738368) (hby:by_<=1024)(k:∀a' c H1,Mid T B H0 H H1 ps i e te nb vs xs t (.slice a' (x.length+1) c) (x++[y])->K (.slice a' (x.length+1) c) H1):Bu P (Builtin.append_ #[tt,tt] ty [.slice a n cap,.slice (k_ q) 1 1].toArray) H K:=by have tab:=p.tab i r;have d:=tab.own t _ _ h C;refine C8 (T:=T) (S:=none_) (lo:=nb+1) (ys:=[y]) A d tab.blk.lt (λk F=>F.elim) (hd.cells (λj v h=>by simpa using h)) (Ty.reps_one D) rfl (λu G=>by cases Q_.1 G;exact E) (by unfold maxLen;simp only[g_];omega) (by have:=rW l hby;simp only[g_];omega) ?_;intro I H1 b f m g;obtain⟨a',c,rfl⟩:=b.hull;rw[M_,g_]at b g ⊢;exact k a' c H1 ⟨p,r,b,⟨_,h,f,g⟩,m⟩
def jY{i t o:Nat}{g:v_}{u:List α}{K:Aa->Prop}(m:Mid T B H0 H H1 ps i e te nb vs xs t g u) [ht:CellT P te](I:o=t)
  (k:∀H2,D_ B H0 H2 (ps.set i (pT T e te nb (vs.set t g) (xs.set t u)))->K H2):BK P (Instr.storeAt te (.pointer (zY ⟨nb,o,zV⟩)) g) H1 K:=by
 subst I;have⟨v,l,c,n⟩:=m.ex;have F:=m.st;have tab:=F.tab i m.hp;have f:o<vs.length:=(P_.1 l).1;have y:o<xs.length:=by rw[<-tab.len];exact f
 obtain⟨x,J⟩:∃x,xs[o]?=zY x:=⟨xs[o],zH y⟩;have z:=tab.own o v x l J;have A:¬R_ v nb:=λh=>by have:=(z.lt h).1;omega
 have p:=tab.blk.agr c ⟨tab.blk.lt,A⟩;refine yO p f m.own.one ?_;intro H2 C q L;have b:Tab T none_ H2 (nb+1) e nb te (vs.set o g) (xs.set o u):=tab.push l m.own c n C q (λk a=>a.elim);have M:=m.le;have r:∀(j:Nat) (w:v_),(vs.set o g)[j]?=zY w->∀k,R_ w k->k<H2.size:=λj w d k a=>by{have D:=(P_.1 d).1;have:j<(xs.set o u).length:=by{rw[<-b.len];exact D};exact((b.own j w _ d (zH this)).lt a).2};refine k H2 (F.upd i m.hp (H':=H2) ?_ _ b ?_ ?_ zO);{exact(c.mono λk a=>⟨a.1,λN=>a.2 (.inr ⟨o,v,l,N⟩)⟩).trans (q.mono λk a E=>a.2 (.inl E))};{intro k a;rcases a with rfl | ⟨j,w,d,a⟩;{exact .inl (.inl rfl)};{by_cases G:o=j;{subst G;rw[xW f]at d;cases d;rcases n k a with h | h;{exact .inl (.inr ⟨o,v,l,h⟩)};{exact .inr h}};{rw[xX G]at d;exact .inl (.inr ⟨j,w,d,a⟩)}}};{intro k a;rcases a with rfl | ⟨j,w,d,a⟩;{exact b.blk.lt};{exact r j w d k a}}
def D_.tview(a:D_ B H0 H ps)(i:Nat)(b:ps[i]?=zY (pT T e te nb vs xs))(c:xs.length<=maxLen):c_ (xR T) (F_ H) H (k_ nb) xs.length xs:=(a.tab i b).view rfl c (λk _ d=>d) (λ_ f=>f.elim)
end
section
variable{α:Type}
def mC{ps qs:List α}{i:Nat}{p:α}(h:ps[i]?=zY p):(ps++qs)[i]?=zY p:=by rw[zE (P_.1 h).1];exact h
def mD{ps qs:List α}{i:Nat}{p q:α}(h:ps[i]?=zY p):(ps++qs).set i q=ps.set i q++qs:=List.set_append_left _ _ (P_.1 h).1
def W_(ps l:List α)(j:Nat):(ps++l)[ps.length+j]?=l[j]? :=by rw[y' (nQ _ _)];congr 1;omega
def zB(ps l:List α)(j:Nat)(x:α):(ps++l).set (ps.length+j) x=ps++l.set j x:=by rw[List.set_append_right _ _ (nQ _ _)];congr 2;omega
def tZ{ps:List α}{i:Nat}{p q:α}(h:ps[i]?=zY p):(ps.set i q)[i]?=zY q:=xW (P_.1 h).1
def jJ{ps:List α}{i:Nat}{p:α}(h:ps[i]?=zY p):ps.set i p=ps:=by refine wR λj=>?_;by_cases a:i=j;{subst a;rw[tZ h,h]};rw[xX a]
def ES(ps l:List α):(ps++l)[ps.length]?=l[0]? :=W_ ps l 0
def SI(ps l:List α)(x:α):(ps++l).set ps.length x=ps++l.set 0 x:=zB ps l 0 x
end
def D_.lft{qs:List Pc}(a:D_ B H0 H (ps++qs)):D_ B H0 H ps:=⟨a.old,a.lt0,a.size,λp b=>a.oks p (xU _ b),λp b=>a.rng p (xU _ b),(vW.1 a.dis).1⟩
def D_.subl{qs:List Pc}(a:D_ B H0 H ps)(h:List.Sublist qs ps):D_ B H0 H qs:=⟨a.old,a.lt0,a.size,λp b=>a.oks p (h.subset b),λp b=>a.rng p (h.subset b),a.dis.sublist h⟩
def Bd{t o:Nat}{K:Aa->Prop}(f:D_ B H0 H ps)(i:Nat)(m:(P.info? t).map (·.size)=zY cs.length)(g:ps[i]?=zY (pB e b l))(n:o+cs.length<=l.length)(p:cs.all (·.oneCell')=zW)(k:∀H',D_ B H0 H' (ps.set i (pB e b (As l o cs)))->A_ (λk=>k≠b) H H'->H'.size=H.size->K H'):BK P (Instr.storeAt t (.pointer (zY ⟨b,o,zV⟩)) (.agg cs.toArray)) H K:=by refine wG m (f.at_ i g) n p ?_;intro H' h a c;exact k H' (f.upd i g (a.mono λk d j=>d.2 j) _ h (λk d=>.inl d) (λk d=>by rw[c];exact(f.in_ i g d).2) zO) a c
def M1{t o:Nat}{v:v_}{K:Aa->Prop}(f:D_ B H0 H ps)(i:Nat) [ht:CellT P t](g:ps[i]?=zY (pB e b l))(m:o<l.length)(n:v.oneCell'=zW)(k:∀H',D_ B H0 H' (ps.set i (pB e b (l.set o v)))->A_ (λk=>k≠b) H H'->H'.size=H.size->K H'):BK P (Instr.storeAt t (.pointer (zY ⟨b,o,zV⟩)) v) H K:=by refine yO (f.at_ i g) m n ?_;intro H' h a c;exact k H' (f.upd i g (a.mono λk d j=>d.2 j) _ h (λk d=>.inl d) (λk d=>by rw[c];exact(f.in_ i g d).2) zO) a c
def BC(h:cs.length=l.length):As l 0 cs=cs:=by unfold As;simp[h]
def D_.cellsE{α:Type}{T:Ty α}{xs:List α}{x:α}(d:D_ B H0 H ps)(i:Nat)(f:ps[i]?=zY (pS T e (k_ b) n cap xs))(a:xs[j]?=zY x):∃c,AO H b (j*T.size) c/\T.rep none_ H c x:=by have g:=(P_.1 a).1;obtain⟨-,-,-,l,-,-,h,-⟩:=(d.at_ i f).1.placeS g;exact h x a
structure Xh(P:w_)(t kt et:x_)(d:TypeDesc)(z:v_):Prop where
 under:P.underlying t=zY (.map kt et)
 key:P.underlying kt=zY d
 zero:(P.info? et).bind (·.zero)=zY z
structure Qw(d:TypeDesc){α:Type}(enc:α->v_):Prop where
 isKey:∀a,Go.MapKept.IsKey d (enc a)
 inj:∀a b,enc a=enc b->a=b
def tX:Qw .string Value.string:=⟨λ_=>trivial,λa b h=>by cases h;rfl⟩
def jG(k:IntKind):Qw (.int k) (Value.int k):=⟨λ_=>rfl,λa b h=>by cases h;rfl⟩
section
variable{α:Type}
def Ew(enc:α->v_)(H:Aa)(b:Nat)(m:α->Option v_):Prop:=∃es clock,H[b]?=zY (.map es clock)/\Go.MapKept.Stamped es clock/\(∀(i:Nat) (x:MapEntry),es[i]?=zY x->∃a,x.key=enc a/\m a=zY x.val)/\
  ∀a v,m a=zY v->∃(i:Nat) (x:MapEntry),es[i]?=zY x/\x.key=enc a/\x.val=v
def Ew.agr{enc:α->v_}{m:α->Option v_}(h:Ew enc H b m)(k:A_ S H H')(c:S b):Ew enc H' b m:=by have⟨d,a,e,f⟩:=h;exact⟨d,a,(k b c).trans e,f⟩
def Ew.lt{enc:α->v_}{m:α->Option v_}(h:Ew enc H b m):b<H.size:=by have⟨d,a,c,e⟩:=h;exact(wW.1 c).1
def Ew.ext{enc:α->v_}{m m':α->Option v_}(h:Ew enc H b m)(c:∀a,m a=m' a):Ew enc H b m':=(funext c:m=m') ▸ h
def Gp(enc:α->v_)(H:Aa)(b:Nat)(a:α)(s:Nat):Prop:=∃es clock,H[b]?=zY (.map es clock)/\∀(i:Nat) (x:MapEntry),es[i]?=zY x->(x.born=s↔x.key=enc a)
def Gp.agr{enc:α->v_}{a:α}{s:Nat}(h:Gp enc H b a s)(k:A_ S H H')(d:S b):Gp enc H' b a s:=by have⟨e,c,f,g⟩:=h;exact⟨e,c,(k b d).trans f,g⟩
def gG(enc:α->v_)(H:Aa)(K:Aa->Prop)(b:Nat)(m:α->Option v_):Prop:=∀H',Ew enc H' b m->A_ (λk=>k≠b) H H'->H'.size=H.size->K H'
end
open Classical in
noncomputable def put{α:Type}(m:α->Option v_)(a:α)(v:Option v_):α->Option v_:=λb=>if b=a then v else m b
def BU{α:Type}(m:α->Option v_)(a:α)(v:Option v_):put m a v a=v:=H_ rfl
def D3{α:Type}{m:α->Option v_}{a b:α}{v:Option v_}(h:b≠a):put m a v b=m b:=G_ h
def Dq{a:Nat}(h:Go.MapKept.Stamped es a){i:Nat}{x y:MapEntry}(d:es[i]?=zY x)(f:es[j]?=zY y)(e:x.key=y.key):i=j:=by
 have g:=h.2.2;have b:(es.toList.map (·.key))[i]?=zY x.key:=by simp[d]
 have c:(es.toList.map (·.key))[j]?=zY x.key:=by simp[f,e]
 exact(fW (P_.1 b).1 g).1 (b.trans c.symm)
def Fl{a:Nat}(h:Go.MapKept.Stamped es a){i:Nat}{x y:MapEntry}(d:es[i]?=zY x)(f:es[j]?=zY y)(e:x.born=y.born):i=j:=by
 have g:=h.2.1;have b:(es.toList.map (·.born))[i]?=zY x.born:=by simp[d]
 have c:(es.toList.map (·.born))[j]?=zY x.born:=by simp[f,e]
 exact(fW (P_.1 b).1 g).1 (b.trans c.symm)
def FN{et:x_}(a:(P.info? et).bind (·.zero)=zY z)(w:y_):(zeroValue et).run P w= .ok z w:=by cases b:P.info? et with|none=>rw[b]at a;cases a|some i=>have c:i.zero=zY z:=by{simpa [b]using a};simp[zeroValue,typeInfo,b,c]
section
variable{α:Type}{enc:α->v_}
def L5{d:TypeDesc}{m:α->Option v_}(h:Qw d enc)(c:∀(i:Nat) (x:MapEntry),es[i]?=zY x->∃a,x.key=enc a/\m a=zY x.val)(t:∀a v,m a=zY v->∃(i:Nat) (x:MapEntry),es[i]?=zY x/\x.key=enc a/\x.val=v)(a:α):(Instr.findNow d (enc a) es.toList 0=zY zV/\m a=zV/\∀x∈es.toList,x.key≠enc a)\/∃j e,Instr.findNow d (enc a) es.toList 0=zY (zY (j,e.val))/\es[j]?=zY e/\e.key=enc a/\m a=zY e.val:=by
 have f:∀x∈es.toList,Go.MapKept.IsKey d x.key:=λx k=>by{have⟨i,u⟩:=xB k;obtain⟨b,l,_⟩:=c i x (by simpa using u);rw[l];exact h.isKey b};rcases Go.MapKept.findNow_spec (h.isKey a) es.toList 0 f with⟨n,g⟩ | ⟨j,e,n,g,q⟩;{refine .inl ⟨n,?_,g⟩;cases p:m a with|none=>rfl|some v=>obtain⟨i,x,k,w,_⟩:=t a v p;exact absurd w (g x (Y_ (by simpa using k)))};have r:es[j]?=zY e:=by simpa using g
 refine .inr ⟨j,e,by simpa using n,r,q,?_⟩;have⟨a',l,e2⟩:=c j e r;rw[h.inj a a' (q.symm.trans l)];exact e2
def AlG{et:x_}{d:TypeDesc}{m:α->Option v_}{a:α}(c:Xh P t kt et d z)(g:Qw d enc)(h:Ew enc H b m)(p:S b)(k:K ((m a).getD z)):A8 P (Instr.lookup t (.map (zY b)) (enc a) zU) S H K:=by have⟨B,l,q,C,r,u⟩:=h;refine A8.mk _ (λw x=>?_) k;have f:=(x b p).trans q;rcases L5 g r u a with⟨n,e2,y⟩ | ⟨j,e,n,e2,y,A⟩;{simp[Instr.lookup,run_underlying c.under,Go.MapKept.run_getObj_map f,Go.MapKept.run_checkKey c.key (g.isKey a),Go.MapKept.run_findKey c.key n,FN c.zero,e2]};simp[Instr.lookup,run_underlying c.under,Go.MapKept.run_getObj_map f,Go.MapKept.run_checkKey c.key (g.isKey a),Go.MapKept.run_findKey c.key n,A]
def W1{et:x_}{d:TypeDesc}{m:α->Option v_}{a:α}(c:Xh P t kt et d z)(g:Qw d enc)(h:Ew enc H b m)(p:S b)(k:K (.tuple #[(m a).getD z,.bool (m a).isSome])):A8 P (Instr.lookup t (.map (zY b)) (enc a) zW) S H K:=by have⟨B,l,q,C,r,u⟩:=h;refine A8.mk _ (λw x=>?_) k;have f:=(x b p).trans q;rcases L5 g r u a with⟨n,e2,y⟩ | ⟨j,e,n,e2,y,A⟩;{simp[Instr.lookup,run_underlying c.under,Go.MapKept.run_getObj_map f,Go.MapKept.run_checkKey c.key (g.isKey a),Go.MapKept.run_findKey c.key n,FN c.zero,e2]};simp[Instr.lookup,run_underlying c.under,Go.MapKept.run_getObj_map f,Go.MapKept.run_checkKey c.key (g.isKey a),Go.MapKept.run_findKey c.key n,A]
end
abbrev MH(w:y_)(b:Nat)(o:Obj):y_:={w with heap:=w.heap.setIfInBounds b o}
def El{o o':Obj}(h:w.heap[b]?=zY o):(MH w b o').heap[b]?=zY o'/\A_ (λk=>k≠b) w.heap (MH w b o').heap/\(MH w b o').heap.size=w.heap.size:=⟨(Go.MapKept.heap_set h).1,λk a=>(Go.MapKept.heap_set h).2 k a,zZ⟩
section
variable{α:Type}{enc:α->v_}
def KT{m:α->Option v_}{a:α}{c:Nat}(hs:Go.MapKept.Stamped es c)(r:∀(i:Nat) (x:MapEntry),es[i]?=zY x->∃a,x.key=enc a/\m a=zY x.val)(t:∀a v,m a=zY v->∃(i:Nat) (x:MapEntry),es[i]?=zY x/\x.key=enc a/\x.val=v)(g:∀x∈es.toList,x.key≠enc a){v:v_}(n:H'[b]?=zY (.map (es.push ⟨enc a,v,c⟩) (c+1))):Ew enc H' b (put m a (zY v))/\Gp enc H' b a c:=by have j:∀i x,(es.push ⟨enc a,v,c⟩)[i]?=zY x->(i<es.size/\es[i]?=zY x)\/(i=es.size/\x=⟨enc a,v,c⟩):=by{intro i x d;rw[nJ]at d;by_cases l:i=es.size;{rw[H_ l]at d;exact .inr ⟨l,by cases d;rfl⟩};rw[G_ l]at d;exact .inl ⟨(wW.1 d).1,d⟩};refine⟨⟨_,_,n,Go.MapKept.stamped_push hs g,λi x d=>?_,λa' u k=>?_⟩,_,_,n,λi x d=>?_⟩;{rcases j i x d with⟨_,d⟩ | ⟨_,rfl⟩;{have⟨a',p,e2⟩:=r i x d;have:a'≠a:=λh=>g x (Y_ (by simpa using d)) (by rw[p,h]);exact⟨a',p,by rw[D3 this];exact e2⟩};exact⟨a,rfl,BU _ _ _⟩};{by_cases q:a'=a;{subst q;rw[BU]at k;cases k;exact⟨es.size,⟨enc a',v,c⟩,zZ,rfl,rfl⟩};rw[D3 q]at k;have⟨i,x,d,e⟩:=t a' u k;exact⟨i,x,by rw[nJ,G_ (by have:=(wW.1 d).1;omega)];exact d,e⟩};rcases j i x d with⟨_,d⟩ | ⟨_,rfl⟩;{have f:x∈es.toList:=Y_ (by simpa using d);have:=hs.1 x f;exact⟨λh=>zO,λh=>absurd h (g x f)⟩};simp
def Vb{d:TypeDesc}{m:α->Option v_}{a:α}(B:Qw d enc){g:Nat}(hs:Go.MapKept.Stamped es g)(C:∀(i:Nat) (x:MapEntry),es[i]?=zY x->∃a,x.key=enc a/\m a=zY x.val)(D:∀a v,m a=zY v->∃(i:Nat) (x:MapEntry),es[i]?=zY x/\x.key=enc a/\x.val=v){e:MapEntry}(n:es[j]?=zY e)(u:e.key=enc a){f:MapEntry->MapEntry}{v:v_}(k:(f e).key=enc a) (p:(f e).val=v) (q:∀x,(f x).born=x.born) (A:H'[b]?=zY (.map (es.modify j f) g)):Ew enc H' b (put m a (zY v))/\Gp enc H' b a e.born:=by have r:∀i x,(es.modify j f)[i]?=zY x->(i≠j/\es[i]?=zY x)\/(i=j/\x=f e):=by{intro i x c;rw[sG]at c;by_cases y:j=i;{subst y;rw[H_ rfl,n]at c;exact .inr ⟨rfl,by cases c;rfl⟩};rw[G_ y]at c;exact .inl ⟨Ne.symm y,c⟩};refine⟨⟨_,_,A,Go.MapKept.stamped_modify hs _ _ (λx _=>q x) (λx _ c=>?_),λi x c=>?_,λa' E w=>?_⟩,_,_,A,λi x c=>?_⟩;{rw[n]at c;cases c;rw[k,u]};{rcases r i x c with⟨l,c⟩ | ⟨_,rfl⟩;{have⟨a',t,e2⟩:=C i x c;have:a'≠a:=λh=>l (Dq hs c n (by rw[t,h,u]));exact⟨a',t,by rw[D3 this];exact e2⟩};exact⟨a,k,by rw[BU,p]⟩};{by_cases z:a'=a;{subst z;rw[BU]at w;cases w;exact⟨j,f e,by rw[sG,H_ rfl,n]<;>rfl,k,p⟩};rw[D3 z]at w;have⟨i,x,c,t,e2⟩:=D a' E w;refine⟨i,x,?_,t,e2⟩;rw[sG,G_ ?_];{exact c};rintro rfl;rw[n]at c;cases c;exact z (B.inj _ _ (t.symm.trans u))};rcases r i x c with⟨l,c⟩ | ⟨_,rfl⟩;{exact⟨λh=>absurd (Fl hs c n h) l,λh=>absurd (Dq hs c n (h.trans u.symm)) l⟩};exact⟨λ_=>k,λ_=>q e⟩
def jN{et:x_}{d:TypeDesc}{m:α->Option v_}{a:α}(g:Xh P t kt et d z)(n:Qw d enc)(h:Ew enc H b m){v:v_}{K:Aa->Prop}(k:gG enc H K b (put m a (zY v))):BK P (Instr.mapUpdate t (.map (zY b)) (enc a) v) H K:=by have⟨p,c,l,C,r,u⟩:=h;refine BK.mk λw D=>?_;subst D;rcases L5 n r u a with⟨x,e2,q⟩ | ⟨j,e,x,e2,q,E⟩;{have⟨y,A,B⟩:=El (o':=.map (p.push ⟨enc a,v,c⟩) (c+1)) l;exact⟨MH w b (.map (p.push ⟨enc a,v,c⟩) (c+1)),by simp[Instr.mapUpdate,run_underlying g.under,Go.MapKept.run_getObj_map l,Go.MapKept.run_checkKey g.key (n.isKey a),Go.MapKept.run_findKey g.key x,Go.MapKept.run_setObj_map _ l],⟨rfl,rfl,rfl⟩,k _ (KT C r u q y).1 A B⟩};have⟨y,A,B⟩:=El (o':=.map (p.modify j λe=>{e with key:=enc a,val:=v}) c) l;exact⟨MH w b (.map (p.modify j λe=>{e with key:=enc a,val:=v}) c),by simp[Instr.mapUpdate,run_underlying g.under,Go.MapKept.run_getObj_map l,Go.MapKept.run_checkKey g.key (n.isKey a),Go.MapKept.run_findKey g.key x,Go.MapKept.run_setObj_map _ l,e2,q,Go.MapKept.run_keyThatStays (n.isKey a)],⟨rfl,rfl,rfl⟩,k _ (Vb n C r u e2 q (f:=λe=>{e with key:=enc a,val:=v}) rfl rfl (λ_=>rfl) y).1 A B⟩
def SU{K:v_->Aa->Prop}(k:∀b H',b=H.size->H'.size=b+1->Ew enc H' b (λ_=>zV)->A_ (λk=>k<b) H H'->K (.map (zY b)) H'):Bu P (Instr.makeMap t zV) H K:=by refine Bu.mk λw a=>?_;subst a;exact⟨_,w.alloc (.map #[] 0),by simp[Instr.makeMap],⟨rfl,rfl,rfl⟩,k w.heap.size _ rfl (by rw[Fz];simp) ⟨#[],0,by rw[Fz];simp,Go.MapKept.stamped_empty 0,zZ,zZ⟩ (D7 _ _)⟩
end
section
variable{α:Type}
def pM(enc:α->v_)(b:Nat)(m:α->Option v_):Pc:=⟨λk=>k=b,λH=>Ew enc H b m,λh hp=>hp.agr h rfl⟩
def D_.mapNew{enc:α->v_}(c:D_ B H0 H ps)(d:b=H.size)(hs:H'.size=b+1)(e:Ew enc H' b (λ_=>zV))(f:A_ (λk=>k<b) H H'):D_ B H0 H' (ps++[pM enc b λ_=>zV]):=by subst d;exact c.add (f.mono λk a=>a) _ e λk a=>by have:k=H.size:=a;omega
def D_.map{enc:α->v_}{m:α->Option v_}(a:D_ B H0 H ps)(i:Nat)(c:ps[i]?=zY (pM enc b m)):Ew enc H b m:=a.at_ i c
def SW{enc:α->v_}{m m':α->Option v_}{et:x_}{d:TypeDesc}{v:v_}{a:α}{K:Aa->Prop}(e:D_ B H0 H ps)(i:Nat)(n:Xh P t kt et d z)(c:Qw d enc)(f:ps[i]?=zY (pM enc b m))(p:∀a',put m a (zY v) a'=m' a')(k:∀H',D_ B H0 H' (ps.set i (pM enc b m'))->K H'):BK P (Instr.mapUpdate t (.map (zY b)) (enc a) v) H K:=by refine jN n c (e.map i f) ?_;intro H' g h j;exact k H' (e.upd i f (h.mono λk c l=>c.2 l) (pM enc b m') (g.ext p) (λk c=>.inl c) (λk c=>by rw[j];exact(e.in_ i f c).2) zO)
end
open Classical in
noncomputable def upd{α β:Type}(f:α->β)(a:α)(v:β):α->β:=λb=>if b=a then v else f b
def OS{α β:Type}(f:α->β)(a:α)(v:β):upd f a v a=v:=H_ rfl
def VD{α β:Type}{f:α->β}{a b:α}{v:β}(h:b≠a):upd f a v b=f b:=G_ h
def Ep{α:Type}(m:α->Option v_)(a:α):v_:=(m a).getD (.slice zV 0 0)
def OE{α:Type}(m:α->Option v_)(a:α)(v:v_):Ep (put m a (zY v)) a=v:=by simp[Ep,BU]
def RG{α:Type}{m:α->Option v_}{a b:α}{v:Option v_}(h:b≠a):Ep (put m a v) b=Ep m b:=by simp[Ep,D3 h]
def Ty.reps_drop{α:Type}{T:Ty α}:∀{xs:List α} {cs:List v_} (i:Nat),i<=xs.length->T.reps S H cs xs->∃l r,cs=l++r/\l.length=i*T.size/\T.reps S H r (xs.drop i)
 | xs,cs,0,_,h=>⟨[],cs,rfl,by simp,h⟩
 | x::xs,cs,i+1,hi,⟨c,r,e,h1,h2⟩=>by
   have⟨l,a,b,d,f⟩:=Ty.reps_drop i (by simpa using hi) h2;exact⟨c++l,a,by rw[e,b,yP],by rw[M_,T.len h1,d,sL];omega,f⟩
 | [],cs,i+1,hi,_=>by simp at hi
def AmT{α:Type}{T:Ty α}{t e:Nat}{S':Nat->Prop}{l:Nat}{q:IntKind}{i:Int}{xs:List α}(g:SlT P t e T.size by_ z)(h:c_ T S' H a cap xs)(d:i=(l:Int))(u:l<=xs.length)(k:∀a',c_ T S' H a' (cap-l) (xs.drop l)->K (.slice a' (xs.drop l).length (cap-l))):A8 P (Instr.sliceAt t (.slice a xs.length cap) (zY (.int q i)) zV zV) S H K:=by subst d;obtain⟨x,d,hs,_,_⟩:=g.info;have y:=h.le;have A:K (.slice (if cap=l then a else a.map (·.add (l*T.size))) (xs.length-l) (cap-l)):=by{have:=k (if cap=l then a else a.map (·.add (l*T.size))) ?_;{rwa [List.length_drop]at this};by_cases j:cap=l;{rw[H_ j];cases a with|none=>obtain⟨rfl,rfl⟩:=h;simp[c_]|some m=>exact⟨by simp;omega,zO,.inl zO⟩};rw[G_ j];cases a with|none=>obtain⟨rfl,rfl⟩:=h;simp[c_]|some m=>obtain⟨D,E,F | ⟨c,n,G,p,B⟩⟩:=h;{omega};have⟨b,o,I⟩:=m;simp only at c n p;subst c;obtain⟨J,r,rfl,f,C⟩:=Ty.reps_drop l u B;refine⟨by simp;omega,zO,.inr ?_⟩;show(Addr.add ⟨b,o,zV⟩ (l*T.size)).spot=zV/\_;simp only[Addr.add_mid];exact⟨trivial,n,r,by rw[<-f];exact p.right,C⟩};refine A8.mk _ (λw _=>?_) A;have c:¬(xs.length<l):=zO;simp[Instr.sliceAt,Instr.slice,run_underlying g.under,Instr.sliceBounds,Instr.sliceBound,asIntOf,c,sizeOf,typeInfo,d,hs]
def bM(a b:ByteArray):(a.toList==b.toList)=zT (a.data.toList=b.data.toList):=by rw[ByteArray.toList_eq,ByteArray.toList_eq];by_cases h:a.data.toList=b.data.toList;{rw[a_ h,h];simp};rw[b_ h];exact Bool.eq_false_iff.2 λc=>h (by simpa using c)
def IQ{a b:ByteArray}(h:a.data.toList=b.data.toList):a=b:=by cases a;cases b;simp_all [Array.toList_inj]
def Ag1(a b:ByteArray):(a.toList==b.toList)=zW↔a=b:=by rw[bM,yL];exact⟨IQ,λh=>by rw[h]⟩
section
variable{α:Type}
def SlQ(T:Ty α)(S:Nat->Prop)(H:Aa)(e:x_)(v:v_)(xs:List α):Prop:=∃cs,cs.length=xs.length*T.size/\T.reps S H cs xs/\((v= .slice zV 0 0/\xs=[])\/
  ∃b o cap l,v= .slice (zY ⟨b,o,zV⟩) xs.length cap/\L_ H b e l/\xs.length<=cap/\cap<=maxLen/\o+cap*T.size<=l.length/\∀j u,cs[j]?=zY u->l[o+j]?=zY u)
def SlQ.agr{T:Ty α}{S':Nat->Prop}{v:v_}{xs:List α}(h:SlQ T S H e v xs)(k:A_ S' H H')(c:∀b,R_ v b->S' b)(hs:∀b,S b->S' b):SlQ T S H' e v xs:=by have⟨d,f,g,a⟩:=h;refine⟨d,f,Ty.reps_frame (k.mono hs) g,?_⟩;rcases a with a | ⟨b,o,cap,l,rfl,j,r⟩;{exact .inl a};exact .inr ⟨b,o,cap,l,rfl,j.agr k (c b ⟨_,_,_,rfl⟩),r⟩
def SlQ.hull{T:Ty α}{v:v_}{xs:List α}(h:SlQ T S H e v xs):∃a cap,v= .slice a xs.length cap:=by obtain⟨c,d,f,⟨rfl,rfl⟩ | ⟨b,o,cap,l,rfl,r⟩⟩:=h;{exact⟨_,_,rfl⟩};exact⟨_,_,rfl⟩
def SlQ.lt{T:Ty α}{v:v_}{xs:List α}(h:SlQ T S H e v xs)(d:R_ v b):b<H.size:=by obtain⟨f,g,j,rfl⟩:=d;obtain⟨k,m,n,⟨a,c⟩ | ⟨b',o,cap,l,a,c,r⟩⟩:=h;{cases a};injection a with a;injection a with a;injection a with a;subst a;exact c.lt
def SlQ.ofO{T:Ty α}{v:v_}{xs:List α}(h:h_ T S H lo e v xs):SlQ T S H e v xs:=by obtain⟨d,⟨f,c⟩,g⟩:=h;refine⟨d,f,g,?_⟩;rcases c with⟨rfl,c⟩ | ⟨b,cap,l,rfl,q,k,m,n,r,p⟩;{exact .inl ⟨rfl,wL c⟩};refine .inr ⟨b,0,cap,l,rfl,k,m,n,zO,λj u a=>?_⟩;rw[<-p,tP]at a;split at a;{rw[N_];exact a};cases a
def SlQ.view{T:Ty α}{S':Nat->Prop}{xs:List α}(h:SlQ T S H e (.slice a n cap) xs)(g:∀b,R_ (.slice a n cap) b->S' b)(hs:∀b,S b->S' b):n=xs.length/\c_ T S' H a cap xs:=by obtain⟨q,r,j,⟨c,d⟩ | ⟨b,o,f,l,c,d,k,m,t,p⟩⟩:=h;{injection c with e1 e2 e3;subst e1;subst e2;subst e3;subst d;exact⟨rfl,rfl,rfl⟩};injection c with e1 e2 e3;subst e1;subst e2;subst e3;exact⟨rfl,c_.intro (g b ⟨_,_,_,rfl⟩) k m (d.cells p) (Ty.reps_mono hs j)⟩
def bV{T:Ty α}{v:v_}{xs:List α}{t ty:Nat}{K:v_->Aa->Prop}(J:SlT P t e T.size by_ z){q o:Nat}{ys:List α}{ds:List v_}(hs:SlQ T S H e v xs) (hS:∀k,S k->k<H.size/\¬R_ v k) (hd:AO H q o ds) (R:T.reps S H ds ys) (U:m=ys.length) (h1:∀u∈ds,u.oneCell'=zW)(M:xs.length+ys.length<=maxLen) (hby:(xs.length+ys.length)*by_<=140737488355328)(h:∀L H',SlQ T S H' e L (xs++ys)->A_ (λk=>k<H.size/\¬R_ v k) H H'->H.size<=H'.size->(∀k,R_ L k->R_ v k\/H.size<=k)->K L H'):Bu P (Builtin.append_ #[t,t] ty [v,.slice (zY ⟨q,o,zV⟩) m cap].toArray) H K:=by
 subst U;refine Bu.mk λw hw=>?_;subst hw;have⟨f,V,A,W,hz⟩:=J.info;have n:Src P f.size t (.slice (zY ⟨q,o,zV⟩) ys.length cap) ys.length ds w:=by{rw[A];refine Src.ofSlice w J.under ⟨q,o,zV⟩ ys.length cap ds (Ty.reps_len R) (λj u E=>?_) h1;rw[Addr.add_mid,F0];exact hd j u E};have G:ds.length=ys.length*T.size:=Ty.reps_len R;have⟨d,I,hr,X⟩:=hs;have ai:xs.length+ys.length<=9223372036854775807:=by simp only[maxLen]at M;omega
 have B:(d++ds).length=(xs++ys).length*T.size:=by rw[M_,M_,I,G,rF]
 have reps:∀{H':Aa},A_ (λk=>k<w.heap.size/\¬R_ v k) w.heap H'->T.reps S H' (d++ds) (xs++ys):=λk=>Ty.reps_append (Ty.reps_frame (k.mono hS) hr) (Ty.reps_frame (k.mono hS) R)
 have grow:∀(base:Option Addr) (a:Nat),v= .slice base xs.length a->a<xs.length+ys.length->(Builtin.firstCells f.size xs.length (.slice base xs.length a)).run P w.drew= .ok d.toArray w.drew->
   ∃L Y,(Builtin.append_ #[t,t] ty [v,.slice (zY ⟨q,o,zV⟩) ys.length cap].toArray).run P w= .ok L Y/\Z_ w Y/\K L Y.heap:=by
  intro base a Z N hold;subst Z;have C:=run_append_grow_src (P:=P) w t t ty e f z J.under V hz base xs.length a d hold _ ys.length ds n N zO (growslice_fits zO (by rw[W];exact hby));refine⟨_,_,C,⟨rfl,rfl,rfl⟩,?_⟩;have a0:=grownCap_ge w (xs.length+ys.length) a e;have a8:=grownCap_le_maxLen w (xs.length+ys.length) a e M;have p:A_ (λk=>k<w.heap.size/\¬R_ (.slice base xs.length a) k) w.heap (w.drew.alloc (.cells ((d++ds).toArray++Builtin.zeroCells z.cells (grownCap w (xs.length+ys.length) a e-(xs.length+ys.length))) e)).heap:=λk y=>D7 w.heap _ k y.1;have O:L_ (w.drew.alloc (.cells ((d++ds).toArray++Builtin.zeroCells z.cells (grownCap w (xs.length+ys.length) a e-(xs.length+ys.length))) e)).heap w.heap.size e
    ((d++ds)++(Builtin.zeroCells z.cells (grownCap w (xs.length+ys.length) a e-(xs.length+ys.length))).toList):=by
   unfold L_;have:(w.drew.alloc (.cells ((d++ds).toArray++Builtin.zeroCells z.cells (grownCap w (xs.length+ys.length) a e-(xs.length+ys.length))) e)).heap=w.heap.push (.cells ((d++ds).toArray++Builtin.zeroCells z.cells (grownCap w (xs.length+ys.length) a e-(xs.length+ys.length))) e):=rfl;rw[this];simp
  refine h _ _ ⟨d++ds,B,reps p,.inr ⟨w.heap.size,0,_,_,by rw[M_],O,by rw[M_];exact a0,a8,?_,?_⟩⟩ p ?_ ?_
  ·have e2:(d++ds).length=(xs.length+ys.length)*T.size:=by rw[B,M_]
   have e3:∀g:Nat,(Builtin.zeroCells z.cells g).toList.length=g*T.size:=λg=>by rw[sH,size_zeroCells,J.zsz]
   rw[@M_ _ (d++ds) _,e2,e3,<-rF,N_];exact vM _ zO
  ·intro j u E;rw[N_,zE (P_.1 E).1];exact E
  ·show w.heap.size<=(w.heap.push _).size;simp
  ·rintro k ⟨o,n',c,y⟩;cases y;exact .inr (I_ _)
 rcases X with⟨rfl,rfl⟩ | ⟨b,x,a,l,rfl,Q,ak,a9,ab,F⟩;{have ad:d=[]:=wL (by simpa using I);subst ad;by_cases U:ys.length=0;{obtain rfl:ys=[]:=wL U;have hn:ds=[]:=wL (by simpa using G);subst hn;refine⟨.slice zV 0 0,w,?_,Z_.refl w,h _ _ ⟨[],zZ,rfl,.inl ⟨rfl,rfl⟩⟩ (A_.refl _ _) (I_ _) (λk y=>.inl y)⟩;have k1:=n.len;have k2:=n.cells;simp only[List.length_nil]at k1 k2;rcases n.kind with⟨e',y⟩ | y<;>simp[Builtin.append_,run_underlying J.under,run_underlying y,sizeOf,typeInfo,V,k1,k2]};exact grow zV 0 rfl (by simp;omega) (by simp[Builtin.firstCells])};by_cases r:xs.length+ys.length<=a;{have aj:xs.length*T.size+ds.length<=a*T.size:=by{rw[G,<-rF];exact vM _ r};have C:=run_append_room_src (P:=P) w t t ty e f J.under V b x xs.length a _ ys.length ds n r (λj hj=>by rw[F0,Q.cell,A];simp;omega) (λj hj=>Hs Q);have D:x+xs.length*f.size+ds.length<=l.length:=by{rw[A];omega};have⟨ae,h2,h3,h4⟩:=Fj ds (x+xs.length*f.size) l w Q D;have p:A_ (λk=>k<w.heap.size/\¬R_ (.slice (zY ⟨b,x,zV⟩) xs.length a) k) w.heap (w.setCells b (x+xs.length*f.size) ds).heap:=h2.mono λk y ah=>by{subst ah;exact y.2 ⟨x,_,a,rfl⟩};refine⟨_,_,C,h4,h _ _ ⟨d++ds,B,reps p,.inr ⟨b,x,a,_,by rw[M_],ae,by rw[M_];exact r,a9,?_,?_⟩⟩ p zO ?_⟩;{rw[DA D];exact ab};{intro j u E;rw[Dp D,A];by_cases hj:j<d.length;{rw[zE hj]at E;rw[G_ zO];exact F j u E};rw[y' zO]at E;have:=(P_.1 E).1;rw[H_ zO,(zO:x+j-(x+xs.length*T.size)=j-d.length)];exact E};rintro k ⟨o,n',c,y⟩;cases y;exact .inl ⟨x,xs.length,a,rfl⟩};refine grow (zY ⟨b,x,zV⟩) a rfl zO ?_;have hc:AO w.heap b x d:=Q.cells F;have:=run_firstCells_some (P:=P) w.drew f.size xs.length ⟨b,x,zV⟩ xs.length a d (by rw[A];exact I) (λj v Z=>by{rw[Addr.add_mid];exact R7 (w:=w.drew) (H:=w.heap) hc rfl j v Z});exact this
def AmU{T:Ty α}{xs:List α}{t:Nat}{J:IntKind}{S0:Nat->Prop}{x:α}(q:SlT P t e T.size by_ z)(h:SlQ T S H e (.slice a n cap) (x::xs))(k:∀a' f,SlQ T S H e (.slice a' xs.length f) xs->(∀b,R_ (.slice a' xs.length f) b->R_ (.slice a n cap) b)->K (.slice a' xs.length f)):A8 P (Instr.sliceAt t (.slice a n cap) (zY (.int J 1)) zV zV) S0 H0 K:=by
 obtain⟨L,C,hs,_,_⟩:=q.info;obtain⟨U,D,M,⟨E,p⟩ | ⟨b,o,f,l,E,p,N,V,W,O⟩⟩:=h;{cases p};injection E with e1 e2 e3;subst e1;subst e2;subst e3;simp only[U_]at N D;obtain⟨c,r,rfl,Q,F⟩:=M;have y:=T.len Q;have g:K (.slice (if cap=1 then zY ⟨b,o,zV⟩else zY ⟨b,o+T.size,zV⟩) xs.length (cap-1)):=by{refine k _ _ ⟨r,by rw[M_,rF]at D;omega,F,.inr ?_⟩ ?_;{have X:cap*T.size=(cap-1)*T.size+T.size:=by{rw[<-sL];congr 1;omega};by_cases d:cap=1;{rw[H_ d];have R:xs=[]:=wL zO;subst R;have A:r=[]:=by{simpa [Ty.reps]using F};subst A;exact⟨b,o,cap-1,l,rfl,p,zZ,zO,by subst d;simp;omega,λj u B=>by simp at B⟩};rw[G_ d];refine⟨b,o+T.size,cap-1,l,rfl,p,zO,zO,zO,λj u B=>?_⟩;have:=O (c.length+j) u (by rw[y' zO,Nat.add_sub_cancel_left];exact B);rw[y,<-rT]at this;exact this};rintro k ⟨Y,Z,c',g⟩;by_cases d:cap=1;{rw[H_ d]at g;cases g;exact⟨_,_,_,rfl⟩};rw[G_ d]at g;cases g;exact⟨_,_,_,rfl⟩};refine A8.mk _ (λw _=>?_) g;have G:(⟨b,o,zV⟩:Addr).add (1*T.size)=⟨b,o+T.size,zV⟩:=by rw[kG];exact Addr.add_mid _ _ _
 have I:¬((xs.length:Int)+1<1):=zO;have m:(1:Int)<=(xs.length:Int)+1:=zO;by_cases d:cap=1;{subst d;simp[Instr.sliceAt,Instr.slice,run_underlying q.under,Instr.sliceBounds,Instr.sliceBound,asIntOf,sizeOf,typeInfo,C,hs,I,m]};simp[Instr.sliceAt,Instr.slice,run_underlying q.under,Instr.sliceBounds,Instr.sliceBound,asIntOf,sizeOf,typeInfo,C,hs,d,I,m];simp[kG]at G;exact G
def pQ(T:Ty α)(e:x_)(a:Option Addr)(n cap:Nat)(xs:List α):Pc:=⟨λk=>R_ (.slice a n cap) k,λH=>SlQ T none_ H e (.slice a n cap) xs,λh hp=>hp.agr h (λ_ hb=>hb) (λ_ f=>f.elim)⟩
def D_.qview{T:Ty α}{xs:List α}(c:D_ B H0 H ps)(i:Nat)(d:ps[i]?=zY (pQ T e a n cap xs)):n=xs.length/\c_ T (F_ H) H a cap xs:=SlQ.view (c.at_ i d) (λb g=>(c.in_ i d g).2) (λ_ f=>f.elim)
def D_.toQ{T:Ty α}{xs:List α}(b:D_ B H0 H ps)(i:Nat)(c:ps[i]?=zY (pS T e a n cap xs)):D_ B H0 H (ps.set i (pQ T e a n cap xs)):=b.say i c _ (SlQ.ofO (b.at_ i c).1) λk d=>.inl d
def pU{T:Ty α}{xs:List α}{t ty q o g:Nat}{ys:List α}{ds:List v_}{K:v_->Aa->Prop}(p:D_ B H0 H ps)(i:Nat)(w:SlT P t e T.size by_ z)(r:ps[i]?=zY (pQ T e a n cap xs))(hd:AO H q o ds) (x:T.reps none_ H ds ys) (y:m=ys.length) (A:∀u∈ds,u.oneCell'=zW) (j:xs.length+ys.length<=maxLen) (hby:(xs.length+ys.length)*by_<=140737488355328)(k:∀a' b H',D_ B H0 H' (ps.set i (pQ T e a' (xs.length+ys.length) b (xs++ys)))->A_ (λk=>k<H.size/\¬R_ (.slice a n cap) k) H H'->K (.slice a' (xs.length+ys.length) b) H'):Bu P (Builtin.append_ #[t,t] ty [.slice a n cap,.slice (zY ⟨q,o,zV⟩) m g].toArray) H K:=by refine bV (T:=T) (S:=none_) w (p.at_ i r) (λk d=>d.elim) hd x y A j hby ?_;intro D H' c f l h;obtain⟨a',b,rfl⟩:=c.hull;rw[M_]at c h ⊢;exact k a' b H' (p.upd i r (f.mono λk d=>⟨d.1,λC=>d.2 C⟩) _ c (λk d=>h k d) (λk d=>c.lt d) l) f
def pX{T:Ty α}{xs:List α}{t:Nat}{f:IntKind}{x:α}(c:D_ B H0 H ps)(i:Nat)(g:SlT P t e T.size by_ z)(d:ps[i]?=zY (pQ T e a n cap (x::xs)))(k:∀a' b,D_ B H0 H (ps.set i (pQ T e a' xs.length b xs))->K (.slice a' xs.length b)):A8 P (Instr.sliceAt t (.slice a n cap) (zY (.int f 1)) zV zV) S H' K:=AmU (T:=T) g (c.at_ i d) λa' b h j=>k a' b (c.say i d _ h j)
end
def VE{s d e o:Nat}{K:v_->Aa->Prop}(bs:List Nat)(hs:P.underlying s=zY (.slice e))(c:P.underlying e=zY (.int .u8))(hd:P.underlying d=zY .string)(f:∀(j x:Nat),bs[j]?=zY x->cell H b (o+j)=zY (.int .u8 (x:Int))) (g:n=bs.length) (k:K (.string ⟨(bs.map UInt8.ofNat).toArray⟩) H):Bu P (convert s d (.slice (zY ⟨b,o,zV⟩) n cap)) H K:=by subst g;refine Bu.mk λw h=>?_;subst h;have:=run_convert_bytes_arg (P:=P) w s e hs c b o bs.length cap (bs.map fun(n:Nat)=>(n:Int)) zZ (λi a=>by{rw[F0,f i bs[i] (zH a)];simp[List.getD,a]}) d hd;have l:strOfNums (bs.map fun(n:Nat)=>(n:Int))=⟨(bs.map UInt8.ofNat).toArray⟩:=by{unfold strOfNums;rw[List.map_map];congr 2};rw[l]at this;exact⟨_,w,this,Z_.refl w,k⟩
def mN{s d e:Nat}{K:v_->Aa->Prop}(hs:P.underlying s=zY (.slice e))(a:P.underlying e=zY (.int .u8))(hd:P.underlying d=zY .string)(k:K (.string ⟨#[]⟩) H):Bu P (convert s d (.slice zV n cap)) H K:=by refine Bu.mk λw b=>?_;subst b;exact⟨_,w,run_convert_bytes_nil (P:=P) w s e hs a n cap d hd,Z_.refl w,k⟩
def GC(ops:Array Oper):Nat->Nat->Nat->Bool | 0,_,_=>zU | f+1,j,i=>match ops[j]? with | none=>zU | some o=>o.after.toList.any λe=>Region.binds .any e&&(Ar1 e.on i|| GC ops f e.on i)
def Zad(ops:Array Oper)(listed:Array Bool):Prop:=∀(j:Nat) (o:Oper),ops[j]?=zY o->listed.getD j zU=zW->∀e∈o.after,Region.binds .any e=zW->listed.getD e.on zU=zW
section
variable{b:Array Oper}{a:Array Bool}
def Zad.chain(h:Zad b a){i:Nat}:∀(f j:Nat),GC b f j i=zW->(∀(o:Oper),b[j]?=zY o->∀e∈o.after,Region.binds .any e=zW->a.getD e.on zU=zW)->a.getD i zU=zW
 | 0,_,hn,_=>by simp[GC]at hn
 | f+1,j,hn,hd=>by
   unfold GC at hn;split at hn
   ·cases hn
   ·rename_i o n;have⟨e,p,c⟩:=List.any_eq_true.1 hn;simp only[o_,wX]at c;have m:=hd o n e (by simpa using p) c.1;rcases c.2 with d | d
    ·rw[<-lX d];exact m
    ·exact h.chain f e.on d λq g r k l=>h e.on q g m r k l
def Zad.not_ready(h:Zad b a){i f:Nat}(g:GC b f j i=zW)(k:a.getD i zU=zU):j∉Region.ready .any b a:=by
 intro l;obtain⟨_,o,m,c⟩:=mem_ready.1 l;have:=h.chain f j g λq d e n p=>by rw[m]at d;cases d;exact c e n p
 rw[k]at this;cases this
end
def Zx{l:Array Bool}{i k:Nat}(h:(l.setIfInBounds i zW).getD k zU=zW):k=i\/l.getD k zU=zW:=by by_cases a:k=i;{exact .inl a};rw[getD_set_ne zU (Ne.symm a)]at h;exact .inr h
def Zad.put{b:Array Oper}{a:Array Bool}(h:Zad b a)(n:j∈Region.ready .any b a):Zad b (a.setIfInBounds j zW):=by intro k o g f e l m;rcases Zx f with rfl | f;{obtain⟨_,p,c,d⟩:=mem_ready.1 n;rw[g]at c;cases c;exact getD_set_true (d e l m)};exact getD_set_true (h k o g f e l m)
def IV(P:w_)(ops:Array Oper)(Q:Exit->Act->y_->Prop)(S:y_->Prop)(Z:List Nat):Nat->Array Bool->Act->y_->Prop | 0,listed,a,w=>Region.ready .any ops listed=[]/\Q .normal a w | fuel+1,listed,a,w=>(Region.ready .any ops listed=[]->Q .normal a w)/\ ∀i∈Region.ready .any ops listed,wpOp P ops Q i (λa' w'=>(Z.contains i=zU->S w')/\IV P ops Q S Z fuel (listed.setIfInBounds i zW) a' w') a w
def FM{P:w_}{d:Array Oper}{Q:Exit->Act->y_->Prop}{S:y_->Prop}{Z:List Nat}:∀(b:Nat) (c:Array Bool) (a:Act) (w:y_),IV P d Q S Z b c a w->wpAny P .any d Q b c a w | 0,_,_,_,h=>h | b+1,_,_,_,h=>⟨h.1,λi e=>wpOp_mono (λa' f g=>FM b _ a' f g.2) (h.2 i e)⟩
def Dv{g:Array Oper}{S:y_->Prop}{i f:Nat}{u:Oper}{v:v_}(M:g[i]?=zY u)(r:∀(j:Nat) (o:Oper) B b,g[j]?=zY o->o.op≠ .select B b)(V:∀c a w,Q (.panic c) (a.put u.dst v) w->Q (.panic c) a w) (W:Z.contains i=zU) (X:∀j,Z.contains j=zW->GC g f j i=zW):∀(l:Nat) (d:Array Bool) (a:Act) (w:y_),Zad g d->(∀j x,g[j]?=zY x->j≠i->d.getD j zW=zU->(∀e∈x.after,Region.binds .any e=zW->e.on≠i)->u.apart g x=zW)->i∈Region.ready .any g d->YieldsIf P g S u v a->S w->IV P g Q S Z l (d.setIfInBounds i zW) (a.put u.dst v) w->IV P g Q S Z (l+1) d a w:=by
 intro l;induction l with|zero=>intro d a w _ _ y J C H;refine⟨λh=>(by rw[h]at y;cases y),λj A=>?_⟩;by_cases m:j=i;{subst m;exact J.wpOp M C ⟨λ_=>C,H⟩};have:=ready_mono A m;rw[H.1]at this;cases this|succ l Y=>{
 intro d a w D n y J C H;refine⟨λh=>(by rw[h]at y;cases y),λj A=>?_⟩;by_cases m:j=i;{subst m;exact J.wpOp M C ⟨λ_=>C,H⟩};have K:=H.2 j (ready_mono A m);have⟨t,x,z,E⟩:=mem_ready.1 A;have p:d.getD i zU=zU:=by{have N:=(mem_ready.1 y).1;rcases nN i d.size with O | O;{simp[O]at N ⊢;exact N};simp[rB O]at N};have F:∀e∈x.after,Region.binds .any e=zW->e.on≠i:=λe he hb R=>by{have K:=E e he hb;rw[R,p]at K;cases K};have G:Z.contains j=zU:=by{cases hc:Z.contains j with|false=>rfl|true=>exact absurd A (D.not_ready (X j hc) p)};have h2:=wpOp_putIf z (n j x z m t F) (λB b=>r i u B b M) (λB b=>r j x B b z) V J K
 have q:∀k ok,g[k]?=zY ok->k≠i->(d.setIfInBounds j zW).getD k zW=zU->
   (∀e∈ok.after,Region.binds .any e=zW->e.on≠i)->u.apart g ok=zW:=λk ok hk T p U=>by
  refine n k ok hk T ?_ U;by_cases I:j=k
  ·subst I;exact t
  ·rw[getD_set_ne zW I]at p;exact p
 refine wpOp_mono (λa' w' L=>⟨λ_=>L.2.1 G,Y (d.setIfInBounds j zW) a' w' (D.put A) q (ready_mono y (Ne.symm m)) L.1 (L.2.1 G) ?_⟩) h2;rw[nK _ _ m];exact L.2.2}
def TO(P:w_)(S:Nat->Prop)(Z:List Nat)(H0:Aa)(all:List Oper)(i:Nat)(fr:Fr)(H:Aa)(next:Fr->Aa->Prop):Prop:=match all[i]? with
 | none=>False
 | some o=>match o.guard with
   | some _=>False
   | none=>match Z.contains i with
     | true=>wH P zU (λ_=>True) o fr H λv H'=>Cf o.dst fr v λfr'=>next fr' H'
     | false=>wH P zU (λ_=>True) o fr H λv H'=>A_ S H0 H'/\Cf o.dst fr v λfr'=>next fr' H'
def heldZ(P:w_)(S:Nat->Prop)(Z:List Nat)(H0:Aa)(all:List Oper)(s:Sch):Fr->Aa->(Fr->Aa->Prop)->Prop:=Sch.rec (motive:=λ_=>Fr->Aa->(Fr->Aa->Prop)->Prop) (λfr H K=>K fr H)
  (λi _ ih fr H K=>match all[i]? with
   | none=>False
   | some o=>match o.guard with
     | some _=>False
     | none=>match HV o&&DC P o with
       | true=>J7 P S o fr H λv=>Cf o.dst fr v λfr'=>ih fr' H K
       | false=>False)
  (λi _ ih fr H K=>TO P S Z H0 all i fr H λfr' H'=>ih fr' H' K)
  (λi _ j _ ih ih' fr H K=>(TO P S Z H0 all i fr H λfr' H'=>ih fr' H' K)/\TO P S Z H0 all j fr H λfr' H'=>ih' fr' H' K) s
def AdX(P:w_)(S:Nat->Prop)(Z:List Nat)(H0:Aa)(all:List Oper)(i:Nat)(s:Sch)(fr:Fr)(H:Aa)(K:Fr->Aa->Prop):heldZ P S Z H0 all (.q i s) fr H K=(match all[i]? with | none=>False | some o=>match o.guard with | some _=>False | none=>match HV o&&DC P o with | true=>J7 P S o fr H λv=>Cf o.dst fr v λa=>heldZ P S Z H0 all s a H K | false=>False):=rfl
def lE:Sch->Bool | .e=>zU | .q _ _=>zW | .f _ s=>lE s | .b _ s _ s'=>lE s|| lE s'
def MM(Z:List Nat):Sch->Bool | .e=>zW | .q _ _=>zU | .f i s=>Z.contains i&&MM Z s | .b i s j s'=>Z.contains i&&Z.contains j&&MM Z s&&MM Z s'
def Cz(ops:Array Oper)(Z:List Nat):Sch->Array Bool->Bool | .e,listed=>(Region.ready .any ops listed).isEmpty | .q i s,listed=>(Region.ready .any ops listed).contains i&&Region.free .any ops listed i&& !(Z.contains i)&&(Z.all λz=>GC ops ops.size z i)&&Cz ops Z s (listed.setIfInBounds i zW)| .f i s,listed=>Region.ready .any ops listed==[i]&&(!(Z.contains i)|| MM Z s)&&Cz ops Z s (listed.setIfInBounds i zW)| .b i s j s',listed=>Region.ready .any ops listed==[i,j]&&((!(Z.contains i)&& !(Z.contains j))|| (MM Z s&&MM Z s'))&&Cz ops Z s (listed.setIfInBounds i zW)&&Cz ops Z s' (listed.setIfInBounds j zW)
def IL{all:List Oper}{i:Nat}{fr:Fr}{a:Act}{next:Fr->Aa->Prop}(c:At fr a) (l:Z_ w0 w) (h:TO P S Z w0.heap all i fr w.heap next)(n:∀f a' e,At f a'->Z_ w0 e->(Z.contains i=zU->yU w0 S e)->next f e.heap->N a' e):wpOp P all.toArray Q i N a w:=by
 unfold TO at h;split at h;{exact h.elim};rename_i o p;have m:all.toArray[i]?=zY o:=by simpa using p
 split at h;{exact h.elim};rename_i q;have d:Region.wanted o (yielded all.toArray a.tmps)=zW:=by simp[Region.wanted,q]
 unfold wpOp;rw[m];dsimp only;rw[H_ d];split at h;{rename_i r;refine .inl (Oper.wp_mono ?_ (Cn c h _));rintro a' e ⟨v,rfl,b,g⟩;rw[Bk]at g;exact n _ _ _ (c.put o.dst v) (l.trans b) (λj=>by rw[r]at j;cases j) g};refine .inl (Oper.wp_mono ?_ (Cn c h _));rintro a' e ⟨v,rfl,b,k,g⟩;rw[Bk]at g;exact n _ _ _ (c.put o.dst v) (l.trans b) (λ_=>⟨l.trans b,k⟩) g
def EG{P:w_}{S:Nat->Prop}{Z:List Nat}{w0:y_}{all:List Oper}{Q:Exit->Act->y_->Prop}(hs:Region.noSelect all.toArray=zW)
  (A:∀c a w,¬Q (.panic c) a w):∀(l:Sch) (d:Array Bool) (fr:Fr) (a:Act) (w:y_) (K:Fr->Aa->Prop),At fr a->Z_ w0 w->(MM Z l=zU->yU w0 S w)->Zad all.toArray d->
  (∀n a' m,At n a'->Z_ w0 m->K n m.heap->Q .normal a' m)->Cz all.toArray Z l d=zW->l.even=zW->
  heldZ P S Z w0.heap all l fr w.heap K->IV P all.toArray Q (yU w0 S) Z l.len d a w
 | .e,d,fr,a,w,K,hat,he,_,_,hq,hB,_,h=>⟨by simpa [Cz]using hB,hq fr a w hat he h⟩
 | .q i s,d,fr,a,w,K,hat,he,x,hsh,hq,hB,hev,h=>by
   have x:=x rfl;simp only[Cz,o_,wD,List.all_eq_true]at hB;obtain⟨⟨⟨⟨y,g⟩,N⟩,O⟩,p⟩:=hB;rw[AdX]at h;split at h
   ·exact h.elim
   ·rename_i o R;have B:all.toArray[i]?=zY o:=by simpa using R
    have C:i∈Region.ready .any all.toArray d:=by simpa using y
    split at h
    ·exact h.elim
    ·rename_i T;have z:Region.wanted o (yielded all.toArray a.tmps)=zW:=by simp[Region.wanted,T]
     split at h
     ·have⟨v,U,r⟩:=CJ h;rw[Bk]at r;refine Dv (v:=v) (f:=all.toArray.size) B (Region.noSelect_spec hs) (λc a' m V=>(A _ _ _ V).elim) N (λj D=>O j (by simpa using D)) s.len d a w hsh (Region.free_spec B g) C
       (.inl ⟨z,λm J=>?_⟩) x ?_
      ·rw[hat.evalF];exact U m λk r=>(J.2 k r).trans (x.2 k r).symm
      ·exact EG hs A s _ _ _ w K (hat.put o.dst v) he (λ_=>x) (hsh.put C) hq p hev r
     ·exact h.elim
 | .f i s,d,fr,a,w,K,hat,he,x,hsh,hq,hB,hev,h=>by
   simp only[Cz,o_,wX,wD,beq_iff_eq]at hB;obtain⟨⟨y,g⟩,p⟩:=hB;refine⟨(λE=>by rw[y]at E;cases E),λj D=>?_⟩;have L:=D;rw[y]at D;obtain rfl:j=i:=by simpa using D
   refine IL hat he h λn a' m F G t H=>⟨t,EG hs A s _ _ _ m K F G (λu=>?_) (hsh.put L) hq p hev H⟩;rcases g with g | g
   ·exact t g
   ·rw[g]at u;cases u
 | .b i s j s',d,fr,a,w,K,hat,he,x,hsh,hq,hB,hev,h=>by
   simp only[Cz,o_,wX,wD,beq_iff_eq]at hB;obtain⟨⟨⟨y,g⟩,p⟩,M⟩:=hB;simp only[Sch.even,o_,beq_iff_eq]at hev;obtain⟨⟨W,e2⟩,X⟩:=hev;refine⟨(λE=>by rw[y]at E;cases E),λk r=>?_⟩;have I:=r;rw[y]at r;rcases J'.1 r with rfl | r
   ·refine IL hat he h.1 λn a' m F G t H=>⟨t,EG hs A s _ _ _ m K F G (λu=>?_) (hsh.put I) hq p W H⟩;rcases g with g | g
    ·exact t g.1
    ·rw[g.1]at u;cases u
   ·obtain rfl:k=j:=by simpa using r
    rw[X];refine IL hat he h.2 λn a' m F G t H=>⟨t,EG hs A s' _ _ _ m K F G (λu=>?_) (hsh.put I) hq M e2 H⟩;rcases g with g | g
    ·exact t g.2
    ·rw[g.2]at u;cases u
def Ap.heldZ{l:List Oper}{fr:Fr}{K:Fr->Aa->Prop}(S:Nat->Prop)(Z:List Nat)(b:Sch)(g:P.follows .mixedOrders=zW)(c:(Region.noSelect l.toArray&&(b.len==l.length)&&b.even&&Cz l.toArray Z b (Aq6 l.length zU))=zW)(h:YtjbnocjgdmnkoaaGreatDoor.heldZ P S Z H l b fr H K):Ap P l fr H K:=by refine⟨?_⟩;intro id Q a w d k m n;subst k;simp only[o_,beq_iff_eq]at c;refine wp_region_any g (FM (S:=yU w S) (Z:=Z) _ _ _ _ ?_);have e:Zad l.toArray (Aq6 l.length zU):=λj o _ f=>by{rw[Array.getD_eq_getD_getElem?,Array.getElem?_replicate]at f;split at f<;>simp at f};have:=EG (P:=P) (S:=S) (Z:=Z) (w0:=w) (Q:=Q) c.1.1.1 m b (Aq6 l.length zU) fr a {w with drawn:=w.drawn+1} K d ⟨rfl,rfl,rfl⟩ (λ_=>⟨⟨rfl,rfl,rfl⟩,A_.refl _ _⟩) e n c.2 c.1.2 h;rw[c.1.1.2]at this;simpa using this
structure D4(P:w_)(t kt et:x_)(z:v_):Prop where
 under:P.underlying t=zY (.map kt et)
 zero:(P.info? et).bind (·.zero)=zY z
structure Fv(P:w_)(kt:x_){α:Type}(Ok:α->Prop)(enc:α->v_):Prop where
 inj:∀a b,enc a=enc b->a=b
 check:∀(w:y_) (em:Bool) (a:α),Ok a->(Instr.checkKey em 10000 kt (enc a)).run P w= .ok () w
 find:∀(w:y_) (a:α),Ok a->∀es:List MapEntry,(∀e∈es,∃b,Ok b/\e.key=enc b)->
  ((Instr.findKey kt (enc a) es).run P w= .ok zV w/\∀e∈es,e.key≠enc a)\/∃j e,(Instr.findKey kt (enc a) es).run P w= .ok (zY (j,e.val)) w/\es[j]?=zY e/\e.key=enc a
 stays:∀(w:y_) (a:α),Ok a->(Instr.keyThatStays (enc a) (enc a)).run P w= .ok (enc a) w
section
variable{α:Type}
def Fv.ofLaw{Ok:α->Prop}{enc:α->v_}(h:WideMaps.KeyLaw P kt)(g:∀a b,enc a=enc b->a=b)(d:∀a,Ok a->∃l,keyOf P kt (enc a)=zY l):Fv P kt Ok enc:=⟨g,λw j a c=>let⟨_,e⟩:=d a c;h.check w j e,λw a c k f=>let⟨_,e⟩:=d a c;h.find w e k λx m=>by
   have⟨b,n,e⟩:=f x m;rw[e];exact d b n,
  λw a c=>let⟨_,e⟩:=d a c;h.stays w e⟩
def Fx(Ok:α->Prop)(enc:α->v_)(H:Aa)(b:Nat)(m:α->Option v_):Prop:=Ew enc H b m/\∀a v,m a=zY v->Ok a
def gH(Ok:α->Prop)(enc:α->v_)(H:Aa)(K:Aa->Prop)(b:Nat)(m:α->Option v_):Prop:=∀H',Fx Ok enc H' b m->A_ (λk=>k≠b) H H'->H'.size=H.size->K H'
def Fx.agr{Ok:α->Prop}{enc:α->v_}{m:α->Option v_}(h:Fx Ok enc H b m)(k:A_ S H H')(a:S b):Fx Ok enc H' b m:=⟨h.1.agr k a,h.2⟩
def Ox{Ok:α->Prop}{m:α->Option v_}{a:α}(h:∀a v,m a=zY v->Ok a)(e:Ok a)(v:v_):∀b u,put m a (zY v) b=zY u->Ok b:=λb u d=>by
 by_cases c:b=a
 ·rw[c];exact e
 ·rw[D3 c]at d;exact h b u d
def Hr{Ok:α->Prop}{enc:α->v_}{m:α->Option v_}{a:α}(p:Fv P kt Ok enc)(t:Ok a)(g:∀a v,m a=zY v->Ok a)(c:∀(i:Nat) (x:MapEntry),es[i]?=zY x->∃a,x.key=enc a/\m a=zY x.val)(u:∀a v,m a=zY v->∃(i:Nat) (x:MapEntry),es[i]?=zY x/\x.key=enc a/\x.val=v)(w:y_):((Instr.findKey kt (enc a) es.toList).run P w= .ok zV w/\m a=zV/\∀x∈es.toList,x.key≠enc a)\/∃j e,(Instr.findKey kt (enc a) es.toList).run P w= .ok (zY (j,e.val)) w/\es[j]?=zY e/\e.key=enc a/\m a=zY e.val:=by
 have d:∀x∈es.toList,∃b,Ok b/\x.key=enc b:=λx h=>by{have⟨i,y⟩:=xB h;have⟨b,k,e2⟩:=c i x (by simpa using y);exact⟨b,g b _ e2,k⟩};rcases p.find w a t es.toList d with⟨l,f⟩ | ⟨j,e,l,f,q⟩;{refine .inl ⟨l,?_,f⟩;cases n:m a with|none=>rfl|some v=>obtain⟨i,x,h,z,_⟩:=u a v n;exact absurd z (f x (Y_ (by simpa using h)))};have r:es[j]?=zY e:=by simpa using f
 refine .inr ⟨j,e,l,r,q,?_⟩;have⟨a',k,e2⟩:=c j e r;rw[p.inj a a' (q.symm.trans k)];exact e2
def Oc{Ok:α->Prop}{enc:α->v_}{et:x_}{m:α->Option v_}{a:α}(d:D4 P t kt et z)(f:Fv P kt Ok enc)(g:Ok a)(h:Fx Ok enc H b m)(q:S b)(k:K ((m a).getD z)):A8 P (Instr.lookup t (.map (zY b)) (enc a) zU) S H K:=by obtain⟨⟨C,l,r,D,u,x⟩,n⟩:=h;refine A8.mk _ (λw y=>?_) k;have c:=(y b q).trans r;rcases Hr f g n u x w with⟨p,e2,A⟩ | ⟨j,e,p,e2,A,B⟩;{simp[Instr.lookup,run_underlying d.under,Go.MapKept.run_getObj_map c,f.check w _ a g,p,FN d.zero,e2]};simp[Instr.lookup,run_underlying d.under,Go.MapKept.run_getObj_map c,f.check w _ a g,p,B]
def FD{Ok:α->Prop}{enc:α->v_}{et:x_}{m:α->Option v_}{a:α}(d:D4 P t kt et z)(f:Fv P kt Ok enc)(g:Ok a)(h:Fx Ok enc H b m)(q:S b)(k:K (.tuple #[(m a).getD z,.bool (m a).isSome])):A8 P (Instr.lookup t (.map (zY b)) (enc a) zW) S H K:=by obtain⟨⟨C,l,r,D,u,x⟩,n⟩:=h;refine A8.mk _ (λw y=>?_) k;have c:=(y b q).trans r;rcases Hr f g n u x w with⟨p,e2,A⟩ | ⟨j,e,p,e2,A,B⟩;{simp[Instr.lookup,run_underlying d.under,Go.MapKept.run_getObj_map c,f.check w _ a g,p,FN d.zero,e2]};simp[Instr.lookup,run_underlying d.under,Go.MapKept.run_getObj_map c,f.check w _ a g,p,B]
def Ga{enc:α->v_}{m:α->Option v_}{a:α}(n:∀a b,enc a=enc b->a=b){d:Nat}(hs:Go.MapKept.Stamped es d)(B:∀(i:Nat) (x:MapEntry),es[i]?=zY x->∃a,x.key=enc a/\m a=zY x.val)(C:∀a v,m a=zY v->∃(i:Nat) (x:MapEntry),es[i]?=zY x/\x.key=enc a/\x.val=v){e:MapEntry}(l:es[j]?=zY e)(u:e.key=enc a){f:MapEntry->MapEntry}{v:v_}(g:(f e).key=enc a) (p:(f e).val=v) (q:∀x,(f x).born=x.born) (A:H'[b]?=zY (.map (es.modify j f) d)):Ew enc H' b (put m a (zY v))/\Gp enc H' b a e.born:=by have r:∀i x,(es.modify j f)[i]?=zY x->(i≠j/\es[i]?=zY x)\/(i=j/\x=f e):=by{intro i x c;rw[sG]at c;by_cases y:j=i;{subst y;rw[H_ rfl,l]at c;exact .inr ⟨rfl,by cases c;rfl⟩};rw[G_ y]at c;exact .inl ⟨Ne.symm y,c⟩};refine⟨⟨_,_,A,Go.MapKept.stamped_modify hs _ _ (λx _=>q x) (λx _ c=>?_),λi x c=>?_,λa' D w=>?_⟩,_,_,A,λi x c=>?_⟩;{rw[l]at c;cases c;rw[g,u]};{rcases r i x c with⟨k,c⟩ | ⟨_,rfl⟩;{have⟨a',t,e2⟩:=B i x c;have:a'≠a:=λh=>k (Dq hs c l (by rw[t,h,u]));exact⟨a',t,by rw[D3 this];exact e2⟩};exact⟨a,g,by rw[BU,p]⟩};{by_cases z:a'=a;{subst z;rw[BU]at w;cases w;exact⟨j,f e,by rw[sG,H_ rfl,l]<;>rfl,g,p⟩};rw[D3 z]at w;have⟨i,x,c,t,e2⟩:=C a' D w;refine⟨i,x,?_,t,e2⟩;rw[sG,G_ ?_];{exact c};rintro rfl;rw[l]at c;cases c;exact z (n _ _ (t.symm.trans u))};rcases r i x c with⟨k,c⟩ | ⟨_,rfl⟩;{exact⟨λh=>absurd (Fl hs c l h) k,λh=>absurd (Dq hs c l (h.trans u.symm)) k⟩};exact⟨λ_=>g,λ_=>q e⟩
def AlP{Ok:α->Prop}{enc:α->v_}{et:x_}{m:α->Option v_}{a:α}(C:D4 P t kt et z)(n:Fv P kt Ok enc)(g:Ok a)(h:Fx Ok enc H b m){v:v_}{K:Aa->Prop}(k:gH Ok enc H K b (put m a (zY v))):BK P (Instr.mapUpdate t (.map (zY b)) (enc a) v) H K:=by obtain⟨⟨p,c,l,D,r,u⟩,d⟩:=h;refine BK.mk λw E=>?_;subst E;rcases Hr n g d r u w with⟨x,e2,q⟩ | ⟨j,e,x,e2,q,F⟩;{have⟨y,A,B⟩:=El (o':=.map (p.push ⟨enc a,v,c⟩) (c+1)) l;exact⟨MH w b (.map (p.push ⟨enc a,v,c⟩) (c+1)),by simp[Instr.mapUpdate,run_underlying C.under,Go.MapKept.run_getObj_map l,n.check w _ a g,x,Go.MapKept.run_setObj_map _ l],⟨rfl,rfl,rfl⟩,k _ ⟨(KT D r u q y).1,Ox d g v⟩ A B⟩};have⟨y,A,B⟩:=El (o':=.map (p.modify j λe=>{e with key:=enc a,val:=v}) c) l;exact⟨MH w b (.map (p.modify j λe=>{e with key:=enc a,val:=v}) c),by simp[Instr.mapUpdate,run_underlying C.under,Go.MapKept.run_getObj_map l,n.check w _ a g,x,Go.MapKept.run_setObj_map _ l,e2,q,n.stays w a g],⟨rfl,rfl,rfl⟩,k _ ⟨(Ga n.inj D r u e2 q (f:=λe=>{e with key:=enc a,val:=v}) rfl rfl (λ_=>rfl) y).1,Ox d g v⟩ A B⟩
def AeM{Ok:α->Prop}{enc:α->v_}{et:x_}{m:α->Option v_}{a:α}(u:D4 P t kt et z)(n:Fv P kt Ok enc)(g:Ok a)(h:Fx Ok enc H b m){K:v_->Aa->Prop}(k:∀H' s,Fx Ok enc H' b (put m a (zY ((m a).getD z)))->Gp enc H' b a s->A_ (λk=>k≠b) H H'->H'.size=H.size->K (.tuple #[(m a).getD z,B_ s]) H'):Bu P (Instr.mapEntry t (.map (zY b)) (enc a)) H K:=by obtain⟨⟨q,c,l,E,x,y⟩,d⟩:=h;refine Bu.mk λw G=>?_;subst G;rcases Hr n g d x y w with⟨A,e2,r⟩ | ⟨j,e,A,e2,r,F⟩;{have⟨B,C,D⟩:=El (o':=.map (q.push ⟨enc a,z,c⟩) (c+1)) l;have p:=KT E x y r B;refine⟨.tuple #[z,B_ c],MH w b (.map (q.push ⟨enc a,z,c⟩) (c+1)),by simp[Instr.mapEntry,run_underlying u.under,Go.MapKept.run_getObj_map l,n.check w _ a g,A,Go.MapKept.run_setObj_map _ l,FN u.zero,goInt],⟨rfl,rfl,rfl⟩,?_⟩;have:=k _ c (by rw[e2];exact⟨p.1,Ox d g z⟩) p.2 C D;rw[e2]at this;exact this};have⟨B,C,D⟩:=El (o':=.map (q.modify j λe=>{e with key:=enc a}) c) l;have p:=Ga n.inj E x y e2 r (f:=λe=>{e with key:=enc a}) (v:=e.val) rfl rfl (λ_=>rfl) B;refine⟨.tuple #[e.val,B_ (e.born:Int)],MH w b (.map (q.modify j λe=>{e with key:=enc a}) c),by simp[Instr.mapEntry,run_underlying u.under,Go.MapKept.run_getObj_map l,n.check w _ a g,A,Go.MapKept.run_setObj_map _ l,e2,r,n.stays w a g,goInt],⟨rfl,rfl,rfl⟩,?_⟩;have:=k _ e.born (by rw[F];exact⟨p.1,Ox d g e.val⟩) p.2 C D;rw[F]at this;exact this
def AeP{Ok:α->Prop}{enc:α->v_}{m:α->Option v_}{a:α}{u:x_}(J:Fv P kt Ok enc)(L:Ok a)(h:Fx Ok enc H b m){s:Nat}(hs:Gp enc H b a s)(r:(m a).isSome=zW){v:v_}{K:Aa->Prop}(k:gH Ok enc H K b (put m a (zY v))):BK P (Instr.entryStore u (.map (zY b)) (.int .i64 (s:Int)) v) H K:=by obtain⟨⟨d,c,p,F,M,G⟩,t⟩:=h;have⟨N,q,g,O⟩:=hs;rw[p]at g;cases g;refine BK.mk λw Q=>?_;subst Q;have⟨R,y⟩:=lV.1 r;have⟨i,x,l,z,W⟩:=G a R y;have I:=(O i x l).2 z;have A:d.findIdx? (λe=>(e.born:Int)==(s:Int))=zY i:=by{rw[Array.findIdx?_eq_some_iff_getElem];have B:=(wW.1 l).1;have C:d[i]=x:=(wW.1 l).2;refine⟨B,by simp[C,I],λj S=>?_⟩;have D:d[j]?=zY d[j]:=tE zO;intro E;have n:d[j].born=s:=by{have:(d[j].born:Int)=(s:Int):=by{simpa using E};omega};have:=Fl F D l (n.trans I.symm);omega};have⟨T,U,V⟩:=El (o':=.map (d.modify i λe=>{e with val:=v}) c) p;exact⟨MH w b (.map (d.modify i λe=>{e with val:=v}) c),by simp[Instr.entryStore,Go.MapKept.run_getObj_map p,asInt,asIntOf,A,Go.MapKept.run_setObj_map _ p],⟨rfl,rfl,rfl⟩,k _ ⟨(Ga J.inj F M G l z (f:=λe=>{e with val:=v}) z rfl (λ_=>rfl) T).1,Ox t L v⟩ U V⟩
def I5{Ok:α->Prop}{enc:α->v_}{K:v_->Aa->Prop}(k:∀b H',b=H.size->H'.size=b+1->Fx Ok enc H' b (λ_=>zV)->A_ (λk=>k<b) H H'->K (.map (zY b)) H'):Bu P (Instr.makeMap t zV) H K:=SU λb H' c d e f=>k b H' c d ⟨e,λa v h=>by cases h⟩ f
def Il(Ok:α->Prop)(enc:α->v_)(H:Aa)(b r:Nat)(m:α->Option v_)(D:α->Prop)(last:Option α)(n:Nat):Prop:=(∃es clock seen,H[b]?=zY (.map es clock)/\Go.MapKept.Stamped es clock/\(∀(i:Nat) (x:MapEntry),es[i]?=zY x->∃a,x.key=enc a/\m a=zY x.val)/\
  (∀a v,m a=zY v->∃(i:Nat) (x:MapEntry),es[i]?=zY x/\x.key=enc a/\x.val=v)/\H[r]?=zY (.mapIter (zY b) clock seen clock)/\
  (∀(i:Nat) (x:MapEntry) (a:α),es[i]?=zY x->x.key=enc a->(seen.contains x.born=zW↔D a))/\n=(leftOf es seen).size/\
  ∀a,last=zY a->∃(e:MapEntry) (s0:Array Nat),e∈es.toList/\e.key=enc a/\seen=s0.push e.born)/\(∀a v,m a=zY v->Ok a)
def Il.agr{Ok:α->Prop}{enc:α->v_}{m:α->Option v_}{D:α->Prop}{last:Option α}(h:Il Ok enc H b r m D last n)(k:A_ S H H')(c:S b)(d:S r):Il Ok enc H' b r m D last n:=by obtain⟨⟨e,a,seen,f,g,j,l,p,q⟩,t⟩:=h;exact⟨⟨e,a,seen,(k b c).trans f,g,j,l,(k r d).trans p,q⟩,t⟩
def Il.map{Ok:α->Prop}{enc:α->v_}{m:α->Option v_}{D:α->Prop}{last:Option α}(h:Il Ok enc H b r m D last n):Fx Ok enc H b m:=by obtain⟨⟨c,a,seen,d,e,f,g,k,l⟩,j⟩:=h;exact⟨⟨c,a,d,e,f,g⟩,j⟩
end
def X6(es:Array MapEntry)(seen:Array Nat){e:MapEntry}(c:e∈(leftOf es seen).toList):(leftOf es (seen.push e.born)).size<(leftOf es seen).size:=by
 have a:leftOf es (seen.push e.born)=(leftOf es seen).filter λx=> !(x.born==e.born):=by{unfold leftOf;rw[Array.filter_filter];congr 1;funext x;rw[f_];cases a:seen.contains x.born<;>cases b:x.born==e.born<;>simp_all};have b:((leftOf es seen).filter λx=> !(x.born==e.born)).size=((leftOf es seen).toList.filter λx=> !(x.born==e.born)).length:=by rw[<-eB,sH]
 rw[a,b,<-sH];exact List.length_filter_lt_length_iff_exists.2 ⟨e,c,zZ⟩
section
variable{α:Type}
def AiY{Ok:α->Prop}{enc:α->v_}{et:x_}{m:α->Option v_}(g:D4 P t kt et z)(h:Fx Ok enc H b m){K:v_->Aa->Prop}(k:∀r n H',r=H.size->H'.size=r+1->Il Ok enc H' b r m (λ_=>False) zV n->A_ (λk=>k<H.size) H H'->K (J_ r) H'):Bu P (Instr.range t (.map (zY b))) H K:=by obtain⟨⟨f,c,d,j,l,p⟩,e⟩:=h;refine Bu.mk λw q=>?_;subst q;have u:b<w.heap.size:=(wW.1 d).1;refine⟨_,w.alloc (.mapIter (zY b) c #[] c),by simp[Instr.range,run_underlying g.under,Go.MapKept.run_getObj_map d],⟨rfl,rfl,rfl⟩,k w.heap.size (leftOf f #[]).size _ rfl (by rw[Fz];simp) ⟨⟨f,c, #[],?_,j,l,p,by rw[Fz];simp,λi x a y A=>zZ,rfl,λa h=>by cases h⟩,e⟩ (D7 _ _)⟩;rw[Fz,nJ,G_ zO];exact d
def AlH{Ok:α->Prop}{enc:α->v_}{m:α->Option v_}{D:α->Prop}{last:Option α}{ty:x_}(V:∀a b,enc a=enc b->a=b)(h:Il Ok enc H b r m D last n){K:v_->Aa->Prop}(W:(∀a,(m a).isSome=zW->D a)->K (.tuple #[.bool zU]) H)(X:∀a v H' R,m a=zY v->¬D a->R<n->Il Ok enc H' b r m (λx=>D x\/x=a) (zY a) R->A_ (λk=>k≠r) H H'->H'.size=H.size->K (.tuple #[.bool zW,enc a,v]) H'):Bu P (Instr.next (J_ r) zU ty) H K:=by
 obtain⟨⟨q,c,seen,I,E,S,T,F,J,Y,h8⟩,L⟩:=h;refine Bu.mk λw Z=>?_;subst Z;have M:b≠r:=by{rintro rfl;rw[I]at F;cases F};have y:∀x,x∈(leftOf q seen).toList↔x∈q.toList/\seen.contains x.born=zU:=λx=>by{unfold leftOf;rw[eB,yS,wD]};rcases run_next_at (P:=P) w ty r b c c seen q c F I E.1 (I_ _)with⟨e1,e2⟩ | ⟨e,U,G,z,e2⟩;{refine⟨_,w,e2,Z_.refl w,W λa ha=>?_⟩;have⟨v,hv⟩:=lV.1 ha;obtain⟨i,x,p,t,-⟩:=T a v hv;refine(J i x a p t).1 ?_;cases hs:seen.contains x.born with|true=>rfl|false=>have:=(y x).2 ⟨Y_ (i:=i) (by simpa using p),hs⟩;have h0:(leftOf q seen).toList=[]:=wL (by rw[sH];exact e1);rw[h0]at this;cases this};have⟨A,B⟩:=(y e).1 U;have⟨j,hj⟩:=xB A;have f:q[j]?=zY e:=by simpa using hj
 have⟨a,g,N⟩:=S j e f;have O:¬D a:=λhd=>by{rw[(J j e a f g).2 hd]at B;cases B};have C:G.heap=w.heap:=by rcases z with rfl | rfl<;>rfl
 have l:Z_ w G:=by rcases z with rfl | rfl<;>exact⟨rfl,rfl,rfl⟩
 have Q:r<w.heap.size:=(wW.1 F).1;have d:(Go.ChangeMaps.setBlock G r (.mapIter (zY b) c (seen.push e.born) c)).heap=w.heap.setIfInBounds r (.mapIter (zY b) c (seen.push e.born) c):=by{show G.heap.setIfInBounds r _=_;rw[C]};refine⟨_,_,e2,⟨l.os,l.tape,l.output⟩,?_⟩;rw[g];refine X a e.val _ _ N O (Y ▸ X6 q seen U) ⟨⟨q,c,seen.push e.born,?_,E,S,T,?_,λi x a' p t=>?_,rfl,λa' u=>?_⟩,L⟩ ?_ ?_;{rw[d,fZ (Ne.symm M)];exact I};{rw[d,Array.getElem?_setIfInBounds_self_of_lt Q]};{rw[f_,wX,J i x a' p t,beq_iff_eq];refine or_congr Iff.rfl ⟨λhb=>?_,λu=>?_⟩;{obtain rfl:=Fl E p f hb;rw[f]at p;cases p;exact V _ _ (t.symm.trans g)};subst u;obtain rfl:=Dq E p f (t.trans g.symm);rw[f]at p;cases p;rfl};{cases u;exact⟨e,seen,A,g,rfl⟩};{rw[d];exact λk t=>fZ (Ne.symm t)};rw[d];simp
def fI{Ok:α->Prop}{enc:α->v_}{m:α->Option v_}{D:α->Prop}{a:α}{v:v_}(h:Il Ok enc H b r m D (zY a) n)(J:∀a b,enc a=enc b->a=b)(y:m a=zY v){K:v_->Aa->Prop}(k:K (.tuple #[enc a,v]) H):Bu P (Instr.entry (J_ r)) H K:=by
 obtain⟨⟨p,c,seen,z,q,L,A,B,M,N,C⟩,E⟩:=h;obtain⟨e,F,t,u,rfl⟩:=C a rfl;refine Bu.mk λw G=>?_;subst G;have⟨i,x,f,g,l⟩:=A a v y;have⟨j,I⟩:=xB t;have d:p[j]?=zY e:=by simpa using I
 obtain rfl:=Dq q f d (g.trans u.symm);rw[d]at f;cases f;refine⟨_,w,run_entry_at w r b c F p c e B z t q.2.1,Z_.refl w,?_⟩;rw[u,l];exact k
def jM{Ok:α->Prop}{enc:α->v_}{et:x_}{m:α->Option v_}{vt:x_}(n:D4 P t kt et z)(h:Fx Ok enc H b m)(p:S b)(k:∀c:Nat,(c=0↔∀a,m a=zV)->K (.int .i64 (c:Int))):A8 P (Builtin.len_ #[t] vt [.map (zY b)].toArray) S H K:=by obtain⟨⟨j,d,q,D,r,u⟩,y⟩:=h;refine A8.mk _ (λw A=>?_) (k j.size ⟨λl a=>?_,λl=>?_⟩);{have f:=(A b p).trans q;simp[Builtin.len_,run_underlying n.under,Go.MapKept.run_getObj_map f,goInt]};{cases g:m a with|none=>rfl|some v=>obtain⟨i,x,B,-⟩:=u a v g;have:=(wW.1 B).1;omega};apply Classical.byContradiction;intro C;obtain⟨a,-,e⟩:=r 0 j[0] (tE zO);rw[l a]at e;cases e
def yZ(Ok:α->Prop)(enc:α->v_)(b:Nat)(m:α->Option v_):Pc:=⟨λk=>k=b,λH=>Fx Ok enc H b m,λh hp=>hp.agr h rfl⟩
def sD(Ok:α->Prop)(enc:α->v_)(b r:Nat)(m:α->Option v_)(D:α->Prop)(last:Option α)(n:Nat):Pc:=⟨λk=>k=b\/k=r,λH=>Il Ok enc H b r m D last n,λh hp=>hp.agr h (.inl rfl) (.inr rfl)⟩
def D_.mapW{Ok:α->Prop}{enc:α->v_}{m:α->Option v_}(a:D_ B H0 H ps)(i:Nat)(c:ps[i]?=zY (yZ Ok enc b m)):Fx Ok enc H b m:=a.at_ i c
def D_.iterW{Ok:α->Prop}{enc:α->v_}{m:α->Option v_}{D:α->Prop}{last:Option α}(a:D_ B H0 H ps)(i:Nat)(c:ps[i]?=zY (sD Ok enc b r m D last n)):Il Ok enc H b r m D last n:=a.at_ i c
def D_.mapNewW{Ok:α->Prop}{enc:α->v_}(c:D_ B H0 H ps)(d:b=H.size)(hs:H'.size=b+1)(e:Fx Ok enc H' b (λ_=>zV))(f:A_ (λk=>k<b) H H'):D_ B H0 H' (ps++[yZ Ok enc b λ_=>zV]):=by subst d;exact c.add (f.mono λk a=>a) _ e λk a=>by have:k=H.size:=a;omega
def GB{Ok:α->Prop}{enc:α->v_}{m m':α->Option v_}{et:x_}{v:v_}{a:α}{K:Aa->Prop}(d:D_ B H0 H ps)(i:Nat)(l:D4 P t kt et z)(c:Fv P kt Ok enc)(n:Ok a)(e:ps[i]?=zY (yZ Ok enc b m))(p:put m a (zY v)=m')(k:∀H',D_ B H0 H' (ps.set i (yZ Ok enc b m'))->K H'):BK P (Instr.mapUpdate t (.map (zY b)) (enc a) v) H K:=by refine AlP l c n (d.mapW i e) ?_;intro H' f g h;subst p;exact k H' (d.upd i e (g.mono λk c j=>c.2 j) _ f (λk c=>.inl c) (λk c=>by rw[h];exact(d.in_ i e c).2) zO)
def W3{Ok:α->Prop}{enc:α->v_}{m:α->Option v_}{et:x_}{K:v_->Aa->Prop}(c:D_ B H0 H ps)(i:Nat)(e:D4 P t kt et z)(d:ps[i]?=zY (yZ Ok enc b m))(k:∀r n H',D_ B H0 H' (ps.set i (sD Ok enc b r m (λ_=>False) zV n))->K (J_ r) H'):Bu P (Instr.range t (.map (zY b))) H K:=by refine AiY e (c.mapW i d) λr n H' f hs g h=>?_;subst f;have j:=(c.in_ i d (k:=b) rfl).2;refine k _ n H' (c.upd i d (h.mono λk a=>a.1) _ g (λk a=>?_) (λk a=>?_) zO);{rcases a with a | a;{exact .inl a};exact .inr zO};rcases a with rfl | rfl<;>omega
def ZS{Ok:α->Prop}{enc:α->v_}{m:α->Option v_}{D:α->Prop}{last:Option α}{ty:x_}{K:v_->Aa->Prop}(e:D_ B H0 H ps)(i:Nat)(h:∀a b,enc a=enc b->a=b)(f:ps[i]?=zY (sD Ok enc b r m D last n))(j:(∀a,(m a).isSome=zW->D a)->K (.tuple #[.bool zU]) H)(l:∀a v H' d,m a=zY v->¬D a->d<n->D_ B H0 H' (ps.set i (sD Ok enc b r m (λx=>D x\/x=a) (zY a) d))->K (.tuple #[.bool zW,enc a,v]) H'):Bu P (Instr.next (J_ r) zU ty) H K:=by refine AlH h (e.iterW i f) j λa v H' d p q t u w y=>l a v H' d p q t (e.upd i f (w.mono λk c g=>c.2 (.inr g)) _ u (λk c=>.inl c) (λk c=>by rw[y];exact(e.in_ i f c).2) zO)
def D_.iterEnd{Ok:α->Prop}{enc:α->v_}{m:α->Option v_}{D:α->Prop}{last:Option α}(a:D_ B H0 H ps)(i:Nat)(c:ps[i]?=zY (sD Ok enc b r m D last n)):D_ B H0 H (ps.set i (yZ Ok enc b m)):=a.upd i c (A_.refl _ _) _ (a.iterW i c).map (λk d=>.inl (.inl d)) (λk d=>(a.in_ i c (.inl d)).2) (I_ _)
def JP{T:Ty α}{xs:List α}{t ty q o g:Nat}{ys:List α}{ds:List v_}{K:v_->Aa->Prop}(r:D_ B H0 H ps)(i:Nat)(x:SlT P t e T.size by_ z)(w:ps[i]?=zY (pS T e a n cap xs))(hd:AO H q o ds) (y:T.reps none_ H ds ys) (A:m=ys.length) (C:∀u∈ds,u.oneCell'=zW) (l:xs.length+ys.length<=maxLen) (hby:(xs.length+ys.length)*by_<=140737488355328)(k:∀a' c H',D_ B H0 H' (ps.set i (pS T e a' (xs.length+ys.length) c (xs++ys)))->A_ (λk=>k<H.size/\¬R_ (.slice a n cap) k) H H'->K (.slice a' (xs.length+ys.length) c) H'):Bu P (Builtin.append_ #[t,t] ty [.slice a n cap,.slice (zY ⟨q,o,zV⟩) m g].toArray) H K:=by refine C8 (T:=T) (S:=none_) (lo:=0) x (r.at_ i w).1 (V_ _) (λk b=>b.elim) hd y A C l hby ?_;intro E H' d f p j;obtain⟨a',c,rfl⟩:=d.hull;rw[M_]at d j ⊢;refine k a' c H' (r.upd i w (f.mono λk b=>⟨b.1,λD=>b.2 (.inl D)⟩) _ ⟨d,λk b=>b.elim⟩ (λk b=>?_) (λk b=>?_) p) f;{rcases b with b | b;{rcases j k b with h | h;{exact .inl (.inl h)};exact .inr h};exact b.elim};rcases b with b | b;{exact(d.lt b).2};exact b.elim
end
section
variable{α β:Type}
def vK(Ok:α->Prop)(enc:α->v_)(T:Ty β)(e:x_)(b:Nat)(m:α->Option v_)(xs:α->List β):Pc where
 foot k:=k=b\/∃a,R_ (Ep m a) k
 ok H:=Fx Ok enc H b m/\(∀a,h_ T none_ H 0 e (Ep m a) (xs a))/\(∀a a' k,a≠a'->R_ (Ep m a) k->¬R_ (Ep m a') k)/\∀a,¬R_ (Ep m a) b
 fr h hp:=⟨hp.1.agr h (.inl rfl),λa=>(hp.2.1 a).agr h (λk hk=>.inr ⟨a,hk⟩) (λ_ hk=>hk.elim),hp.2.2⟩
def D_.mqMap{Ok:α->Prop}{enc:α->v_}{T:Ty β}{m:α->Option v_}{xs:α->List β}(a:D_ B H0 H ps)(i:Nat)(c:ps[i]?=zY (vK Ok enc T e b m xs)):Fx Ok enc H b m:=(a.at_ i c).1
def D_.mqView{Ok:α->Prop}{enc:α->v_}{T:Ty β}{m:α->Option v_}{xs:α->List β}(f:D_ B H0 H ps)(i:Nat)(g:ps[i]?=zY (vK Ok enc T e b m xs))(a:α):∃c cap,Ep m a= .slice c (xs a).length cap/\c_ T (F_ H) H c cap (xs a):=by obtain⟨c,cap,h,j,-⟩:=((f.at_ i g).2.1 a).view (S':=F_ H) (λk d=>(f.in_ i g (.inr ⟨a,d⟩)).2) (λ_ d=>d.elim);exact⟨c,cap,h,j⟩
def XN(Ok:α->Prop)(enc:α->v_)(T:Ty β)(e:x_)(b:Nat)(m:α->Option v_)(xs:α->List β)(a:α)(v':v_)(x':List β):Pc where
 foot k:=k=b\/R_ v' k\/∃c,c≠a/\R_ (Ep m c) k
 ok H:=Fx Ok enc H b m/\(m a).isSome=zW/\h_ T none_ H 0 e v' x'/\(∀c,c≠a->h_ T none_ H 0 e (Ep m c) (xs c))/\(∀c c' k,c≠a->c'≠a->c≠c'->R_ (Ep m c) k->¬R_ (Ep m c') k)/\(∀c k,c≠a->R_ (Ep m c) k->¬R_ v' k)/\(∀c,c≠a->¬R_ (Ep m c) b)/\¬R_ v' b
 fr h hp:=⟨hp.1.agr h (.inl rfl),hp.2.1,hp.2.2.1.agr h (λk hk=>.inr (.inl hk)) (λ_ hk=>hk.elim),λc hc=>(hp.2.2.2.1 c hc).agr h (λk hk=>.inr (.inr ⟨c,hc,hk⟩)) (λ_ hk=>hk.elim),hp.2.2.2.2⟩
def AeL{Ok:α->Prop}{enc:α->v_}{T:Ty β}{m:α->Option v_}{xs:α->List β}{et:x_}{a:α}(l:D_ B H0 H ps)(i:Nat)(x:D4 P t kt et (.slice zV 0 0))(d:Fv P kt Ok enc)(y:Ok a)(n:ps[i]?=zY (vK Ok enc T e b m xs)){K:v_->Aa->Prop}
  (k:∀s m' H',Gp enc H' b a s->A_ (λk=>k≠b) H H'->(∀c,(m' c).isSome=zW↔(m c).isSome=zW\/c=a)->D_ B H0 H' (ps.set i (XN Ok enc T e b m' xs a (Ep m a) (xs a)))->K (.tuple #[Ep m a,B_ s]) H'):Bu P (Instr.mapEntry t (.map (zY b)) (enc a)) H K:=by have⟨p,h,q,r⟩:=l.at_ i n;refine AeM x d y p λH' s z A u C=>?_;have j:∀c,Ep (put m a (zY ((m a).getD (.slice zV 0 0)))) c=Ep m c:=λc=>by{by_cases f:c=a;{subst f;rw[OE];rfl};{rw[RG f]}};refine k s _ H' A u (λc=>?_) (l.upd i n (u.mono λk d g=>d.2 (.inl g)) (XN Ok enc T e b (put m a (zY ((m a).getD (.slice zV 0 0)))) xs a (Ep m a) (xs a)) ⟨z,by rw[BU];rfl,?_,λc f=>?_,λc D k f E w=>?_,λc k f=>?_,λc f=>?_,r a⟩ (λk d=>?_) (λk d=>?_) zO);{by_cases f:c=a;{subst f;rw[BU];simp};{rw[D3 f];simp[f]}};{exact(h a).agr u (λk d g=>r a (g ▸ d)) (λ_ d=>d.elim)};{rw[j];exact(h c).agr u (λk d g=>r c (g ▸ d)) (λ_ d=>d.elim)};{rw[j,j];exact q c D k w};{rw[j];exact q c a k f};{rw[j];exact r c};{refine .inl ?_;rcases d with d | d | ⟨c,-,d⟩;{exact .inl d};{exact .inr ⟨a,d⟩};{rw[j]at d;exact .inr ⟨c,d⟩}};{rw[C];rcases d with d | d | ⟨c,-,d⟩;{exact(l.in_ i n (.inl d)).2};{exact(l.in_ i n (.inr ⟨a,d⟩)).2};{rw[j]at d;exact(l.in_ i n (.inr ⟨c,d⟩)).2}}
def AkT{Ok:α->Prop}{enc:α->v_}{T:Ty β}{m:α->Option v_}{xs:α->List β}{a:α}{ty q o l t:Nat}{v:v_}{x:List β}{ys:List β}{ds:List v_}{tt:x_}{K:v_->Aa->Prop}(D:D_ B H0 H ps)(i:Nat)(O:SlT P tt e T.size by_ z)(E:ps[i]?=zY (XN Ok enc T e b m xs a v x))
  (hd:AO H q o ds) (Q:T.reps none_ H ds ys) (R:l=ys.length) (U:∀u∈ds,u.oneCell'=zW) (F:x.length+ys.length<=maxLen) (hby:(x.length+ys.length)*by_<=140737488355328)
  (k:∀w H',D_ B H0 H' (ps.set i (XN Ok enc T e b m xs a w (x++ys)))->A_ (λk=>k<H.size/\¬R_ v k) H H'->¬R_ v b->K w H'):
  Bu P (Builtin.append_ #[tt,tt] ty [v,.slice (zY ⟨q,o,zV⟩) l t].toArray) H K:=by have⟨y,G,V,A,I,j,J,n⟩:=D.at_ i E;have p:∀c,c≠a->∀k,R_ (Ep m c) k->k<H.size:=λc g k d=>(D.in_ i E (.inr (.inr ⟨c,g,d⟩))).2;have L:b<H.size:=(D.in_ i E (.inl rfl)).2;refine C8 (T:=T) (S:=none_) (lo:=0) O V (V_ _) (λk d=>d.elim) hd Q R U F hby ?_;intro w H' C f M r;refine k w H' (D.upd i E (f.mono λk d=>⟨d.1,λJ=>d.2 (.inr (.inl J))⟩) (XN Ok enc T e b m xs a w (x++ys)) ⟨y.agr f ⟨L,n⟩,G,C,λc g=>(A c g).agr f (λk d=>⟨p c g k d,j c k g d⟩) (λ_ d=>d.elim),I,λc k g d N=>?_,J,λd=>?_⟩ (λk d=>?_) (λk d=>?_) M) f n;{rcases r k N with h | h;{exact j c k g d h};{have:=p c g k d;omega}};{rcases r b d with h | h;{exact n h};{omega}};{rcases d with d | d | d;{exact .inl (.inl d)};{rcases r k d with h | h;{exact .inl (.inr (.inl h))};{exact .inr h}};{exact .inl (.inr (.inr d))}};{rcases d with d | d | ⟨c,g,d⟩;{have:k=b:=d;omega};{exact(C.lt d).2};{have:=p c g k d;omega}}
def AeO{Ok:α->Prop}{enc:α->v_}{T:Ty β}{m:α->Option v_}{xs:α->List β}{a:α}{u:x_}{s:Nat}{v:v_}{x:List β}{K:Aa->Prop}(p:D_ B H0 H ps)(i:Nat)(d:Fv P kt Ok enc)(F:Ok a)(q:ps[i]?=zY (XN Ok enc T e b m xs a v x))(hs:Gp enc H b a s)
  (k:∀m' H',(∀c,(m' c).isSome=zW↔(m c).isSome=zW)->D_ B H0 H' (ps.set i (vK Ok enc T e b m' (upd xs a x)))->K H'):BK P (Instr.entryStore u (.map (zY b)) (.int .i64 (s:Int)) v) H K:=by have⟨r,t,G,w,C,h,E,y⟩:=p.at_ i q;refine AeP d F r hs t ?_;intro H' D z I;have n:Ep (put m a (zY v)) a=v:=OE m a v;have e2:∀c,c≠a->Ep (put m a (zY v)) c=Ep m c:=λc f=>RG f;refine k _ H' (λc=>?_) (p.upd i q (z.mono λk d g=>d.2 (.inl g)) (vK Ok enc T e b (put m a (zY v)) (upd xs a x)) ⟨D,λc=>?_,λc A k j=>?_,λc=>?_⟩ (λk d=>?_) (λk d=>?_) zO);{by_cases f:c=a;{subst f;rw[BU];simp[t]};{rw[D3 f]}};{by_cases f:c=a;{subst f;rw[n,OS];exact G.agr z (λk d g=>y (g ▸ d)) (λ_ d=>d.elim)};{rw[e2 c f,VD f];exact(w c f).agr z (λk d g=>E c f (g ▸ d)) (λ_ d=>d.elim)}};{by_cases f:c=a;{subst f;rw[n,e2 A (Ne.symm j)];exact λD z=>h A _ (Ne.symm j) z D};{by_cases l:A=a;{subst l;rw[n,e2 c f];exact h c _ f};{rw[e2 c f,e2 A l];exact C c A k f l j}}};{by_cases f:c=a;{subst f;rw[n];exact y};{rw[e2 c f];exact E c f}};{refine .inl ?_;rcases d with d | ⟨c,d⟩;{exact .inl d};{by_cases f:c=a;{subst f;rw[n]at d;exact .inr (.inl d)};{rw[e2 c f]at d;exact .inr (.inr ⟨c,f,d⟩)}}};{rw[I];rcases d with d | ⟨c,d⟩;{exact(p.in_ i q (.inl d)).2};{by_cases f:c=a;{subst f;rw[n]at d;exact(p.in_ i q (.inr (.inl d))).2};{rw[e2 c f]at d;exact(p.in_ i q (.inr (.inr ⟨c,f,d⟩))).2}}}
end
structure Slot where
 ok:Aa->v_->Prop
 fr:∀{S:Nat->Prop} {H H':Aa} {v:v_},A_ S H H'->(∀k,R_ v k->S k)->ok H v->ok H' v
 lt:∀{H:Aa} {v:v_} {k:Nat},ok H v->R_ v k->k<H.size
def Ng{k:Nat}:¬R_ (.slice zV 0 0) k:=λ⟨_,_,_,h⟩=>by cases h
instance ct3:CellT prog 3:=⟨⟨_,rfl,rfl⟩,rfl⟩
instance ct4:CellT prog 4:=⟨⟨_,rfl,rfl⟩,rfl⟩
instance ct5:CellT prog 5:=⟨⟨_,rfl,rfl⟩,rfl⟩
instance ag7:AggT prog 7 4:=⟨⟨_,rfl,rfl⟩,rfl⟩
instance ag8:AggT prog 8 4:=⟨⟨_,rfl,rfl⟩,rfl⟩
instance ct9:CellT prog 9:=⟨⟨_,rfl,rfl⟩,rfl⟩
instance ct22:CellT prog 22:=⟨⟨_,rfl,rfl⟩,rfl⟩
instance ag24:AggT prog 24 3:=⟨⟨_,rfl,rfl⟩,rfl⟩
instance fl24_0:FieldT prog 24 0 0 22 1:=⟨⟨_,_,rfl,rfl,rfl,rfl⟩,rfl,AkK⟩
instance fl24_1:FieldT prog 24 1 1 3 1:=⟨⟨_,_,rfl,rfl,rfl,rfl⟩,rfl,AkK⟩
instance ag26:AggT prog 26 6:=⟨⟨_,rfl,rfl⟩,rfl⟩
instance fl26_0:FieldT prog 26 0 0 24 3:=⟨⟨_,_,rfl,rfl,rfl,rfl⟩,rfl,AkK⟩
instance fl26_3:FieldT prog 26 3 5 3 1:=⟨⟨_,_,rfl,rfl,rfl,rfl⟩,rfl,AkK⟩
instance ct29:CellT prog 29:=⟨⟨_,rfl,rfl⟩,rfl⟩
instance ct33:CellT prog 33:=⟨⟨_,rfl,rfl⟩,rfl⟩
instance ct35:CellT prog 35:=⟨⟨_,rfl,rfl⟩,rfl⟩
instance ct36:CellT prog 36:=⟨⟨_,rfl,rfl⟩,rfl⟩
instance ct37:CellT prog 37:=⟨⟨_,rfl,rfl⟩,rfl⟩
instance fl39_0:FieldT prog 39 0 0 33 1:=⟨⟨_,_,rfl,rfl,rfl,rfl⟩,rfl,AkK⟩
instance fl39_1:FieldT prog 39 1 1 35 1:=⟨⟨_,_,rfl,rfl,rfl,rfl⟩,rfl,AkK⟩
instance fl39_2:FieldT prog 39 2 2 35 1:=⟨⟨_,_,rfl,rfl,rfl,rfl⟩,rfl,AkK⟩
instance fl39_3:FieldT prog 39 3 3 36 1:=⟨⟨_,_,rfl,rfl,rfl,rfl⟩,rfl,AkK⟩
instance fl39_4:FieldT prog 39 4 4 36 1:=⟨⟨_,_,rfl,rfl,rfl,rfl⟩,rfl,AkK⟩
instance fl39_5:FieldT prog 39 5 5 37 1:=⟨⟨_,_,rfl,rfl,rfl,rfl⟩,rfl,AkK⟩
instance fl39_6:FieldT prog 39 6 6 29 1:=⟨⟨_,_,rfl,rfl,rfl,rfl⟩,rfl,AkK⟩
instance fl39_7:FieldT prog 39 7 7 29 1:=⟨⟨_,_,rfl,rfl,rfl,rfl⟩,rfl,AkK⟩
instance ct42:CellT prog 42:=⟨⟨_,rfl,rfl⟩,rfl⟩
instance ct49:CellT prog 49:=⟨⟨_,rfl,rfl⟩,rfl⟩
instance ct57:CellT prog 57:=⟨⟨_,rfl,rfl⟩,rfl⟩
instance fl59_0:FieldT prog 59 0 0 3 1:=⟨⟨_,_,rfl,rfl,rfl,rfl⟩,rfl,AkK⟩
instance fl59_1:FieldT prog 59 1 1 57 1:=⟨⟨_,_,rfl,rfl,rfl,rfl⟩,rfl,AkK⟩
instance ct63:CellT prog 63:=⟨⟨_,rfl,rfl⟩,rfl⟩
def De:Qs prog 65 4 63 1:=⟨rfl,rfl⟩
instance ag65:AggT prog 65 4:=⟨⟨_,rfl,rfl⟩,rfl⟩
instance ag67:AggT prog 67 4:=⟨⟨_,rfl,rfl⟩,rfl⟩
instance fl67_0:FieldT prog 67 0 0 65 4:=⟨⟨_,_,rfl,rfl,rfl,rfl⟩,rfl,AkK⟩
instance fl70_0:FieldT prog 70 0 0 35 1:=⟨⟨_,_,rfl,rfl,rfl,rfl⟩,rfl,AkK⟩
instance fl70_1:FieldT prog 70 1 1 35 1:=⟨⟨_,_,rfl,rfl,rfl,rfl⟩,rfl,AkK⟩
instance fl71_0:FieldT prog 71 0 0 35 1:=⟨⟨_,_,rfl,rfl,rfl,rfl⟩,rfl,AkK⟩
instance fl71_1:FieldT prog 71 1 1 35 1:=⟨⟨_,_,rfl,rfl,rfl,rfl⟩,rfl,AkK⟩
instance fl72_0:FieldT prog 72 0 0 35 1:=⟨⟨_,_,rfl,rfl,rfl,rfl⟩,rfl,AkK⟩
instance fl72_1:FieldT prog 72 1 1 35 1:=⟨⟨_,_,rfl,rfl,rfl,rfl⟩,rfl,AkK⟩
instance ag73:AggT prog 73 2:=⟨⟨_,rfl,rfl⟩,rfl⟩
instance fl73_0:FieldT prog 73 0 0 35 1:=⟨⟨_,_,rfl,rfl,rfl,rfl⟩,rfl,AkK⟩
instance fl73_1:FieldT prog 73 1 1 35 1:=⟨⟨_,_,rfl,rfl,rfl,rfl⟩,rfl,AkK⟩
instance fl75_0:FieldT prog 75 0 0 35 1:=⟨⟨_,_,rfl,rfl,rfl,rfl⟩,rfl,AkK⟩
instance ct80:CellT prog 80:=⟨⟨_,rfl,rfl⟩,rfl⟩
def qQ:SlT prog 80 122 3 32 (Tryz.t122.zero.getD undef):=⟨rfl,⟨_,rfl,rfl,rfl,rfl⟩,rfl⟩
instance fl85_0:FieldT prog 85 0 0 80 1:=⟨⟨_,_,rfl,rfl,rfl,rfl⟩,rfl,AkK⟩
instance fl85_1:FieldT prog 85 1 1 3 1:=⟨⟨_,_,rfl,rfl,rfl,rfl⟩,rfl,AkK⟩
instance ct88:CellT prog 88:=⟨⟨_,rfl,rfl⟩,rfl⟩
instance fl90_0:FieldT prog 90 0 0 88 1:=⟨⟨_,_,rfl,rfl,rfl,rfl⟩,rfl,AkK⟩
instance ct91:CellT prog 91:=⟨⟨_,rfl,rfl⟩,rfl⟩
def lK:SlT prog 91 97 3 40 (Tryz.t97.zero.getD undef):=⟨rfl,⟨_,rfl,rfl,rfl,rfl⟩,rfl⟩
instance ct93:CellT prog 93:=⟨⟨_,rfl,rfl⟩,rfl⟩
instance fl95_0:FieldT prog 95 0 0 91 1:=⟨⟨_,_,rfl,rfl,rfl,rfl⟩,rfl,AkK⟩
instance fl95_1:FieldT prog 95 1 1 93 1:=⟨⟨_,_,rfl,rfl,rfl,rfl⟩,rfl,AkK⟩
instance ag97:AggT prog 97 3:=⟨⟨_,rfl,rfl⟩,rfl⟩
instance fl97_0:FieldT prog 97 0 0 3 1:=⟨⟨_,_,rfl,rfl,rfl,rfl⟩,rfl,AkK⟩
instance fl97_1:FieldT prog 97 1 1 9 1:=⟨⟨_,_,rfl,rfl,rfl,rfl⟩,rfl,AkK⟩
instance fl97_2:FieldT prog 97 2 2 93 1:=⟨⟨_,_,rfl,rfl,rfl,rfl⟩,rfl,AkK⟩
instance ct103:CellT prog 103:=⟨⟨_,rfl,rfl⟩,rfl⟩
instance AmY:FieldT prog 105 0 0 3 1:=⟨⟨_,_,rfl,rfl,rfl,rfl⟩,rfl,AkK⟩
instance AmZ:FieldT prog 105 1 1 9 1:=⟨⟨_,_,rfl,rfl,rfl,rfl⟩,rfl,AkK⟩
instance An0:FieldT prog 105 2 2 35 1:=⟨⟨_,_,rfl,rfl,rfl,rfl⟩,rfl,AkK⟩
instance An1:FieldT prog 105 3 3 9 1:=⟨⟨_,_,rfl,rfl,rfl,rfl⟩,rfl,AkK⟩
instance An2:FieldT prog 105 4 4 103 1:=⟨⟨_,_,rfl,rfl,rfl,rfl⟩,rfl,AkK⟩
instance An3:FieldT prog 105 5 5 33 1:=⟨⟨_,_,rfl,rfl,rfl,rfl⟩,rfl,AkK⟩
instance An4:FieldT prog 105 6 6 33 1:=⟨⟨_,_,rfl,rfl,rfl,rfl⟩,rfl,AkK⟩
instance An5:FieldT prog 115 1 1 35 1:=⟨⟨_,_,rfl,rfl,rfl,rfl⟩,rfl,AkK⟩
instance An6:FieldT prog 115 2 2 35 1:=⟨⟨_,_,rfl,rfl,rfl,rfl⟩,rfl,AkK⟩
instance An7:FieldT prog 115 3 3 36 1:=⟨⟨_,_,rfl,rfl,rfl,rfl⟩,rfl,AkK⟩
instance An8:FieldT prog 115 4 4 36 1:=⟨⟨_,_,rfl,rfl,rfl,rfl⟩,rfl,AkK⟩
instance An9:FieldT prog 115 5 5 37 1:=⟨⟨_,_,rfl,rfl,rfl,rfl⟩,rfl,AkK⟩
instance AnA:FieldT prog 115 6 6 37 1:=⟨⟨_,_,rfl,rfl,rfl,rfl⟩,rfl,AkK⟩
instance AnB:FieldT prog 118 0 0 9 1:=⟨⟨_,_,rfl,rfl,rfl,rfl⟩,rfl,AkK⟩
instance AnC:FieldT prog 118 1 1 3 1:=⟨⟨_,_,rfl,rfl,rfl,rfl⟩,rfl,AkK⟩
instance AnD:FieldT prog 118 2 2 80 1:=⟨⟨_,_,rfl,rfl,rfl,rfl⟩,rfl,AkK⟩
instance AnE:FieldT prog 118 3 3 24 3:=⟨⟨_,_,rfl,rfl,rfl,rfl⟩,rfl,AkK⟩
instance ag122:AggT prog 122 3:=⟨⟨_,rfl,rfl⟩,rfl⟩
instance AnF:FieldT prog 122 0 0 3 1:=⟨⟨_,_,rfl,rfl,rfl,rfl⟩,rfl,AkK⟩
instance AnG:FieldT prog 122 1 1 3 1:=⟨⟨_,_,rfl,rfl,rfl,rfl⟩,rfl,AkK⟩
instance AnH:FieldT prog 122 2 2 9 1:=⟨⟨_,_,rfl,rfl,rfl,rfl⟩,rfl,AkK⟩
instance AnI:FieldT prog 129 0 0 3 1:=⟨⟨_,_,rfl,rfl,rfl,rfl⟩,rfl,AkK⟩
instance AnJ:FieldT prog 129 1 1 9 1:=⟨⟨_,_,rfl,rfl,rfl,rfl⟩,rfl,AkK⟩
instance AnK:FieldT prog 131 0 0 3 1:=⟨⟨_,_,rfl,rfl,rfl,rfl⟩,rfl,AkK⟩
instance AnL:FieldT prog 131 1 1 9 1:=⟨⟨_,_,rfl,rfl,rfl,rfl⟩,rfl,AkK⟩
instance AnM:FieldT prog 132 0 0 3 1:=⟨⟨_,_,rfl,rfl,rfl,rfl⟩,rfl,AkK⟩
instance AnN:FieldT prog 132 1 1 9 1:=⟨⟨_,_,rfl,rfl,rfl,rfl⟩,rfl,AkK⟩
instance AnO:FieldT prog 133 0 0 3 1:=⟨⟨_,_,rfl,rfl,rfl,rfl⟩,rfl,AkK⟩
instance AnP:FieldT prog 133 1 1 9 1:=⟨⟨_,_,rfl,rfl,rfl,rfl⟩,rfl,AkK⟩
instance AnQ:FieldT prog 137 0 0 3 1:=⟨⟨_,_,rfl,rfl,rfl,rfl⟩,rfl,AkK⟩
instance AnR:FieldT prog 137 1 1 35 1:=⟨⟨_,_,rfl,rfl,rfl,rfl⟩,rfl,AkK⟩
instance AnS:FieldT prog 139 0 0 3 1:=⟨⟨_,_,rfl,rfl,rfl,rfl⟩,rfl,AkK⟩
instance AnT:FieldT prog 139 1 1 93 1:=⟨⟨_,_,rfl,rfl,rfl,rfl⟩,rfl,AkK⟩
instance ag141:AggT prog 141 3:=⟨⟨_,rfl,rfl⟩,rfl⟩
instance AnU:FieldT prog 141 0 0 3 1:=⟨⟨_,_,rfl,rfl,rfl,rfl⟩,rfl,AkK⟩
instance AnV:FieldT prog 141 1 1 9 1:=⟨⟨_,_,rfl,rfl,rfl,rfl⟩,rfl,AkK⟩
instance AnW:FieldT prog 141 2 2 93 1:=⟨⟨_,_,rfl,rfl,rfl,rfl⟩,rfl,AkK⟩
instance ag144:AggT prog 144 4:=⟨⟨_,rfl,rfl⟩,rfl⟩
instance AnX:FieldT prog 144 0 0 3 1:=⟨⟨_,_,rfl,rfl,rfl,rfl⟩,rfl,AkK⟩
instance AnY:FieldT prog 144 1 1 9 1:=⟨⟨_,_,rfl,rfl,rfl,rfl⟩,rfl,AkK⟩
instance AnZ:FieldT prog 144 2 2 93 1:=⟨⟨_,_,rfl,rfl,rfl,rfl⟩,rfl,AkK⟩
instance Ao0:FieldT prog 144 3 3 93 1:=⟨⟨_,_,rfl,rfl,rfl,rfl⟩,rfl,AkK⟩
instance ct146:CellT prog 146:=⟨⟨_,rfl,rfl⟩,rfl⟩
def WN:SlT prog 146 93 1 16 (Tryz.t93.zero.getD undef):=⟨rfl,⟨_,rfl,rfl,rfl,rfl⟩,rfl⟩
instance ag148:AggT prog 148 3:=⟨⟨_,rfl,rfl⟩,rfl⟩
instance Ao1:FieldT prog 148 0 0 3 1:=⟨⟨_,_,rfl,rfl,rfl,rfl⟩,rfl,AkK⟩
instance Ao2:FieldT prog 148 1 1 9 1:=⟨⟨_,_,rfl,rfl,rfl,rfl⟩,rfl,AkK⟩
instance Ao3:FieldT prog 148 2 2 146 1:=⟨⟨_,_,rfl,rfl,rfl,rfl⟩,rfl,AkK⟩
instance ag160:AggT prog 160 3:=⟨⟨_,rfl,rfl⟩,rfl⟩
instance Ao4:FieldT prog 160 0 0 9 1:=⟨⟨_,_,rfl,rfl,rfl,rfl⟩,rfl,AkK⟩
instance ag165:AggT prog 165 2:=⟨⟨_,rfl,rfl⟩,rfl⟩
instance Ao5:FieldT prog 165 0 0 5 1:=⟨⟨_,_,rfl,rfl,rfl,rfl⟩,rfl,AkK⟩
instance Ao6:FieldT prog 165 1 1 5 1:=⟨⟨_,_,rfl,rfl,rfl,rfl⟩,rfl,AkK⟩
def gM:Qs prog 166 3 165 2:=⟨rfl,rfl⟩
instance ag166:AggT prog 166 6:=⟨⟨_,rfl,rfl⟩,rfl⟩
instance ct167:CellT prog 167:=⟨⟨_,rfl,rfl⟩,rfl⟩
def Ct:SlT prog 167 5 1 1 (.int .u8 0):=⟨rfl,⟨_,rfl,rfl,rfl,rfl⟩,rfl⟩
instance Ao7:FieldT prog 172 0 0 3 1:=⟨⟨_,_,rfl,rfl,rfl,rfl⟩,rfl,AkK⟩
instance Ao8:FieldT prog 172 1 1 3 1:=⟨⟨_,_,rfl,rfl,rfl,rfl⟩,rfl,AkK⟩
instance ct181:CellT prog 181:=⟨⟨_,rfl,rfl⟩,rfl⟩
def AQ:SlT prog 181 3 1 8 (.int .i64 0):=⟨rfl,⟨_,rfl,rfl,rfl,rfl⟩,rfl⟩
instance Ao9:FieldT prog 183 0 0 9 1:=⟨⟨_,_,rfl,rfl,rfl,rfl⟩,rfl,AkK⟩
instance AoA:FieldT prog 183 1 1 3 1:=⟨⟨_,_,rfl,rfl,rfl,rfl⟩,rfl,AkK⟩
instance AoB:FieldT prog 183 2 2 181 1:=⟨⟨_,_,rfl,rfl,rfl,rfl⟩,rfl,AkK⟩
instance ct184:CellT prog 184:=⟨⟨_,rfl,rfl⟩,rfl⟩
instance ag186:AggT prog 186 2:=⟨⟨_,rfl,rfl⟩,rfl⟩
instance AoC:FieldT prog 186 0 0 3 1:=⟨⟨_,_,rfl,rfl,rfl,rfl⟩,rfl,AkK⟩
instance AoD:FieldT prog 186 1 1 184 1:=⟨⟨_,_,rfl,rfl,rfl,rfl⟩,rfl,AkK⟩
instance AoE:FieldT prog 191 0 0 3 1:=⟨⟨_,_,rfl,rfl,rfl,rfl⟩,rfl,AkK⟩
instance AoF:FieldT prog 191 1 1 9 1:=⟨⟨_,_,rfl,rfl,rfl,rfl⟩,rfl,AkK⟩
instance AoG:FieldT prog 191 2 2 35 1:=⟨⟨_,_,rfl,rfl,rfl,rfl⟩,rfl,AkK⟩
instance AoH:FieldT prog 191 3 3 9 1:=⟨⟨_,_,rfl,rfl,rfl,rfl⟩,rfl,AkK⟩
instance AoI:FieldT prog 191 4 4 9 1:=⟨⟨_,_,rfl,rfl,rfl,rfl⟩,rfl,AkK⟩
instance AoJ:FieldT prog 191 5 5 103 1:=⟨⟨_,_,rfl,rfl,rfl,rfl⟩,rfl,AkK⟩
instance AoK:FieldT prog 191 6 6 103 1:=⟨⟨_,_,rfl,rfl,rfl,rfl⟩,rfl,AkK⟩
instance ct192:CellT prog 192:=⟨⟨_,rfl,rfl⟩,rfl⟩
def VM:Qs prog 193 5 9 1:=⟨rfl,rfl⟩
instance ag193:AggT prog 193 5:=⟨⟨_,rfl,rfl⟩,rfl⟩
instance ct196:CellT prog 196:=⟨⟨_,rfl,rfl⟩,rfl⟩
def Qd:SlT prog 196 42 1 16 (Tryz.t42.zero.getD undef):=⟨rfl,⟨_,rfl,rfl,rfl,rfl⟩,rfl⟩
instance AoL:FieldT prog 198 0 0 148 3:=⟨⟨_,_,rfl,rfl,rfl,rfl⟩,rfl,AkK⟩
instance AoM:FieldT prog 198 1 3 196 1:=⟨⟨_,_,rfl,rfl,rfl,rfl⟩,rfl,AkK⟩
instance AoN:FieldT prog 198 2 4 3 1:=⟨⟨_,_,rfl,rfl,rfl,rfl⟩,rfl,AkK⟩
instance ct211:CellT prog 211:=⟨⟨_,rfl,rfl⟩,rfl⟩
instance ct212:CellT prog 212:=⟨⟨_,rfl,rfl⟩,rfl⟩
instance AoO:FieldT prog 214 0 0 167 1:=⟨⟨_,_,rfl,rfl,rfl,rfl⟩,rfl,AkK⟩
instance AoP:FieldT prog 214 1 1 211 1:=⟨⟨_,_,rfl,rfl,rfl,rfl⟩,rfl,AkK⟩
instance AoQ:FieldT prog 214 2 2 212 1:=⟨⟨_,_,rfl,rfl,rfl,rfl⟩,rfl,AkK⟩
instance ag216:AggT prog 216 3:=⟨⟨_,rfl,rfl⟩,rfl⟩
instance AoR:FieldT prog 216 0 0 3 1:=⟨⟨_,_,rfl,rfl,rfl,rfl⟩,rfl,AkK⟩
instance AoS:FieldT prog 216 1 1 3 1:=⟨⟨_,_,rfl,rfl,rfl,rfl⟩,rfl,AkK⟩
instance AoT:FieldT prog 216 2 2 3 1:=⟨⟨_,_,rfl,rfl,rfl,rfl⟩,rfl,AkK⟩
def Cy:SlT prog 217 216 3 24 (Tryz.t216.zero.getD undef):=⟨rfl,⟨_,rfl,rfl,rfl,rfl⟩,rfl⟩
instance ct220:CellT prog 220:=⟨⟨_,rfl,rfl⟩,rfl⟩
instance ct222:CellT prog 222:=⟨⟨_,rfl,rfl⟩,rfl⟩
instance ct223:CellT prog 223:=⟨⟨_,rfl,rfl⟩,rfl⟩
def EO:SlT prog 223 277 7 56 (Tryz.t277.zero.getD undef):=⟨rfl,⟨_,rfl,rfl,rfl,rfl⟩,rfl⟩
instance ag225:AggT prog 225 4:=⟨⟨_,rfl,rfl⟩,rfl⟩
instance AoU:FieldT prog 225 0 0 3 1:=⟨⟨_,_,rfl,rfl,rfl,rfl⟩,rfl,AkK⟩
instance AoV:FieldT prog 225 1 1 3 1:=⟨⟨_,_,rfl,rfl,rfl,rfl⟩,rfl,AkK⟩
instance AoW:FieldT prog 225 2 2 3 1:=⟨⟨_,_,rfl,rfl,rfl,rfl⟩,rfl,AkK⟩
instance AoX:FieldT prog 225 3 3 223 1:=⟨⟨_,_,rfl,rfl,rfl,rfl⟩,rfl,AkK⟩
instance ct228:CellT prog 228:=⟨⟨_,rfl,rfl⟩,rfl⟩
instance ct234:CellT prog 234:=⟨⟨_,rfl,rfl⟩,rfl⟩
instance AoY:FieldT prog 240 0 0 3 1:=⟨⟨_,_,rfl,rfl,rfl,rfl⟩,rfl,AkK⟩
instance ct242:CellT prog 242:=⟨⟨_,rfl,rfl⟩,rfl⟩
def Cj:SlT prog 242 65 4 32 (Tryz.t65.zero.getD undef):=⟨rfl,⟨_,rfl,rfl,rfl,rfl⟩,rfl⟩
def gN:Qs prog 243 256 5 1:=⟨rfl,rfl⟩
instance ct244:CellT prog 244:=⟨⟨_,rfl,rfl⟩,rfl⟩
def CS:SlT prog 244 181 1 24 (.slice zV 0 0):=⟨rfl,⟨_,rfl,rfl,rfl,rfl⟩,rfl⟩
instance ct245:CellT prog 245:=⟨⟨_,rfl,rfl⟩,rfl⟩
def DT:SlT prog 245 4 1 1 (.bool zU):=⟨rfl,⟨_,rfl,rfl,rfl,rfl⟩,rfl⟩
instance AoZ:FieldT prog 247 0 0 242 1:=⟨⟨_,_,rfl,rfl,rfl,rfl⟩,rfl,AkK⟩
instance Ap0:FieldT prog 247 1 1 243 256:=⟨⟨_,_,rfl,rfl,rfl,rfl⟩,rfl,AkK⟩
instance Ap1:FieldT prog 247 2 257 244 1:=⟨⟨_,_,rfl,rfl,rfl,rfl⟩,rfl,AkK⟩
instance Ap2:FieldT prog 247 3 258 245 1:=⟨⟨_,_,rfl,rfl,rfl,rfl⟩,rfl,AkK⟩
instance Ap3:FieldT prog 247 4 259 245 1:=⟨⟨_,_,rfl,rfl,rfl,rfl⟩,rfl,AkK⟩
def WO:SlT prog 248 36 1 8 (.pointer zV):=⟨rfl,⟨_,rfl,rfl,rfl,rfl⟩,rfl⟩
instance ag257:AggT prog 257 2:=⟨⟨_,rfl,rfl⟩,rfl⟩
instance Ap4:FieldT prog 257 0 0 3 1:=⟨⟨_,_,rfl,rfl,rfl,rfl⟩,rfl,AkK⟩
instance Ap5:FieldT prog 257 1 1 3 1:=⟨⟨_,_,rfl,rfl,rfl,rfl⟩,rfl,AkK⟩
instance ag259:AggT prog 259 2:=⟨⟨_,rfl,rfl⟩,rfl⟩
instance Ap6:FieldT prog 259 0 0 3 1:=⟨⟨_,_,rfl,rfl,rfl,rfl⟩,rfl,AkK⟩
instance Ap7:FieldT prog 259 1 1 5 1:=⟨⟨_,_,rfl,rfl,rfl,rfl⟩,rfl,AkK⟩
def Qe:SlT prog 261 257 2 16 (Tryz.t257.zero.getD undef):=⟨rfl,⟨_,rfl,rfl,rfl,rfl⟩,rfl⟩
instance Ap8:FieldT prog 266 0 0 225 4:=⟨⟨_,_,rfl,rfl,rfl,rfl⟩,rfl,AkK⟩
instance Ap9:FieldT prog 266 1 4 228 1:=⟨⟨_,_,rfl,rfl,rfl,rfl⟩,rfl,AkK⟩
instance ApA:FieldT prog 266 2 5 22 1:=⟨⟨_,_,rfl,rfl,rfl,rfl⟩,rfl,AkK⟩
instance ct271:CellT prog 271:=⟨⟨_,rfl,rfl⟩,rfl⟩
instance ct273:CellT prog 273:=⟨⟨_,rfl,rfl⟩,rfl⟩
def TI:SlT prog 273 223 1 24 (.slice zV 0 0):=⟨rfl,⟨_,rfl,rfl,rfl,rfl⟩,rfl⟩
instance ApB:FieldT prog 275 0 0 244 1:=⟨⟨_,_,rfl,rfl,rfl,rfl⟩,rfl,AkK⟩
instance ApC:FieldT prog 275 1 1 273 1:=⟨⟨_,_,rfl,rfl,rfl,rfl⟩,rfl,AkK⟩
instance ApD:FieldT prog 275 2 2 3 1:=⟨⟨_,_,rfl,rfl,rfl,rfl⟩,rfl,AkK⟩
instance ag277:AggT prog 277 7:=⟨⟨_,rfl,rfl⟩,rfl⟩
instance ApE:FieldT prog 277 0 0 3 1:=⟨⟨_,_,rfl,rfl,rfl,rfl⟩,rfl,AkK⟩
instance ApF:FieldT prog 277 1 1 3 1:=⟨⟨_,_,rfl,rfl,rfl,rfl⟩,rfl,AkK⟩
instance ApG:FieldT prog 277 2 2 4 1:=⟨⟨_,_,rfl,rfl,rfl,rfl⟩,rfl,AkK⟩
instance ApH:FieldT prog 277 3 3 65 4:=⟨⟨_,_,rfl,rfl,rfl,rfl⟩,rfl,AkK⟩
def gO:Qs prog 289 2 65 4:=⟨rfl,rfl⟩
instance ct300:CellT prog 300:=⟨⟨_,rfl,rfl⟩,rfl⟩
def WP:SlT prog 300 9 1 16 (Tryz.t9.zero.getD undef):=⟨rfl,⟨_,rfl,rfl,rfl,rfl⟩,rfl⟩
instance ApI:FieldT prog 302 0 0 192 1:=⟨⟨_,_,rfl,rfl,rfl,rfl⟩,rfl,AkK⟩
instance ApJ:FieldT prog 302 1 1 300 1:=⟨⟨_,_,rfl,rfl,rfl,rfl⟩,rfl,AkK⟩
instance ApK:FieldT prog 302 2 2 3 1:=⟨⟨_,_,rfl,rfl,rfl,rfl⟩,rfl,AkK⟩
instance ag308:AggT prog 308 2:=⟨⟨_,rfl,rfl⟩,rfl⟩
instance ApL:FieldT prog 308 0 0 3 1:=⟨⟨_,_,rfl,rfl,rfl,rfl⟩,rfl,AkK⟩
instance ApM:FieldT prog 308 1 1 3 1:=⟨⟨_,_,rfl,rfl,rfl,rfl⟩,rfl,AkK⟩
instance ct319:CellT prog 319:=⟨⟨_,rfl,rfl⟩,rfl⟩
instance ct320:CellT prog 320:=⟨⟨_,rfl,rfl⟩,rfl⟩
def WQ:SlT prog 320 308 2 16 (Tryz.t308.zero.getD undef):=⟨rfl,⟨_,rfl,rfl,rfl,rfl⟩,rfl⟩
instance ApN:FieldT prog 322 0 0 319 1:=⟨⟨_,_,rfl,rfl,rfl,rfl⟩,rfl,AkK⟩
instance ApO:FieldT prog 322 1 1 320 1:=⟨⟨_,_,rfl,rfl,rfl,rfl⟩,rfl,AkK⟩
instance ApP:FieldT prog 322 2 2 3 1:=⟨⟨_,_,rfl,rfl,rfl,rfl⟩,rfl,AkK⟩
instance ApQ:FieldT prog 341 0 0 9 1:=⟨⟨_,_,rfl,rfl,rfl,rfl⟩,rfl,AkK⟩
instance ApR:FieldT prog 341 1 1 3 1:=⟨⟨_,_,rfl,rfl,rfl,rfl⟩,rfl,AkK⟩
def wd(s:BitVec 256)(i:Nat):Nat:=(s.toNat / 2^(64*i)) % 2^64
def AX(s:BitVec 256):v_:=.agg #[.int .u64 (wd s 0),.int .u64 (wd s 1),.int .u64 (wd s 2),.int .u64 (wd s 3)]
def Ag(s:BitVec 256):List v_:=[.int .u64 (wd s 0),.int .u64 (wd s 1),.int .u64 (wd s 2),.int .u64 (wd s 3)]
def IU(s:BitVec 256)(i:Nat):wd s i<2^64:=nP _ zQ
def DX(s:BitVec 256)(i:Nat):zC .u64 (wd s i:Int):=by have:=IU s i;refine⟨?_,?_⟩<;>simp only[IntKind.min,IntKind.max,IntKind.signed,IntKind.bits]<;>simp<;>omega
def E7(s:BitVec 256)(i j:Nat)(a:j<64):(wd s i).testBit j=s.getLsbD (64*i+j):=by unfold wd;rw[Nat.testBit_mod_two_pow,Nat.testBit_div_two_pow,BitVec.testBit_toNat];simp[a];congr 1;omega
def hY{s t:BitVec 256}(h:∀i,i<4->wd s i=wd t i):s=t:=by apply rC;intro k c;have a:=E7 s (k / 64) (k % 64) (nP _ zQ);have b:=E7 t (k / 64) (k % 64) (nP _ zQ);rw[(zO:64*(k / 64)+k % 64=k)]at a b;rw[<-a,<-b,h _ zO]
def cX{s t:BitVec 256}(h:AX s=AX t):s=t:=by unfold AX at h;simp only[Value.agg.injEq,Array.mk.injEq,List.cons.injEq,Value.int.injEq,true_and,and_true,eE]at h;apply hY;intro i a;match i,a with|0,_=>exact h.1|1,_=>exact h.2.1|2,_=>exact h.2.2.1|3,_=>exact h.2.2.2
def P6(s:BitVec 256)(b:Nat)(j:b<256)(H:Aa):AT prog 35 #[AX s,.int .u8 b] H (.bool (s.getLsbD b)):=by
 refine Am.of_vc func35 rfl (call35 _) ?_;(conv=>whnf);refine BF (Ag s) rfl ?_;intro p H1 e f a c;refine Lm (b:=6) (by decide) (yX De (by omega) (by omega) (C_ (v:=.int .u64 (wd s (b / 64))) ?_ zA ?_));{rw[a.cell];have:b / 2^6<4:=by{omega};rw[show b / 64=b / 2^6 by omega];generalize b / 2^6=q at this;match q,this with|0,_=>rfl|1,_=>rfl|2,_=>rfl|3,_=>rfl};refine Ik (b:=63) ⟨by simp[IntKind.min,IntKind.signed],by simp[IntKind.max,IntKind.signed,IntKind.bits];omega⟩ ⟨by decide,by decide⟩ ?_;refine Lm (V' Nat.and_le_right (by decide)) (Ik (b:=1) (Z0 (DX s _) (Nat.div_le_self _ _)) ⟨by decide,by decide⟩ ?_);(conv=>whnf);refine⟨?_,by rw[<-e];exact c⟩;congr 1;have g:b &&& 63=b % 64:=by rw[show(63:Nat)=2^6-1 by decide,eK]
 have d:=E7 s (b / 64) (b % 64) (nP _ (by decide));rw[show 64*(b / 64)+b % 64=b by omega]at d;rw[g,<-d,Nat.testBit_eq_decide_div_mod_eq,Nat.and_one_is_mod];have:=Nat.mod_two_eq_zero_or_one (wd s (b / 64) / 2^(b % 64));rcases this with h | h<;>simp[h]
def RQ(a b:BitVec 256)(i:Nat):wd (a &&& b) i=wd a i &&& wd b i:=by apply lY;intro j;rw[Nat.testBit_and];by_cases c:j<64;{rw[E7 _ _ _ c,E7 _ _ _ c,E7 _ _ _ c,BitVec.getLsbD_and]};rw[sJ (yQ (IU _ _) (tS zQ zO)),sJ (x:=wd a i) (yQ (IU _ _) (tS zQ zO))];rfl
def Xe(a b:BitVec 256)(i:Nat):wd (a ||| b) i=wd a i ||| wd b i:=by apply lY;intro j;rw[kF];by_cases c:j<64;{rw[E7 _ _ _ c,E7 _ _ _ c,E7 _ _ _ c,rS]};rw[sJ (yQ (IU _ _) (tS zQ zO)),sJ (x:=wd a i) (yQ (IU _ _) (tS zQ zO)),sJ (x:=wd b i) (yQ (IU _ _) (tS zQ zO))];rfl
def UY(a b:BitVec 256)(H:Aa):AT prog 158 #[AX a,AX b] H (AX (a &&& b)):=by refine Am.of_vc func158 rfl (call158 _) (BF (Ag a) rfl ?_);intro p H1 y n c g;refine BF (Ag b) rfl ?_;intro q H2 z t d f;refine Aq (AX 0) (Ag 0) rfl rfl ?_;intro r H3 A u h e;replace c:=(c.agr f (show p<q by omega)).agr e (show p<r by omega);replace d:=d.agr e (show q<r by omega);refine yX De (by decide) (by decide) (C_ ((c.cell _).trans rfl) zA (yX De (by decide) (by decide) (C_ ((d.cell _).trans rfl) zA (Ik (DX a _) (DX b _) (yX De (by decide) (by decide) (C_ ((c.cell _).trans rfl) zA (yX De (by decide) (by decide) (C_ ((d.cell _).trans rfl) zA (Ik (DX a _) (DX b _) (yX De (by decide) (by decide) (C_ ((c.cell _).trans rfl) zA (yX De (by decide) (by decide) (C_ ((d.cell _).trans rfl) zA (Ik (DX a _) (DX b _) (yX De (by decide) (by decide) (C_ ((c.cell _).trans rfl) zA (yX De (by decide) (by decide) (C_ ((d.cell _).trans rfl) zA (Ik (DX a _) (DX b _) (Em De (AX 0) rfl [Value.int .u64 ((wd a 0 &&& wd b 0:Nat):Int),Value.int .u64 ((wd a 1 &&& wd b 1:Nat):Int),Value.int .u64 ((wd a 2 &&& wd b 2:Nat):Int),Value.int .u64 ((wd a 3 &&& wd b 3:Nat):Int)] rfl (wG rfl h (show 0+4<=4 by decide) rfl ?_)))))))))))))))))))));intro H4 l m w;refine K_ (cs:=[Value.int .u64 ((wd a 0 &&& wd b 0:Nat):Int),Value.int .u64 ((wd a 1 &&& wd b 1:Nat):Int),Value.int .u64 ((wd a 2 &&& wd b 2:Nat):Int),Value.int .u64 ((wd a 3 &&& wd b 3:Nat):Int)]) (l.cells (λj v x=>by simpa [As,Ag]using x)) zA (⟨?_,?_⟩);{unfold AX;rw[RQ,RQ,RQ,RQ]};intro k B;rw[m k (by omega),e k (by omega),f k (by omega),g k (by omega)]
def Jv(a b:BitVec 256)(H:Aa):AT prog 168 #[AX a,AX b] H (AX (a ||| b)):=by refine Am.of_vc func168 rfl (call168 _) (BF (Ag a) rfl ?_);intro p H1 y n c g;refine BF (Ag b) rfl ?_;intro q H2 z t d f;refine Aq (AX 0) (Ag 0) rfl rfl ?_;intro r H3 A u h e;replace c:=(c.agr f (show p<q by omega)).agr e (show p<r by omega);replace d:=d.agr e (show q<r by omega);refine yX De (by decide) (by decide) (C_ ((c.cell _).trans rfl) zA (yX De (by decide) (by decide) (C_ ((d.cell _).trans rfl) zA (rP (DX a _) (DX b _) (yX De (by decide) (by decide) (C_ ((c.cell _).trans rfl) zA (yX De (by decide) (by decide) (C_ ((d.cell _).trans rfl) zA (rP (DX a _) (DX b _) (yX De (by decide) (by decide) (C_ ((c.cell _).trans rfl) zA (yX De (by decide) (by decide) (C_ ((d.cell _).trans rfl) zA (rP (DX a _) (DX b _) (yX De (by decide) (by decide) (C_ ((c.cell _).trans rfl) zA (yX De (by decide) (by decide) (C_ ((d.cell _).trans rfl) zA (rP (DX a _) (DX b _) (Em De (AX 0) rfl [Value.int .u64 ((wd a 0 ||| wd b 0:Nat):Int),Value.int .u64 ((wd a 1 ||| wd b 1:Nat):Int),Value.int .u64 ((wd a 2 ||| wd b 2:Nat):Int),Value.int .u64 ((wd a 3 ||| wd b 3:Nat):Int)] rfl (wG rfl h (show 0+4<=4 by decide) rfl ?_)))))))))))))))))))));intro H4 l m w;refine K_ (cs:=[Value.int .u64 ((wd a 0 ||| wd b 0:Nat):Int),Value.int .u64 ((wd a 1 ||| wd b 1:Nat):Int),Value.int .u64 ((wd a 2 ||| wd b 2:Nat):Int),Value.int .u64 ((wd a 3 ||| wd b 3:Nat):Int)]) (l.cells (λj v x=>by simpa [As,Ag]using x)) zA (⟨?_,?_⟩);{unfold AX;rw[Xe,Xe,Xe,Xe]};intro k B;rw[m k (by omega),e k (by omega),f k (by omega),g k (by omega)]
def gI(b:Nat):b &&& 63=b % 64:=by rw[show(63:Nat)=2^6-1 by decide,eK]
def TB(s:BitVec 256)(b:Nat)(a:b<256):(Ag s)[b / 2^6]?=zY (.int .u64 (wd s (b / 64))):=by have:b / 2^6<4:=zO;rw[(zO:b / 64=b / 2^6)];generalize b / 2^6=q at this;match q,this with|0,_=>rfl|1,_=>rfl|2,_=>rfl|3,_=>rfl
def RS(s:BitVec 256)(b i:Nat)(e:b<256):wd (s ||| ArL 256 b) i=if i=b / 64 then wd s i ||| 2^(b % 64)else wd s i:=by apply lY;intro j;by_cases c:j<64;{rw[E7 _ _ _ c,rS,eD];by_cases d:i=b / 64;{rw[H_ d,kF,E7 _ _ _ c,eM];congr 1;by_cases h:b % 64=j;{have:b=64*i+j:=zO;simp[h,<-this,e]};have:¬b=64*i+j:=zO;simp[h,this]};rw[G_ d,E7 _ _ _ c];have:¬b=64*i+j:=zO;simp[this]};have a:2^64<=2^j:=tS zQ zO;rw[sJ (yQ (IU _ _) a)];split;{rw[kF,sJ (yQ (IU _ _) a),eM];simp;omega};rw[sJ (yQ (IU _ _) a)]
def TC(s:BitVec 256)(b:Nat)(a:b<256):(Ag s).set (b / 64) (.int .u64 ((wd s (b / 64) ||| 2^(b % 64):Nat):Int))=Ag (s ||| ArL 256 b):=by have h:b / 64<4:=zO;unfold Ag;rw[RS s b 0 a,RS s b 1 a,RS s b 2 a,RS s b 3 a];generalize b / 64=q at h;match q,h with|0,_=>rfl|1,_=>rfl|2,_=>rfl|3,_=>rfl
def AjT(lo g:Nat)(I:lo<256)(J:g<256)(H:Aa):Am prog 157 #[.int .u8 lo,.int .u8 g] H λv H'=>
  (∃s,v=AX s/\∀b,b<256->s.getLsbD b=(zT (lo<=b)&&zT (b<=g)))/\A_ (F_ H) H H':=by refine Am.of_vc func157 rfl (call157 _) (Aq (AX 0) (Ag 0) rfl rfl ?_);intro r H1 P K l A;refine Aq (AX 0) (Ag 0) rfl rfl ?_;intro p H2 Q L B t;replace l:=l.agr t (zO:r<p);(conv=>whnf);rw[m_ (x:=(lo:Int)) zO];refine AD.mk [6] (λb:Nat=>[B_ b]) (λb H3=>lo<=b/\(b<=g+1\/b=lo)/\A_ (λk=>k≠p) H2 H3/\H3.size=H2.size/\∃s:BitVec 256,L_ H3 p 65 (Ag s)/\∀c,c<256->s.getLsbD c=(zT (lo<=c)&&zT (c<b))) (λb _=>256-b) ?_ ?_;{(conv=>whnf);exact⟨lo,rfl,zO,zO,A_.refl _ _,rfl,0,B,λc u=>zZ⟩};{rintro b H3 F ⟨M,z,m,N,s,n,hs⟩;(conv=>whnf);rw[m_ (x:=(g:Int)) zO];refine Av.m2 (λh=>?_) (λh=>?_);{(conv=>whnf);refine Ap.tail 9 (sq [0,1,2,3,4,5,6,7,8] (.f 9 .e)) rfl zX (Lm (b:=6) zQ (yX De zO zO ?_));refine C_ (v:=.int .u64 (wd s (b / 64))) (by rw[n.cell,N_,yW];exact TB s b zO) zA ?_;refine Ik (b:=63) (CF zO) (CF zQ) ?_;have G:2^(b % 64)<2^64:=Nat.pow_lt_pow_right zQ zO;rw[gI];have w:zC .u64 ((1*2^(b % 64):Nat):Int):=JF zO;refine lP (a:=1) (by simp[IntKind.bits];omega) w ?_;refine rP (DX s _) w (yX De zO zO ?_);refine st1 n (by simp[Ag];omega) rfl ?_;intro H4 d q C;(conv=>whnf);rw[S_ b zO];refine⟨rfl,b+1,zZ,⟨zO,zO,m.trans q,zO,s ||| ArL 256 b,?_,λc u=>?_⟩,zO⟩;{rw[N_,yW,kG]at d;rw[<-TC s b zO];exact d};{rw[rS,hs c u,eD];by_cases y:b=c;{subst y;simp[u,M]};{have:(zT (c<b+1))=zT (c<b):=by{simp;omega};simp[y,this]}}};{(conv=>whnf);refine K_ (cs:=Ag s) (n.cells (λj v D=>by simpa using D)) zA (wG rfl (l.agr m (zO:r≠p)) (zQ:0+4<=4) rfl ?_);intro H4 d q C;refine K_ (cs:=Ag s) (d.cells (λj v D=>by simpa [As,Ag]using D)) zA (⟨⟨s,rfl,λc u=>?_⟩,λk O=>?_⟩);{rw[hs c u];rcases z with z | z;{have:(zT (c<b))=zT (c<=g):=by{simp;omega};rw[this]};{subst z;by_cases E:b<=c;{simp[show¬c<b by omega,show¬c<=g by omega]};{simp[E]}}};{unfold F_ at O;rw[q k zO,m k zO,t k zO,A k zO]}}}
def Co:Ty (BitVec 256) where
 size:=4
 rep _ _ cs s:=cs=Ag s
 len h:=by rw[h];rfl
 frame h _:=h
 mono h _:=h
def HH(s:BitVec 256):List Lit:=[.int .u64 (wd s 0),.int .u64 (wd s 1),.int .u64 (wd s 2),.int .u64 (wd s 3)]
def TD(a b:BitVec 256):zT (a=b)=zW↔HH a=HH b:=by rw[yL];constructor;{rintro rfl;rfl};intro h;unfold HH at h;simp only[List.cons.injEq,Lit.int.injEq,true_and,and_true,eE]at h;apply hY;intro i c;match i,c with|0,_=>exact h.1|1,_=>exact h.2.1|2,_=>exact h.2.2.1|3,_=>exact h.2.2.2
def AjO(s:BitVec 256)(i:Nat):(Lit.int .u64 (wd s i)).wf=zW:=by have:=DX s i;unfold Lit.wf;simp only[o_,yL];exact this
def TE(s:BitVec 256):prog.keyLits 2 65 (Ag s)=zY (HH s):=by have a:prog.cellsOf 65=4:=rfl;have b:prog.cellsOf 63=1:=rfl;simp[Program.keyLits,underlying65,underlying63,a,b,Ag,HH,AjO,AqP,AqP.loop]
def No(a b:BitVec 256)(k:K (.bool (!zT (a=b)))):A8 prog (do eqGuard .neq 65 x y (AX a) (AX b);binOp .neq 65 (AX a) (AX b)) S H K:=qS (m:=2) (la:=HH a) (lb:=HH b) rfl zQ (eqGuardType65) rfl rfl (TE a) (TE b) (TD a b) k
def AR(lo hi:Nat):BitVec 256:=BitVec.ofNat 256 ((2^(hi+1-lo)-1) <<< lo)
def Jr(lo a b:Nat)(c:b<256):(AR lo a).getLsbD b=(zT (lo<=b)&&zT (b<=a)):=by unfold AR;rw[BitVec.getLsbD_ofNat,Nat.testBit_shiftLeft,Nat.testBit_two_pow_sub_one];by_cases h:lo<=b;{simp only[c,decide_true,sI,h,ge_iff_le];congr 1;rw[eq_iff_iff];omega};simp[h]
def GF(lo a:Nat)(c:lo<256)(d:a<256)(H:Aa):AT prog 157 #[.int .u8 lo,.int .u8 a] H (AX (AR lo a)):=by refine(AjT lo a c d H).mono ?_;rintro v H' ⟨⟨s,rfl,hs⟩,f⟩;refine⟨?_,f⟩;congr 1;apply rC;intro b e;rw[hs b e,Jr lo a b e]
def Ks:AR 0 255=BitVec.allOnes 256:=by apply rC;intro b a;rw[Jr 0 255 b a,BitVec.getLsbD_allOnes];simp[a];omega
structure U' where
 fr:Int
 to:Int
 sil:Bool
 set:BitVec 256
structure O_ where
 st:Int
 start:Int
 fin:Int
 edges:List U'
def O_.has(a:O_)(q:Int):Bool:=zT (0<=q)&&zT (q<a.st)&&zT (a.st<=65536)
def O_.has_iff{a:O_}{q:Int}:a.has q=zW↔0<=q/\q<a.st/\a.st<=65536:=by unfold O_.has;simp only[o_,yL,and_assoc]
inductive AcI(a:O_):Int->Int->Prop
 | refl (p:Int):AcI a p p
 | step {p:Int} {e:U'}:AcI a p e.fr->e∈a.edges->e.sil=zW->a.has e.to=zW->AcI a p e.to
abbrev PS:=Int->Prop
def clS(a:O_)(X:PS):PS:=λq=>∃p,X p/\AcI a p q
def Lr(a:O_):PS:=clS a λq=>q=a.start/\a.has a.start=zW
def Ra(a:O_)(X:PS)(b:Nat):PS:=λq=>∃e∈a.edges,e.sil=zU/\e.set.getLsbD b=zW/\X e.fr/\a.has e.to=zW/\q=e.to
def sV(a:O_)(X:PS)(b:Nat):PS:=clS a (Ra a X b)
def gF(a:O_)(X:PS):Prop:=∀e∈a.edges,e.sil=zW->a.has e.to=zW->X e.fr->X e.to
def QI{a:O_}{X:PS}{q:Int}(h:X q):clS a X q:=⟨q,h,.refl q⟩
def NB(a:O_)(X:PS):gF a (clS a X):=λe b c d ⟨p,f,hs⟩=>⟨p,f,.step hs b c d⟩
variable{Y:PS}
def DN{a:O_}{X:PS}(h:∀q,X q->Y q)(hs:gF a Y):∀q,clS a X q->Y q:=by rintro q ⟨p,b,c⟩;induction c with|refl=>exact h _ b|step _ d e f g=>exact hs _ d e f g
def Je{a:O_}{X:PS}(h:∀q,X q->a.has q=zW):∀q,clS a X q->a.has q=zW:=DN h λe _ _ b _=>b
def Ir(a:O_):∀q,Lr a q->a.has q=zW:=Je λq ⟨e,h⟩=>e ▸ h
def MY(a:O_)(X:PS)(b:Nat):∀q,sV a X b q->a.has q=zW:=Je λq ⟨e,_,_,_,_,h,c⟩=>c ▸ h
def TK:∀{l m:List Int},l.Pairwise (·<·)->m.Pairwise (·<·)->(∀q,q∈l↔q∈m)->l=m
 | [],[],_,_,_=>rfl
 | [],y::m,_,_,h=>by have:=(h y).2 zZ;cases this
 | x::l,[],_,_,h=>by have:=(h x).1 zZ;cases this
 | x::l,y::m,hl,hm,h=>by
   have⟨g,k⟩:=vE.1 hl;have⟨j,n⟩:=vE.1 hm;have b:x=y:=by
    have c:=(h x).1 zZ;have d:=(h y).2 zZ;rcases J'.1 c with e | c
    ·exact e
    ·rcases J'.1 d with e | d
     ·exact e.symm
     ·have:=g y d;have:=j x c;omega
   subst b
   congr 1
   refine TK k n λq=>⟨λa=>?_,λa=>?_⟩
   ·rcases J'.1 ((h q).1 (by simp[a]))with e | f
    ·have:=g q a;omega
    ·exact f
   ·rcases J'.1 ((h q).2 (by simp[a]))with e | f
    ·have:=j q a;omega
    ·exact f
open Classical in
noncomputable def E1(X:PS):List Int:=((AqP 65536).map fun(n:Nat)=>(n:Int)).filter λq=>zT (X q)
def ZN(X:PS):(E1 X).Pairwise (·<·):=by unfold E1;refine List.Pairwise.filter _ ?_;rw[List.pairwise_map];exact List.pairwise_lt_range.imp λh=>zO
open Classical in
def EI{X:PS}(h:∀q,X q->0<=q/\q<65536)(q:Int):q∈E1 X↔X q:=by unfold E1;rw[yS,yL,List.mem_map];constructor;{exact λ⟨_,a⟩=>a};intro a;have⟨b,c⟩:=h q a;exact⟨⟨q.toNat,List.mem_range.2 zO,zO⟩,a⟩
def PF{X:PS}{l:List Int}(h:∀q,X q->0<=q/\q<65536)(hs:l.Pairwise (·<·))(a:∀q,q∈l↔X q):l=E1 X:=TK hs (ZN X) λq=>(a q).trans (EI h q).symm
def KL(X:PS):(E1 X).length<=65536:=by unfold E1;exact V' (List.length_filter_le _ _) zZ
def E9{a:O_}{X:PS}(h:∀q,X q->a.has q=zW):∀q,X q->0<=q/\q<65536:=λq b=>by
 have:=O_.has_iff.1 (h q b);omega
end Go.Proofs.YtjbnocjgdmnkoaaGreatDoor
