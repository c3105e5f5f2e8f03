import Derived.OrdersHeld
import Derived.Deep.Quiet
import Derived.StillTail
import Derived.Tactics
import Derived.NoCompiler
import Derived.WalkKit
import Derived.Deep.MidRow
import Derived.Deep.AppendSrc
import Derived.DeepKeys
import Derived.Test.YtfbghcpdinlmcaaGreatDoorProg
import Derived.Laws.Pointers
import Derived.MapKept
import Derived.Laws.BytesArg
import Derived.Laws.Cover1
import Derived.DeepKeys3
import Derived.Maps.RangeRun
set_option maxHeartbeats 0
open Array renaming replicate -> AkM, map -> Al1, ext' -> Al2
open BitVec renaming ofInt -> AlP, twoPow -> Am7, allOnes -> AmV
open Int renaming reducePow -> AkW
open List renaming replicate -> Ai4, range -> AjH, rec -> Al0
open Nat renaming noConfusion -> AhY, reduceSub -> AlB, beq -> AlG, reducePow -> Am6
set_option maxRecDepth 100000
open Go renaming Value -> v_, World -> y_, Program -> w_, Operand -> z_, TypeId -> x_
open Option renaming some -> zY, none -> zV
open Bool renaming true -> zW, false -> zU
open Decidable renaming decide -> zT
set_option linter.unusedVariables false
set_option linter.unusedSimpArgs false
set_option linter.defProp false
def zA:=trivial
theorem zO{p:Prop}(h:p:=by omega):p:=h
theorem zQ{p:Prop}(h:p:=by decide):p:=h
theorem zX{p:Prop}(h:p:=by kernel_rfl):p:=h
theorem zZ{p:Prop}(h:p:=by simp):p:=h
abbrev V_:=@List.getElem?_eq_some_iff
abbrev yI:=@List.getElem?_eq_getElem
abbrev M_:=@List.length_append
abbrev e_:=@List.mem_of_getElem?
abbrev vJ:=@List.eq_nil_of_length_eq_zero
abbrev wF:=@List.pairwise_iff_getElem
abbrev yP:=@List.getElem?_set_self
abbrev g_:=@List.mem_singleton
abbrev xC:=@List.getElem?_set_ne
abbrev zL:=@List.getElem?_append_right
abbrev xE:=@List.getD_eq_getElem?_getD
abbrev c_:=@List.length_cons
abbrev zR:=@List.getElem?_append_left
abbrev yF:=@List.length_set
abbrev xI:=@List.getElem?_of_mem
abbrev yW:=@List.ext_getElem?
abbrev zN:=@List.append_assoc
abbrev vK:=@List.getElem?_replicate
abbrev tE:=@List.getElem?_take
abbrev zE:=@List.getElem?_eq_none
abbrev i_:=@List.length_singleton
abbrev xU:=@List.mem_cons
abbrev wK:=@List.length_take
abbrev X':=@List.mem_append
abbrev xV:=@List.getElem?_set
abbrev pY:=@List.filter_congr
abbrev wO:=@List.map_cons
abbrev pZ:=@List.take_length_add_append
abbrev rD:=@List.drop_length_add_append
abbrev sK:=@List.getElem?_cons_succ
abbrev rE:=@List.pairwise_singleton
abbrev yX:=@List.append_nil
abbrev jW:=@List.set_getElem_self
abbrev yG:=@List.mem_range
abbrev uG:=@List.length_filter_le
abbrev nV:=@List.range_add
abbrev uS:=@Array.getElem?_eq_some_iff
abbrev qA:=@Array.getElem?_modify
abbrev qB:=@Array.toArray_toList
abbrev tG:=@Array.length_toList
abbrev sL:=@Array.toList_map
abbrev oA:=@Array.getElem?_push
abbrev nW:=@Array.getElem?_eq_none
abbrev jX:=@Array.getElem?_setIfInBounds_ne
abbrev tU:=@Array.getElem?_eq_getElem
abbrev jY:=@Array.setIfInBounds_comm
abbrev jZ:=@Array.contains_push
abbrev iA:=@Array.toList_filter
abbrev tH:=@BitVec.eq_of_getLsbD_eq
abbrev rF:=@BitVec.getLsbD_or
abbrev tV:=@BitVec.getLsbD_allOnes
abbrev iB:=@BitVec.getLsbD_twoPow
abbrev oB:=@BitVec.ofInt_natCast
abbrev qC:=@BitVec.toNat_ofNat
abbrev O':=@Bool.and_eq_true
abbrev uH:=@Bool.false_eq_true
abbrev vY:=@Bool.not_eq_true'
abbrev tJ:=@Bool.or_eq_true
abbrev wZ:=@Bool.false_and
abbrev wX:=@Bool.true_and
abbrev zB:=@Int.toNat_natCast
abbrev iC:=@Int.natCast_inj
abbrev q_:=@Nat.zero_le
abbrev nX:=@Nat.div_div_eq_div_mul
abbrev nY:=@Nat.eq_of_beq_eq_true
abbrev yV:=@Nat.le_trans
abbrev nZ:=@Nat.eq_of_testBit_eq
abbrev zG:=@Nat.mul_one
abbrev mC:=@Nat.lt_or_gt_of_ne
abbrev sM:=@Nat.lt_or_ge
abbrev sN:=@Nat.pow_succ
abbrev iD:=@Nat.testBit_mod_two_pow
abbrev iE:=@Nat.testBit_div_two_pow
abbrev mD:=@Nat.testBit_or
abbrev iF:=@Nat.div_lt_iff_lt_mul
abbrev oC:=@Nat.mod_lt
abbrev iG:=@Nat.testBit_two_pow
abbrev wP:=@Nat.sub_self
abbrev mE:=@Nat.one_mul
abbrev iH:=@Nat.div_le_self
abbrev vZ:=@Nat.mul_le_mul
abbrev oE:=@Nat.add_assoc
abbrev qD:=@Option.isSome_iff_exists
abbrev xO:=@Option.bind_some
abbrev iI:=@Array.getElem?_toList
abbrev iJ:=@BitVec.toNat_xor
abbrev iK:=@BitVec.toNat_not
abbrev tK:=@Bool.and_false
abbrev h_:=@List.length_nil
abbrev xA:=@List.perm_append_singleton
abbrev vL:=@List.toList_toArray
abbrev uT:=@List.length_replicate
abbrev vC:=@List.filter_cons_of_pos
abbrev zH:=@List.take_length
abbrev xP:=@List.foldl_append
abbrev xQ:=@List.mem_cons_of_mem
abbrev vU:=@List.filter_cons_of_neg
abbrev uA:=@List.size_toArray
abbrev wS:=@List.getElem?_range
abbrev rG:=@List.pairwise_cons
abbrev vM:=@List.filter_append
abbrev I':=@List.getElem?_map
abbrev iL:=@List.getElem?_inj
abbrev iM:=@List.getElem_set
abbrev oF:=@List.any_eq_true
abbrev zM:=@List.all_eq_true
abbrev iN:=@List.take_left'
abbrev yH:=@List.mem_filter
abbrev iO:=@List.filter_map
abbrev k_:=@List.length_map
abbrev N_:=@Nat.le_refl
abbrev vN:=@Nat.lt_of_lt_of_le
abbrev tW:=@Nat.testBit_lt_two_pow
abbrev vO:=@Nat.mul_le_mul_right
abbrev vV:=@Nat.mod_eq_of_lt
abbrev tX:=@Nat.or_lt_two_pow
abbrev tY:=@Nat.min_eq_left
abbrev K_:=@Nat.zero_add
abbrev uI:=@Nat.pow_le_pow_right
abbrev sO:=@Nat.and_le_right
abbrev qE:=@Nat.ne_of_beq_eq_false
abbrev mF:=@Nat.and_two_pow_sub_one_eq_mod
abbrev sQ:=@Nat.succ_mul
abbrev sR:=@Nat.add_mul
abbrev tL:=@List.nil_append
abbrev yT:=@Nat.mul_add
abbrev iP:=@Option.map_eq_some_iff
abbrev wB:=@Option.map_some
abbrev wT:=@BitVec.getLsbD_and
abbrev rH:=@BitVec.getLsbD_not
abbrev xK:=@Int.eq_ofNat_of_zero_le
abbrev oG:=@Int.negSucc_lt_zero
abbrev vP:=@List.findIdx?_eq_some_iff_getElem
abbrev tM:=@List.set_append_right
abbrev tZ:=@List.findIdx?_append
abbrev uJ:=@List.findIdx?_cons
abbrev sS:=@List.filter_cons
abbrev sB:=@List.flatMap_append
abbrev wG:=@List.range_succ
abbrev vW:=@List.set_cons_succ
abbrev qF:=@List.sum_cons
abbrev oH:=@List.cons_append
abbrev sT:=@List.mem_flatMap
abbrev oI:=@List.take_append_of_le_length
abbrev iQ:=@List.dropLast_concat_getLast
abbrev qG:=@List.mem_filterMap
abbrev mG:=@List.prefix_append
abbrev mH:=@List.sum_append
abbrev iR:=@List.length_pos_of_mem
abbrev iS:=@List.mem_of_mem_take
abbrev mI:=@List.map_set
abbrev yQ:=@List.mem_map
abbrev iT:=@List.nodup_append
abbrev iU:=@List.count_cons
abbrev oJ:=@List.filter_nil
abbrev uK:=@Nat.le_of_eq
abbrev oK:=@Nat.le_add_right
abbrev sU:=@Option.getD_some
abbrev qH:=@Bool.eq_iff_iff
abbrev mJ:=@List.findIdx?_eq_none_iff
abbrev uL:=@List.take_of_length_le
abbrev yR:=@List.sublist_cons_self
abbrev xY:=@List.mem_cons_self
abbrev wL:=@List.mem_append_right
abbrev sC:=@List.all_append
abbrev wU:=@List.foldl_cons
abbrev vQ:=@List.take_zero
abbrev yS:=@List.mem_append_left
abbrev xF:=@List.map_append
abbrev rI:=@List.map_nil
abbrev rJ:=@List.length_filterMap_le
abbrev mK:=@List.drop_eq_nil_of_le
abbrev uM:=@List.take_append_drop
abbrev uU:=@List.map_congr_left
abbrev mL:=@List.length_take_le
abbrev tN:=@List.foldl_nil
abbrev uV:=@List.flatMap_cons
abbrev mM:=@List.all_eq_false
abbrev wH:=@List.getElem?_cons_zero
abbrev mN:=@List.map_const'
abbrev iV:=@List.filterMap_append
abbrev sD:=@List.pairwise_append
abbrev iW:=@List.all_replicate
abbrev mO:=@List.map_map
abbrev oL:=@List.take_add_one
abbrev uB:=@List.prefix_refl
abbrev iX:=@Array.toList_inj
abbrev oM:=@List.eq_replicate_iff
abbrev oN:=@List.filterMap_cons
abbrev oO:=@List.map_id
abbrev iY:=@List.filterMap_nil
abbrev iZ:=@Nat.le_max_left
abbrev hC:=@List.eq_of_mem_replicate
abbrev hH:=@List.pairwise_flatMap
abbrev hJ:=@List.getElem_of_mem
abbrev hO:=@List.ne_nil_of_mem
abbrev hQ:=@List.findIdx_cons
abbrev hU:=@List.getElem_mem
abbrev mP:=@Nat.lt_trichotomy
abbrev mQ:=@Option.map_none
abbrev oP:=@Int.le_refl
abbrev vD:=@List.set_set
abbrev mR:=@List.length_pos_iff
abbrev rK:=@List.length_range
abbrev hV:=@List.set_append_left
abbrev hY:=@List.getElem_range
abbrev hZ:=@List.nodup_cons
abbrev gA:=@List.mapM_cons
abbrev sV:=@Nat.lt_succ_self
abbrev mS:=@Nat.le_of_lt
abbrev uC:=@Bool.or_false
abbrev rL:=@Bool.or_true
abbrev oQ:=@Int.natCast_mul
abbrev gB:=@Int.toNat_of_nonneg
abbrev sE:=@List.append_sublist_append_left
abbrev tO:=@List.set_cons_zero
abbrev uW:=@List.nil_sublist
abbrev tP:=@Nat.mul_le_mul_left
abbrev G_:=@if_neg
abbrev I_:=@if_pos
abbrev T_(b:Nat):Option Go.Addr:=zY ⟨b,0,zV⟩
abbrev Y_(b:Nat):Go.Value:=.pointer (zY ⟨b,0,zV⟩)
abbrev A_:Int->Go.Value:=Go.Value.int .i64
open Go.Proofs.Tryz
section
variable{p:Prop}
def j_[h:Decidable p](k:¬p):zT p=zU:=decide_eq_false k
def m_[h:Decidable p](k:p):zT p=zW:=decide_eq_true k
def Z_[h:Decidable p](k:¬p:=by omega):zT p=zU:=decide_eq_false k
def l_[h:Decidable p](k:p:=by omega):zT p=zW:=decide_eq_true k
def oR[h:Decidable p]:(zT p=zU)=¬p:=propext decide_eq_false_iff_not
def yD[h:Decidable p]:(zT p=zW)=p:=decide_eq_true_eq
end
namespace Go.Proofs.YtfbghcpdinlmcaaGreatDoor
variable{P:w_}{f:FuncId}{S B:Nat->Prop}{K:v_->Prop}{e t te:x_}{x y:z_}{v z:v_}{w w0:y_}{Q:Exit->Act->y_->Prop}{b n o lo cap i by_ sz m:Nat}{all:List Oper}{N:Act->y_->Prop}{c:Code}{l cs:List v_}{k d:IntKind}{vs:Array (Nat×v_)}{a:Option Addr}{j q:Int}{bs:Array v_}{la lb:List Lit}{r:Bool}{s:BitVec 256}{es:Array MapEntry}{g:Array Oper}{Z:List Nat}
abbrev Aa:=Array Obj
abbrev Fr:=List v_
structure p_(w w':y_):Prop where
 os:w'.os=w.os
 tape:w'.tape=w.tape
 output:w'.output=w.output
def p_.refl(w:y_):p_ w w:=⟨rfl,rfl,rfl⟩
def p_.trans{a b c:y_}(h:p_ a b)(k:p_ b c):p_ a c:=
 ⟨k.os.trans h.os,k.tape.trans h.tape,k.output.trans h.output⟩
def Aj(P:w_)(f:FuncId)(args:Array v_)(H:Aa)(R:v_->Aa->Prop):Prop:=
 ∀w:y_,w.heap=H->(callFunc f args).run P w= .ok (.enter f args) w/\
  Calls P f args w λe w'=>∃v,e= .returned v/\p_ w w'/\R v w'.heap
variable{H H0 H':Aa}{R R':v_->Aa->Prop}
def Aj.mono{a:Array v_}
  (h:Aj P f a H R) (c:∀v H',R v H'->R' v H'):Aj P f a H R':=λw b=>
 ⟨(h w b).1,(h w b).2.mono λ_ _ ⟨v,d,e,r⟩=>⟨v,d,e,c _ _ r⟩⟩
def C_(S:Nat->Prop)(H H':Aa):Prop:=∀k,S k->H'[k]?=H[k]?
def C_.refl(S:Nat->Prop)(H:Aa):C_ S H H:=λ_ _=>rfl
def C_.trans{a b c:Aa}(h:C_ S a b)(k:C_ S b c):C_ S a c:=
 λi d=>(k i d).trans (h i d)
def C_.mono{S':Nat->Prop}{a b:Aa}(h:C_ S a b)(hs:∀k,S' k->S k):C_ S' a b:=
 λi c=>h i (hs i c)
structure AO(P:w_)(m:Sem v_)(S:Nat->Prop)(H:Aa)(K:v_->Prop):Prop where
 in_::
 out_:∃v,(∀w:y_,C_ S H w.heap->m.run P w= .ok v w)/\K v
structure BV(P:w_)(m:Sem v_)(H:Aa)(K:v_->Aa->Prop):Prop where
 in_::
 out_:∀w:y_,w.heap=H->∃v w',m.run P w= .ok v w'/\p_ w w'/\K v w'.heap
structure Dm(P:w_)(m:Sem Unit)(H:Aa)(K:Aa->Prop):Prop where
 in_::
 out_:∀w:y_,w.heap=H->∃w',m.run P w= .ok () w'/\p_ w w'/\K w'.heap
structure Ae(P:w_)(f:FuncId)(args:Array v_)(H:Aa)(K:v_->Aa->Prop):Prop where
 in_::
 out_:Aj P f args H K
structure Le(P:w_)(f:FuncId)(args:Array v_)(S:Nat->Prop)(H:Aa)(K:v_->Prop):Prop where
 in_::
 out_:∃v,(∀H',C_ S H H'->Aj P f args H' λv' H''=>v'=v/\C_ S H' H'')/\K v
def AO.mk{m:Sem v_}(v:v_)
  (h:∀w:y_,C_ S H w.heap->m.run P w= .ok v w) (k:K v):AO P m S H K:=by exact⟨⟨v,h,k⟩⟩
def BV.mk{m:Sem v_}{K:v_->Aa->Prop}
  (h:∀w:y_,w.heap=H->∃v a,m.run P w= .ok v a/\p_ w a/\K v a.heap):BV P m H K:=by exact⟨h⟩
def Dm.mk{m:Sem Unit}{K:Aa->Prop}
  (h:∀w:y_,w.heap=H->∃a,m.run P w= .ok () a/\p_ w a/\K a.heap):Dm P m H K:=by exact⟨h⟩
def Ae.mk{a:Array v_}{K:v_->Aa->Prop}
  (h:Aj P f a H R) (k:∀v H',R v H'->K v H'):Ae P f a H K:=by exact⟨h.mono k⟩
def Le.mk{a:Array v_}(v:v_)
  (h:∀H',C_ S H H'->Aj P f a H' λb H''=>b=v/\C_ S H' H'') (k:K v):Le P f a S H K:=by exact⟨⟨v,h,k⟩⟩
def AD(b:Bool)(p q:Prop):Prop:=match b with | true=>p | false=>q
def AD.mk{b:Bool}{p q:Prop}(h:b=zW->p)(k:b=zU->q):AD b p q:=by cases b;exact k rfl;exact h rfl
def AD.m2{d p q:Prop}[h:Decidable d](k:d->p)(l:¬d->q):AD (zT d) p q:=AD.mk (λe=>k (of_decide_eq_true e)) (λe=>l (of_decide_eq_false e))
section
variable{R:Type}
noncomputable def yL(l:Fr):Nat->(v_->R)->R:=
 Al0 (motive:=λ_=>Nat->(v_->R)->R) (λ_ K=>K undef) (λv _ ih n K=>Nat.casesOn n (K v) λm=>ih m K) l
noncomputable def xN(l:Fr):Nat->v_->(Fr->R)->R:=
 Al0 (motive:=λ_=>Nat->v_->(Fr->R)->R) (λ_ _ K=>K []) (λx l ih n v K=>Nat.casesOn n (K (v::l)) λm=>ih m v λl'=>K (x::l')) l
noncomputable def zF(fr:Fr)(x:z_)(K:v_->R):R:=
 match x with
 | .tmp t=>yL fr t K
 | .const v=>K v
 | .global g=>K (Y_ g)
 | .func f=>K (.func (.func f) #[] #[])
noncomputable def Ja(fr:Fr)(l:List z_):(List v_->R)->R:=
 Al0 (motive:=λ_=>(List v_->R)->R) (λK=>K []) (λx _ ih K=>zF fr x λv=>ih λvs=>K (v::vs)) l
noncomputable def D1(dst:Option Tmp)(fr:Fr)(v:v_)(K:Fr->R):R:=
 match dst with
 | none=>K fr
 | some d=>xN fr d v K
end
def rd(fr:Fr)(i:Nat):v_:=fr.getD i undef
def yJ(fr:Fr):z_->v_
 | .tmp t=>rd fr t
 | .const v=>v
 | .global g=>Y_ g
 | .func f=>.func (.func f) #[] #[]
def EM{R:Type}(K:v_->R):∀(fr:Fr) (i:Nat),yL fr i K=K (rd fr i)
 | [],_=>rfl
 | _::_,0=>rfl
 | _::l,n+1=>by show yL l n K=_;rw[EM K l n];simp[rd]
def GR{R:Type}:∀(fr:Fr) (i:Nat) (v:v_) (K:Fr->R),xN fr i v K=K (fr.set i v)
 | [],_,_,_=>rfl
 | _::_,0,_,_=>rfl
 | x::l,n+1,v,K=>by show xN l n v (λa=>K (x::a))=_;rw[GR l n v];rfl
def JS{R:Type}(fr:Fr)(x:z_)(K:v_->R):zF fr x K=K (yJ fr x):=by cases x<;>first | rfl | exact EM K fr _
def K6{R:Type}(fr:Fr):∀(l:List z_) (K:List v_->R),Ja fr l K=K (l.map (yJ fr))
 | [],_=>rfl
 | x::l,K=>by show zF fr x (λv=>Ja fr l λvs=>K (v::vs))=_;simp only[JS,K6 fr l,wO]
def CH{R:Type}(a:Option Tmp)(fr:Fr)(v:v_)(K:Fr->R):
  D1 a fr v K=K (match a with | none=>fr | some d=>fr.set d v):=by cases a with|none=>rfl|some d=>exact GR fr d v K
structure At(fr:Fr)(a:Act):Prop where
 tmps:a.tmps.toList=fr
 defers:a.defers=[]
variable{fr:Fr}
def At.eval{a:Act}(h:At fr a)(x:z_):a.eval x=yJ fr x:=by cases x with|tmp t=>obtain⟨rfl,_⟩:=h;simp[Act.eval,yJ,rd]|const v=>rfl|global g=>rfl|func f=>rfl
def At.evalF{a:Act}(h:At fr a):a.eval=yJ fr:=funext h.eval
def At.put{a:Act}(h:At fr a)(b:Option Tmp)(v:v_):
  At (match b with | none=>fr | some d=>fr.set d v) (a.put b v):=by obtain⟨rfl,c⟩:=h;cases b with|none=>exact⟨rfl,c⟩|some d=>exact⟨by simp[Act.put],c⟩
def uO:IntKind->IntKind->Bool
 | .i8,.i8 | .i16,.i16 | .i32,.i32 | .i64,.i64 | .u8,.u8 | .u16,.u16 | .u32,.u32 | .u64,.u64=>zW
 | _,_=>zU
def aZ{a b:IntKind}(h:uO a b=zW):a=b:=by cases a<;>cases b<;>first | rfl | simp[uO]at h
def Rn:BinOp->v_->v_->Option v_
 | .add,.int k a,.int k' b=>match uO k k' with | true=>zY (.int k (k.wrap (a+b))) | false=>zV
 | .sub,.int k a,.int k' b=>match uO k k' with | true=>zY (.int k (k.wrap (a-b))) | false=>zV
 | .mul,.int k a,.int k' b=>match uO k k' with | true=>zY (.int k (k.wrap (a*b))) | false=>zV
 | .eql,.int k a,.int k' b=>match uO k k' with | true=>zY (.bool (a==b)) | false=>zV
 | .neq,.int k a,.int k' b=>match uO k k' with | true=>zY (.bool (a != b)) | false=>zV
 | .lss,.int k a,.int k' b=>match uO k k' with | true=>zY (.bool (zT (a<b))) | false=>zV
 | .leq,.int k a,.int k' b=>match uO k k' with | true=>zY (.bool (zT (a<=b))) | false=>zV
 | .gtr,.int k a,.int k' b=>match uO k k' with | true=>zY (.bool (zT (b<a))) | false=>zV
 | .geq,.int k a,.int k' b=>match uO k k' with | true=>zY (.bool (zT (b<=a))) | false=>zV
 | .eql,.string a,.string b=>zY (.bool (a.toList==b.toList))
 | .neq,.string a,.string b=>zY (.bool (!(a.toList==b.toList)))
 | _,_,_=>zV
def CO(op:BinOp)(t:x_)(x y:z_)(k c:IntKind)(a b:Int)(w:y_):
  (eqGuard op t x y (.int k a) (.int c b)).run P w= .ok () w:=by cases op<;>simp[eqGuard]
def L7(op:BinOp)(t:x_)(x y:z_)(a b:ByteArray)(w:y_):
  (eqGuard op t x y (.string a) (.string b)).run P w= .ok () w:=by cases op<;>simp[eqGuard]
def SO{op:BinOp}{a b:v_}(h:Rn op a b=zY v)(w:y_):
  (do eqGuard op t x y a b;binOp op t a b:Sem v_).run P w= .ok v w:=by
 unfold Rn at h;split at h;all_goals try (split at h)
 all_goals first
  | (cases h;done)
  | (rename_i c;obtain rfl:=aZ c;cases h;simp[CO,binOp,Op.intArith,Op.intCmp];done)
  | (cases h;simp[L7,binOp,Op.stringOp];done)
def VI:UnOp->v_->Option v_
 | .not,.bool b=>zY (.bool (!b))
 | .neg,.int k n=>zY (.int k (k.wrap (0-n)))
 | _,_=>zV
def VJ{op:UnOp}{a:v_}(h:VI op a=zY v)(w:y_):(Op.unary op a).run P w= .ok v w:=by unfold VI at h;split at h<;>cases h<;>simp[Op.unary,Op.intArith]
noncomputable def X0{R:Type}(fr:Fr)(x:Option z_)(K:Option v_->R):R:=
 match x with
 | none=>K zV
 | some x=>zF fr x λv=>K (zY v)
def Wp{R:Type}(fr:Fr)(x:Option z_)(K:Option v_->R):X0 fr x K=K (x.map (yJ fr)):=by cases x<;>simp[X0,JS]
noncomputable def pP{R:Type}(fr:Fr)(l:List (Nat×z_)):(List (Nat×v_)->R)->R:=
 Al0 (motive:=λ_=>(List (Nat×v_)->R)->R) (λK=>K []) (λp _ ih K=>zF fr p.2 λv=>ih λvs=>K ((p.1,v)::vs)) l
def R2{R:Type}(fr:Fr):∀(l:List (Nat×z_)) (K:List (Nat×v_)->R),pP fr l K=K (l.map fun(i,x)=>(i,yJ fr x))
 | [],_=>rfl
 | (i,x)::l,K=>by show zF fr x (λv=>pP fr l λvs=>K ((i,v)::vs))=_;simp only[JS,R2 fr l,wO]
def RN:Option TypeDesc->List v_->Option v_
 | some (.slice _),[.slice _ n _]=>zY (.int .i64 n)
 | some .string,[.string s]=>zY (.int .i64 s.size)
 | _,_=>zV
def TC{ty:x_}{vs:List v_}(h:RN (P.underlying t) vs=zY v)(w:y_):
  (Builtin.len_ #[t] ty vs.toArray).run P w= .ok v w:=by unfold RN at h;split at h<;>cases h<;>rename_i hu<;>simp[Builtin.len_,run_underlying hu,goInt]
def OO:Option TypeDesc->Option TypeDesc->v_->Option v_
 | some _,zY (.int k),.int _ n=>zY (.int k (k.wrap n))
 | some _,zY .string,.string s=>zY (.string s)
 | _,_,_=>zV
def Rv{s d:x_}{x:v_}(h:OO (P.underlying s) (P.underlying d) x=zY v)(w:y_):
  (convert s d x).run P w= .ok v w:=by unfold OO at h;split at h<;>cases h<;>rename_i a b;{simp[convert,run_underlying a,run_underlying b,Conv.intToInt]};{simp[convert,run_underlying a,run_underlying b]}
def PW(P:w_)(S:Nat->Prop)(o:Oper)(fr:Fr)(H:Aa)(K:v_->Prop):Prop:=
 match o.op with
 | .move x=>zF fr x K
 | .assign x=>zF fr x K
 | .pick c a b=>zF fr c λvc=>match vc with
   | .bool b'=>AD b' (zF fr a K) (zF fr b K)
   | _=>False
 | .binOp op t x y _=>zF fr x λa=>zF fr y λb=>match Rn op a b with
   | some v=>K v
   | none=>AO P (do eqGuard op t x y a b;binOp op t a b) S H K
 | .unOp op _ x=>zF fr x λa=>match VI op a with
   | some v=>K v
   | none=>AO P (Op.unary op a) S H K
 | .convert s d x=>zF fr x λa=>match OO (P.underlying s) (P.underlying d) a with
   | some v=>K v
   | none=>AO P (convert s d a) S H K
 | .extract x i=>zF fr x λa=>match a with
   | .tuple vs=>match vs.toList[i]? with
     | some v=>K v
     | none=>False
   | _=>False
 | .nilCheck x=>zF fr x λa=>match a with
   | .pointer (zY p)=>K (.pointer (zY p))
   | _=>False
 | .makeInterface t x=>zF fr x λa=>match P.underlying t with
   | some (.interface _)=>False
   | some _=>K (.iface t a)
   | none=>False
 | .makeFunc fn first cap=>Ja fr first.toList λvs=>Ja fr cap.toList λus=>K (.func fn vs.toArray us.toArray)
 | .load t a=>zF fr a λp=>AO P (Instr.loadAt t p) S H K
 | .index t x i=>zF fr x λa=>zF fr i λj=>AO P (Instr.index t a j) S H K
 | .indexAddr t x i=>zF fr x λa=>zF fr i λj=>AO P (Instr.indexAt t a j) S H K
 | .fieldAddr s x f=>zF fr x λa=>AO P (Instr.fieldAt s a f) S H K
 | .field t x f=>zF fr x λa=>AO P (Instr.field t a f) S H K
 | .slice t x lo hi mx=>zF fr x λa=>X0 fr lo λl=>X0 fr hi λh=>X0 fr mx λm=>AO P (Instr.sliceAt t a l h m) S H K
 | .lookup t x i ok=>zF fr x λa=>zF fr i λj=>AO P (Instr.lookup t a j ok) S H K
 | .build t ps=>pP fr ps.toList λvs=>AO P (Instr.build t vs.toArray) S H K
 | .typeAssert x t a ok=>zF fr x λv=>AO P (Instr.typeAssert v t a ok) S H K
 | .call {callee:=.builtin .len,args,argTypes}=>Ja fr args.toList λvs=>
   match argTypes.toList with
   | [t]=>match RN (P.underlying t) vs with
     | some v=>K v
     | none=>AO P (Builtin.len_ argTypes o.type vs.toArray) S H K
   | _=>AO P (Builtin.len_ argTypes o.type vs.toArray) S H K
 | .call {callee:=.builtin .cap,args,argTypes}=>Ja fr args.toList λvs=>AO P (Builtin.cap_ argTypes o.type vs.toArray) S H K
 | .call {callee:=.builtin .min,args,argTypes}=>Ja fr args.toList λvs=>AO P (Builtin.min_ argTypes o.type vs.toArray) S H K
 | .call {callee:=.builtin .max,args,argTypes}=>Ja fr args.toList λvs=>AO P (Builtin.max_ argTypes o.type vs.toArray) S H K
 | _=>False
def No(o:Oper):Bool:=
 match o.op with
 | .move _ | .assign _ | .pick .. | .binOp .. | .unOp .. | .convert .. | .extract .. | .nilCheck _ | .makeInterface .. | .makeFunc .. | .load .. | .index ..
 | .indexAddr .. | .fieldAddr .. | .field .. | .slice .. | .lookup .. | .build .. | .typeAssert .. =>zW
 | .call {callee:=.builtin .len, .. } | .call {callee:=.builtin .cap, .. } | .call {callee:=.builtin .min, .. } | .call {callee:=.builtin .max, .. }=>zW
 | _=>zU
def AO.out{m:Sem v_}(h:AO P m S H K):
  ∃v,(∀w:y_,C_ S H w.heap->m.run P w= .ok v w)/\K v:=by exact h.out_
def Ce{m:Sem v_}{w':y_}(h:m.run P w= .ok v w'):
  (do pure (Next.value (<-m)):Sem Next).run P w= .ok (.value v) w':=by simp[h]
def gV{m:Sem Unit}{w':y_}(h:m.run P w= .ok () w'):
  (do m;pure Next.skip:Sem Next).run P w= .ok .skip w':=by simp[h]
def FR{o:Oper}(h:PW P S o fr H K):
  ∃v,(∀w:y_,C_ S H w.heap->(execOp (yJ fr) o).run P w= .ok (.value v) w)/\K v:=by
 unfold PW at h;split at h<;>rename_i ho<;>simp only[JS,K6,Wp,R2]at h;all_goals simp only[execOp,ho]
 case h_1=>exact⟨_,λw _=>zZ,h⟩
 case h_2=>exact⟨_,λw _=>zZ,h⟩
 (case h_3=>split at h;{rename_i b g;cases b;{exact⟨_,λw _=>by simp[g,asBool],h⟩};{exact⟨_,λw _=>by simp[g,asBool],h⟩}};{exact h.elim});(case h_4=>split at h;{rename_i v a;exact⟨v,λw _=>Ce (SO a w),h⟩};{have⟨v,a,k⟩:=h.out;exact⟨v,λw c=>Ce (a w c),k⟩});(case h_5=>split at h;{rename_i v a;exact⟨v,λw _=>Ce (VJ a w),h⟩};{have⟨v,a,k⟩:=h.out;exact⟨v,λw c=>Ce (a w c),k⟩});(case h_6=>split at h;{rename_i v a;exact⟨v,λw _=>Ce (Rv a w),h⟩};{have⟨v,a,k⟩:=h.out;exact⟨v,λw c=>Ce (a w c),k⟩});(case h_7=>split at h;{split at h;{rename_i vs f _ v a;refine⟨v,λw _=>Ce ?_,h⟩;simp at a;simp[Instr.extract,f,a]};{exact h.elim}};{exact h.elim});(case h_8=>split at h;{rename_i p i;exact⟨_,λw _=>by simp[i],h⟩};{exact h.elim});(case h_9=>split at h;{exact h.elim};{rename_i d j l;refine⟨_,λw _=>Ce ?_,h⟩;cases d<;>first | (exact(j _ rfl).elim) | simp[Instr.makeInterface,run_underlying l]};{exact h.elim});(case h_10=>refine⟨_,λw _=>Ce ?_,h⟩;simp only[<-sL,qB];simp[Instr.makeFunc])
 all_goals try
  have⟨v,a,k⟩:=h.out;exact⟨v,λw c=>Ce (a w c),k⟩
 (case h_18=>have⟨v,a,k⟩:=h.out;simp only[<-sL,qB]at a;exact⟨v,λw c=>Ce (a w c),k⟩);all_goals simp only[<-sL,qB]at h
 (case h_20=>split at h;{rename_i t n;split at h;{rename_i v a;refine⟨v,λw _=>Ce (m:=Builtin.len_ _ _ _) ?_,h⟩;have e:∀{A:Array x_},A.toList=[t]->A= #[t]:=λh=>Al2 (by simpa using h);obtain rfl:=e n;have q:=TC (ty:=o.type) a w;rwa [qB]at q};{have⟨v,a,k⟩:=h.out;exact⟨v,λw c=>Ce (m:=Builtin.len_ _ _ _) (a w c),k⟩}};{have⟨v,a,k⟩:=h.out;exact⟨v,λw c=>Ce (m:=Builtin.len_ _ _ _) (a w c),k⟩});(case h_21=>have⟨v,a,k⟩:=h.out;exact⟨v,λw c=>Ce (m:=Builtin.cap_ _ _ _) (a w c),k⟩);(case h_22=>have⟨v,a,k⟩:=h.out;exact⟨v,λw c=>Ce (m:=Builtin.min_ _ _ _) (a w c),k⟩);(case h_23=>have⟨v,a,k⟩:=h.out;exact⟨v,λw c=>Ce (m:=Builtin.max_ _ _ _) (a w c),k⟩);all_goals exact h.elim
structure JB(P:w_)(t:x_)(x:v_)(name:String)(args:Array v_)(H:Aa)(K:v_->Aa->Prop):Prop where
 in_::
 out_:∃f as1,(∀w:y_,w.heap=H->(callMethod (.iface t x) name args).run P w= .ok (.enter f as1) w)/\Aj P f as1 H K
def VY(P:w_)(q:Bool)(S:Nat->Prop)(f:v_)(args:List v_)(H:Aa)(K:v_->Aa->Prop):Prop:=
 match f with
 | .func (.func g) first cap=>match q with
   | true=>Le P g (first.toList++args++cap.toList).toArray S H λv=>K v H
   | false=>Ae P g (first.toList++args++cap.toList).toArray H K
 | _=>False
def nJ(P:w_)(o:Oper)(fr:Fr)(H:Aa)(K:v_->Aa->Prop):Prop:=
 match o.op with
 | .alloc t=>BV P (Instr.alloc t zW (.tuple #[])) H K
 | .box t x=>zF fr x λv=>BV P (Instr.box t v) H K
 | .buildSlice t n ps=>pP fr ps.toList λvs=>BV P (Instr.buildSlice t n vs.toArray) H K
 | .store t a x=>zF fr a λp=>zF fr x λv=>Dm P (Instr.storeAt t p v) H λH'=>K undef H'
 | .makeMap t r=>X0 fr r λv=>BV P (Instr.makeMap t v) H K
 | .makeSlice t l c=>zF fr l λn=>zF fr c λm=>BV P (Instr.makeSlice t n m) H K
 | .mapUpdate t m k x=>zF fr m λr=>zF fr k λj=>zF fr x λv=>Dm P (Instr.mapUpdate t r j v) H λH'=>K undef H'
 | .insert t m k x=>zF fr m λr=>zF fr k λj=>zF fr x λv=>Dm P (Instr.mapUpdate t r j v) H λH'=>K undef H'
 | .mapEntry t m k=>zF fr m λr=>zF fr k λj=>BV P (Instr.mapEntry t r j) H K
 | .entryStore t m s x=>zF fr m λr=>zF fr s λj=>zF fr x λv=>Dm P (Instr.entryStore t r j v) H λH'=>K undef H'
 | .range t x=>zF fr x λv=>BV P (Instr.range t v) H K
 | .next it s=>zF fr it λv=>BV P (Instr.next v s o.type) H K
 | .entry it=>zF fr it λv=>BV P (Instr.entry v) H K
 | .convert s d x=>zF fr x λv=>BV P (convert s d v) H K
 | .call {callee:=.builtin .append,args,argTypes}=>Ja fr args.toList λvs=>BV P (Builtin.append_ argTypes o.type vs.toArray) H K
 | .call {callee:=.builtin .copy,args,argTypes}=>Ja fr args.toList λvs=>BV P (Builtin.copy_ argTypes o.type vs.toArray) H K
 | .call {callee:=.builtin .delete,args,argTypes}=>Ja fr args.toList λvs=>BV P (Builtin.delete_ argTypes o.type vs.toArray) H K
 | .call {callee:=.builtin .clear,args,argTypes}=>Ja fr args.toList λvs=>BV P (Builtin.clear_ argTypes o.type vs.toArray) H K
 | .call {callee:=.invoke r name,args, .. }=>zF fr r λv=>Ja fr args.toList λvs=>match v with
   | .iface t x=>JB P t x name vs.toArray H K
   | _=>False
 | .call {callee:=.value f,args, .. }=>zF fr f λg=>Ja fr args.toList λvs=>VY P zU (λ_=>True) g vs H K
 | _=>False
def HX(P:w_)(o:Oper):Bool:=
 match o.op with
 | .convert s d _=>match P.underlying s,P.underlying d with
   | some (.slice _),_=>zU
   | some .string,zY (.slice _)=>zU
   | _,_=>zW
 | _=>zW
def wV(P:w_)(q:Bool)(S:Nat->Prop)(o:Oper)(fr:Fr)(H:Aa)(K:v_->Aa->Prop):Prop:=
 match No o&&HX P o with
 | true=>PW P S o fr H λv=>K v H
 | false=>match q with
   | true=>match o.op with
     | .call {callee:=.value f,args, .. }=>zF fr f λg=>Ja fr args.toList λvs=>VY P zW S g vs H K
     | _=>False
   | false=>nJ P o fr H K
def BV.out{m:Sem v_}{K:v_->Aa->Prop}(h:BV P m H K):
  ∀w:y_,w.heap=H->∃v a,m.run P w= .ok v a/\p_ w a/\K v a.heap:=by exact h.out_
def Dm.out{m:Sem Unit}{K:Aa->Prop}(h:Dm P m H K):
  ∀w:y_,w.heap=H->∃a,m.run P w= .ok () a/\p_ w a/\K a.heap:=by exact h.out_
def Ae.out{a:Array v_}{K:v_->Aa->Prop}(h:Ae P f a H K):Aj P f a H K:=by exact h.out_
def Le.out{a:Array v_}(h:Le P f a S H K):
  ∃v,(∀H',C_ S H H'->Aj P f a H' λb H''=>b=v/\C_ S H' H'')/\K v:=by exact h.out_
section
variable{x:v_}{a:String}{b:Array v_}{K:v_->Aa->Prop}
def JB.out(h:JB P t x a b H K):
  ∃f c,(∀w:y_,w.heap=H->(callMethod (.iface t x) a b).run P w= .ok (.enter f c) w)/\Aj P f c H K:=by exact h.out_
def JB.mk(f:FuncId)(c:Array v_)
  (d:∀w:y_,(callMethod (.iface t x) a b).run P w= .ok (.enter f c) w) (h:Aj P f c H R) (k:∀v H',R v H'->K v H'):JB P t x a b H K:=by exact⟨⟨f,c,λw _=>d w,h.mono k⟩⟩
end
def U8(P:w_)(o:Oper)(a:Act)(w:y_)(K:v_->Aa->Prop):Prop:=
 ∀Q:Exit->Act->y_->Prop,o.wp P a w (λa' w'=>∃v,a'=a.put o.dst v/\p_ w w'/\K v w'.heap) Q
section
variable{o:Oper}{a:Act}
def Pn{w':y_}{K:v_->Aa->Prop}
  (h:(execOp a.eval o).run P w= .ok (.value v) w') (b:p_ w w') (k:K v w'.heap):U8 P o a w K:=by intro Q;unfold Oper.wp;rw[h];exact⟨v,rfl,b,k⟩
def XJ{w':y_}{K:v_->Aa->Prop}
  (h:(execOp a.eval o).run P w= .ok .skip w') (b:p_ w w') (k:K undef w'.heap):U8 P o a w K:=by intro Q;unfold Oper.wp;rw[h];exact⟨undef,rfl,b,k⟩
def Pm{K:v_->Aa->Prop}{b:Array v_}
  (h:(execOp a.eval o).run P w=(callFunc f b).run P w) (k:Aj P f b w.heap K):U8 P o a w K:=by intro Q;unfold Oper.wp;rw[h,(k w rfl).1];refine(k w rfl).2.mono ?_;rintro e g ⟨v,rfl,c,d⟩;exact⟨v,rfl,c,d⟩
def UR{K:v_->Aa->Prop}(j:At fr a)
  (h:nJ P o fr w.heap K):U8 P o a w K:=by
 have i:=j.evalF;unfold nJ at h;split at h<;>rename_i ho<;>try simp only[JS,K6,Wp,R2,<-sL,qB]at h
 all_goals try (
  have⟨v,n,k,d,l⟩:=h.out w rfl;exact Pn (by rw[i];simp only[execOp,ho];exact Ce k) d l)
 all_goals try (
  have⟨n,k,d,l⟩:=h.out w rfl;exact XJ (by rw[i];simp only[execOp,ho];exact gV k) d l)
 (case h_19=>split at h;{rename_i t x p;have⟨f,q,r,m⟩:=h.out;refine Pm ?_ m;rw[i];simp only[execOp,ho,resolve,p];rw[(m w rfl).1,<-r w rfl];have s:∀A:Array v_,(#[Value.iface t x]++A)[0]?=zY (Value.iface t x):=λA=>by{simp[Array.getElem?_append]};rename_i b c _;have e2:(Al1 (yJ fr) b).extract 0 b.size=Al1 (yJ fr) b:=by{rw[(zZ:b.size=(Al1 (yJ fr) b).size)];exact Array.extract_size};simp[invoke,s,e2]};{exact h.elim});(case h_20=>
 unfold VY at h;rename_i y b c;split at h;{
 rename_i g first cap u
 refine Pm ?_ h.out;rw[i];have e:(first.toList++(Al1 (yJ fr) b).toList++cap.toList).toArray=first++Al1 (yJ fr) b++cap:=Al2 zZ
 rw[e];simp only[execOp,ho,resolve,u,Deferred.ofValue];simp[invoke]};{exact h.elim});all_goals exact h.elim
def DT{K:v_->Aa->Prop}(b:At fr a)
  (h:wV P zU (λ_=>True) o fr w.heap K):U8 P o a w K:=by unfold wV at h;split at h;{have⟨v,c,d⟩:=FR h;exact Pn (by rw[b.evalF];exact c w (C_.refl _ _)) (p_.refl w) d};{exact UR b h}
end
def xX(w0:y_)(S:Nat->Prop)(w:y_):Prop:=p_ w0 w/\C_ S w0.heap w.heap
def XI{o:Oper}{a:Act}{K:v_->Aa->Prop}(d:At fr a)
  (h:wV P zW S o fr w0.heap K):∃v,(∀w,xX w0 S w->o.quietAt P a (xX w0 S) w v)/\K v w0.heap:=by
 unfold wV at h;split at h;{have⟨v,l,k⟩:=FR h;refine⟨v,λw i=>?_,k⟩;unfold Oper.quietAt;rw[d.evalF,l w i.2];exact⟨rfl,rfl⟩};{
 dsimp only at h;split at h;{
 rename_i f b c m;simp only[JS,K6,<-sL]at h;unfold VY at h;split at h;{
 rename_i g first cap n
 have⟨v,p,k⟩:=h.out;refine⟨v,λw i=>?_,k⟩;have⟨q,r⟩:=p w.heap i.2 w rfl;have s:(execOp a.eval o).run P w=(callFunc g (first.toList++(Al1 (yJ fr) b).toList++cap.toList).toArray).run P w:=by{
 rw[d.evalF];have e:(first.toList++(Al1 (yJ fr) b).toList++cap.toList).toArray=first++Al1 (yJ fr) b++cap:=Al2 zZ
 rw[e];simp only[execOp,m,resolve,n,Deferred.ofValue];simp[invoke]};unfold Oper.quietAt;rw[s,q];refine⟨rfl,r.mono ?_⟩;rintro e u ⟨x,rfl,j,rfl,t⟩;exact⟨rfl,i.1.trans j,i.2.trans t⟩};{exact h.elim}};{exact h.elim}}
def wC(K:Fr->Aa->Prop)(fr:Fr)(H:Aa):Prop:=K fr H
def RH(P:w_)(q:Bool)(S:Nat->Prop)(o:Oper)(want:Bool)(t:Nat)(fr:Fr)(H:Aa)(K:Fr->Aa->Prop):Prop:=
 yL fr t λv=>match v with
  | .bool b=>AD b
    (xN fr t (.bool zW) λfr1=>match want with
     | true=>wV P q S o fr1 H λv H'=>D1 o.dst fr1 v λfr'=>wC K fr' H'
     | false=>D1 o.dst fr1 undef λfr'=>wC K fr' H)
    (xN fr t (.bool zU) λfr1=>match want with
     | false=>wV P q S o fr1 H λv H'=>D1 o.dst fr1 v λfr'=>wC K fr' H'
     | true=>D1 o.dst fr1 undef λfr'=>wC K fr' H)
  | .tuple _=>D1 o.dst fr undef λfr'=>wC K fr' H
  | _=>False
def Mg(P:w_)(q:Bool)(S:Nat->Prop)(all:List Oper)(l:List Oper):Fr->Aa->(Fr->Aa->Prop)->Prop:=
 Al0 (motive:=λ_=>Fr->Aa->(Fr->Aa->Prop)->Prop) (λfr H K=>K fr H) (λo _ ih fr H K=>
  match o.guard with
  | none=>wV P q S o fr H λv H'=>D1 o.dst fr v λfr'=>ih fr' H' K
  | some (j,want)=>match(all[j]?).bind (·.dst)with
    | none=>False
    | some t=>RH P q S o want t fr H λfr' H'=>ih fr' H' K) l
def Q7(P:w_)(q:Bool)(S:Nat->Prop)(all rest:List Oper)(o:Oper)(fr:Fr)(H:Aa)(K:Fr->Aa->Prop):Mg P q S all (o::rest) fr H K=
  (match o.guard with
  | none=>wV P q S o fr H λv H'=>D1 o.dst fr v λa=>Mg P q S all rest a H' K
  | some (j,want)=>match(all[j]?).bind (·.dst)with
    | none=>False
    | some t=>RH P q S o want t fr H λa H'=>Mg P q S all rest a H' K):=rfl
def Fm{t:Nat}(h:rd fr t=v)(b:v≠undef):fr.set t v=fr:=by unfold rd at h;rcases sM t fr.length with a | a;{rw[xE,yI a]at h;subst h;exact jW a};{rw[xE,zE a]at h;exact absurd h.symm b}
def J6{c:List Oper}{a:Act}(e:At fr a){j t:Nat}(f:(c[j]?).bind (·.dst)=zY t){b:Bool}(d:rd fr t= .bool b):
  yielded c.toArray a.tmps j=zY b:=by
 obtain⟨rfl,_⟩:=e;unfold yielded;have:((c.toArray[j]?).bind (·.dst))=zY t:=by simpa using f
 rw[this];unfold rd at d;rw[xE]at d;simp only[xO];cases h:a.tmps[t]? with|none=>simp[h,undef]at d|some v=>simp[h]at d;simp[d]
def J7{b:List Oper}{a:Act}(d:At fr a){j t:Nat}(e:(b[j]?).bind (·.dst)=zY t){vs:Array v_}(c:rd fr t= .tuple vs):
  yielded b.toArray a.tmps j=zV:=by
 obtain⟨rfl,_⟩:=d;unfold yielded;have:((b.toArray[j]?).bind (·.dst))=zY t:=by simpa using e
 rw[this];unfold rd at c;rw[xE]at c;simp only[xO];cases h:a.tmps[t]? with|none=>rfl|some v=>simp[h]at c;simp[c]
def L1{P:w_}{all:List Oper}{Q:Exit->Act->y_->Prop}:∀(l:List Oper) (fr:Fr) (a:Act) (w:y_) (K:Fr->Aa->Prop),At fr a->
  (∀d a' g,At d a'->p_ w g->K d g.heap->Q .normal a' g)->
  Mg P zU (λ_=>True) all l fr w.heap K->wpList P all.toArray Q l a w
 | [],fr,a,w,K,hat,hq,h=>hq fr a w hat (p_.refl w) h
 | o::l,fr,a,w,K,hat,hq,h=>by
   have go:∀(c:Bool),(c=zW->U8 P o a w λv H'=>D1 o.dst fr v λd=>Mg P zU (λ_=>True) all l d H' K)->
     (c=zU->D1 o.dst fr undef λd=>Mg P zU (λ_=>True) all l d w.heap K)->
     Region.wanted o (yielded all.toArray a.tmps)=c->wpList P all.toArray Q (o::l) a w:=by
    intro c n p u;unfold wpList;rw[u];cases c with
    | true=>
      refine .inl (Oper.wp_mono ?_ (n rfl _));rintro a' g ⟨v,rfl,f,r⟩;rw[CH]at r;exact L1 l _ _ _ K (hat.put o.dst v) (λd a' q n p i=>hq d a' q n (f.trans p) i) r
    | false=>
      have i:=p rfl;rw[CH]at i;exact L1 l _ _ _ K (hat.put o.dst undef) hq i
   rw[Q7]at h;split at h
   ·rename_i e;exact go zW (λ_=>DT hat h) (λh=>by cases h) (by simp[Region.wanted,e])
   ·rename_i j c e;split at h
    ·exact h.elim
    ·rename_i t s;unfold RH at h;simp only[wC]at h;rw[EM]at h;split at h
     ·rename_i b k;have m:=J6 hat s k;have hs:fr.set t (.bool b)=fr:=Fm k (by simp[undef]);cases b<;>cases c<;>simp only[AD,GR,hs]at h
      ·exact go zW (λ_=>DT hat h) (λh=>by cases h) (by simp[Region.wanted,e,m])
      ·exact go zU (λh=>by cases h) (λ_=>h) (by simp[Region.wanted,e,m])
      ·exact go zU (λh=>by cases h) (λ_=>h) (by simp[Region.wanted,e,m])
      ·exact go zW (λ_=>DT hat h) (λh=>by cases h) (by simp[Region.wanted,e,m])
     ·rename_i vs k;exact go zU (λh=>by cases h) (λ_=>h) (by simp[Region.wanted,e,J7 hat s k])
     ·exact h.elim
def aF{id:Nat}{l:List Oper}{a:Act}{K:Fr->Aa->Prop}(c:At fr a)
  (e:∀b a' d,At b a'->p_ w d->K b d.heap->Q .normal a' d)
  (h:Mg P zU (λ_=>True) l l fr w.heap K):(Code.region id l.toArray zU).wp P Q a w:=
 wp_region_lit (L1 l fr a w K c e h)
def Jn{P:w_}{S:Nat->Prop}{all:List Oper}{w0:y_}:∀(l:List Oper) (fr:Fr) (a:Act) (K:Fr->Aa->Prop) (Q:Act->Prop),At fr a->
  (∀d a',At d a'->K d w0.heap->Q a')->
  Mg P zW S all l fr w0.heap K->wpQuiet P all.toArray (xX w0 S) Q l a
 | [],fr,a,K,Q,hat,hq,h=>hq fr a hat h
 | o::l,fr,a,K,Q,hat,hq,h=>by
   have go:∀(c:Bool),(c=zW->wV P zW S o fr w0.heap λv H'=>D1 o.dst fr v λd=>Mg P zW S all l d H' K)->
     (c=zU->D1 o.dst fr undef λd=>Mg P zW S all l d w0.heap K)->
     Region.wanted o (yielded all.toArray a.tmps)=c->wpQuiet P all.toArray (xX w0 S) Q (o::l) a:=by
    intro c n p q;unfold wpQuiet;rw[q];cases c with
    | true=>
      have⟨v,r,i⟩:=XI hat (n rfl);rw[CH]at i;exact⟨v,r,Jn l _ _ K Q (hat.put o.dst v) hq i⟩
    | false=>
      have k:=p rfl;rw[CH]at k;exact Jn l _ _ K Q (hat.put o.dst undef) hq k
   rw[Q7]at h;split at h
   ·rename_i e;exact go zW (λ_=>h) (λh=>by cases h) (by simp[Region.wanted,e])
   ·rename_i j c e;split at h
    ·exact h.elim
    ·rename_i t m;unfold RH at h;simp only[wC]at h;rw[EM]at h;split at h
     ·rename_i b f;have g:=J6 hat m f;have hs:fr.set t (.bool b)=fr:=Fm f (by simp[undef]);cases b<;>cases c<;>simp only[AD,GR,hs]at h
      ·exact go zW (λ_=>h) (λh=>by cases h) (by simp[Region.wanted,e,g])
      ·exact go zU (λh=>by cases h) (λ_=>h) (by simp[Region.wanted,e,g])
      ·exact go zU (λh=>by cases h) (λ_=>h) (by simp[Region.wanted,e,g])
      ·exact go zW (λ_=>h) (λh=>by cases h) (by simp[Region.wanted,e,g])
     ·rename_i vs f;exact go zU (λh=>by cases h) (λ_=>h) (by simp[Region.wanted,e,J7 hat m f])
     ·exact h.elim
structure Ap(P:w_)(l:List Oper)(fr:Fr)(H:Aa)(K:Fr->Aa->Prop):Prop where
 in_::
 out_:∀(id:Nat) (Q:Exit->Act->y_->Prop) (a:Act) (w:y_),At fr a->w.heap=H->(∀c a w,¬Q (.panic c) a w)->
  (∀fr' a' w',At fr' a'->p_ w w'->K fr' w'.heap->Q .normal a' w')->(Code.region id l.toArray zW).wp P Q a w
def Ap.quiet{l:List Oper}{K:Fr->Aa->Prop}(S:Nat->Prop)(f:P.follows .mixedOrders=zW)
  (g:Region.lexB .any l.toArray=zW) (h:Mg P zW S l l fr H λb _=>∀H',C_ S H H'->K b H'):Ap P l fr H K:=by refine⟨?_⟩;intro id Q a w e i _ j;subst i;refine wp_region_quiet (C:=xX w S) f g ⟨⟨rfl,rfl,rfl⟩,C_.refl _ _⟩ ?_;exact Jn l fr a _ _ e (λb a' c k m d=>j b a' m c d.1 (k _ d.2)) h
def eD(h:C_ (λ_=>True) H H'):H'=H:=Array.ext_getElem? λi=>h i trivial
def Ap.lex{l:List Oper}{K:Fr->Aa->Prop}(f:P.follows .mixedOrders=zW)
  (g:Region.lexB .any l.toArray=zW) (h:Mg P zW (λ_=>True) l l fr H K):Ap P l fr H K:=by refine⟨?_⟩;intro id Q a w d i _ j;subst i;refine wp_region_quiet (C:=xX w λ_=>True) f g ⟨⟨rfl,rfl,rfl⟩,C_.refl _ _⟩ ?_;exact Jn l fr a K _ d (λe a' b k m c=>j e a' m b c.1 (by rw[eD c.2];exact k)) h
def PR(P:w_)(ops:Array Oper)(Q:Exit->Act->y_->Prop)(S:y_->Prop)(z:Nat):Nat->Array Bool->Act->y_->Prop
 | 0,listed,a,w=>Region.ready .any ops listed=[]/\Q .normal a w
 | fuel+1,listed,a,w=>
   (Region.ready .any ops listed=[]->Q .normal a w)/\
   ∀i∈Region.ready .any ops listed,wpOp P ops Q i (λa' w'=>(i≠z->S w')/\PR P ops Q S z fuel (listed.setIfInBounds i zW) a' w') a w
def PT{P:w_}{d:Array Oper}{Q:Exit->Act->y_->Prop}{S:y_->Prop}{z:Nat}:∀(b:Nat) (c:Array Bool) (a:Act) (w:y_),
  PR P d Q S z b c a w->wpAny P .any d Q b c a w
 | 0,_,_,_,h=>h
 | b+1,_,_,_,h=>⟨h.1,λi e=>wpOp_mono (λa' f g=>PT b _ a' f g.2) (h.2 i e)⟩
def S3{f:Array Oper}{S:y_->Prop}{z:Nat}{x:Oper}(K:f[i]?=zY x)
  (r:∀(j:Nat) (o:Oper) B b,f[j]?=zY o->o.op≠ .select B b)
  (X:∀c a w,Q (.panic c) (a.put x.dst v) w->Q (.panic c) a w) (Y:i≠z) (Z:∀V,f[z]?=zY V->∃e∈V.after,Region.binds .any e=zW/\e.on=i):
  ∀(g:Nat) (d:Array Bool) (a:Act) (w:y_),
   (∀j s,f[j]?=zY s->j≠i->d.getD j zW=zU->(∀e∈s.after,Region.binds .any e=zW->e.on≠i)->x.apart f s=zW)->
   i∈Region.ready .any f d->YieldsIf P f S x v a->S w->
   PR P f Q S z g (d.setIfInBounds i zW) (a.put x.dst v) w->PR P f Q S z (g+1) d a w:=by
 intro g;induction g with|zero=>intro d a w _ y G C H;refine⟨λh=>(by rw[h]at y;cases y),λj I=>?_⟩;by_cases l:j=i;{subst l;exact G.wpOp K C ⟨λ_=>C,H⟩};{have:=ready_mono I l;rw[H.1]at this;cases this}|succ g ih=>{
 intro d a w m y G C H;refine⟨λh=>(by rw[h]at y;cases y),λj I=>?_⟩;by_cases l:j=i;{subst l;exact G.wpOp K C ⟨λ_=>C,H⟩};{
 have A:=H.2 j (ready_mono I l);have⟨t,s,n,D⟩:=mem_ready.1 I;have u:∀e∈s.after,Region.binds .any e=zW->e.on≠i:=λe L M N=>by{have A:=D e L M;have W:=(mem_ready.1 y).1;rw[N]at A;rcases sM i d.size with O | O;{simp[O]at W A;rw[W]at A;cases A};{simp[nW O]at A}};have p:j≠z:=by{intro p;subst p;have⟨e,L,M,R⟩:=Z s n;exact u e L M R}
 have h2:=wpOp_putIf n (m j s n l t u) (λB b=>r i x B b K) (λB b=>r j s B b n) X G A;have q:∀k ok,f[k]?=zY ok->k≠i->(d.setIfInBounds j zW).getD k zW=zU->
   (∀e∈ok.after,Region.binds .any e=zW->e.on≠i)->x.apart f ok=zW:=λk ok hk T E U=>by
  refine m k ok hk T ?_ U;by_cases F:j=k
  ·subst F;exact t
  ·rw[getD_set_ne zW F]at E;exact E
 refine wpOp_mono (λa' w' J=>⟨λ_=>J.2.1 p,ih (d.setIfInBounds j zW) a' w' q (ready_mono y (Ne.symm l)) J.1 (J.2.1 p) ?_⟩) h2;rw[jY _ _ l];exact J.2.2}}
inductive Sch where
 | e
 | q (i:Nat) (s:Sch)
 | f (i:Nat) (s:Sch)
 | b (i:Nat) (s:Sch) (j:Nat) (s':Sch)
def sq:List Nat->Sch->Sch
 | [],s=>s
 | i::l,s=>.q i (sq l s)
def Up(P:w_)(S:Nat->Prop)(z:Nat)(H0:Aa)(all:List Oper)(i:Nat)(fr:Fr)(H:Aa)(next:Fr->Aa->Prop):Prop:=
 match all[i]? with
 | none=>False
 | some o=>match o.guard with
   | some _=>False
   | none=>match AlG i z with
     | true=>wV P zU (λ_=>True) o fr H λv H'=>D1 o.dst fr v λfr'=>next fr' H'
     | false=>wV P zU (λ_=>True) o fr H λv H'=>C_ S H0 H'/\D1 o.dst fr v λfr'=>next fr' H'
def T3(P:w_)(S:Nat->Prop)(z:Nat)(H0:Aa)(all:List Oper)(s:Sch):Fr->Aa->(Fr->Aa->Prop)->Prop:=
 Sch.rec (motive:=λ_=>Fr->Aa->(Fr->Aa->Prop)->Prop) (λfr H K=>K fr H)
  (λi _ ih fr H K=>match all[i]? with
   | none=>False
   | some o=>match o.guard with
     | some _=>False
     | none=>match No o&&HX P o with
       | true=>PW P S o fr H λv=>D1 o.dst fr v λfr'=>ih fr' H K
       | false=>False)
  (λi _ ih fr H K=>Up P S z H0 all i fr H λfr' H'=>ih fr' H' K)
  (λi _ j _ ih ih' fr H K=>(Up P S z H0 all i fr H λfr' H'=>ih fr' H' K)/\Up P S z H0 all j fr H λfr' H'=>ih' fr' H' K) s
def dR(P:w_)(S:Nat->Prop)(z:Nat)(H0:Aa)(all:List Oper)(i:Nat)(s:Sch)(fr:Fr)(H:Aa)(K:Fr->Aa->Prop):T3 P S z H0 all (.q i s) fr H K=
  (match all[i]? with
   | none=>False
   | some o=>match o.guard with
     | some _=>False
     | none=>match No o&&HX P o with
       | true=>PW P S o fr H λv=>D1 o.dst fr v λa=>T3 P S z H0 all s a H K
       | false=>False):=rfl
def JX(ops:Array Oper)(z:Nat):Sch->Array Bool->Bool
 | .e,listed=>(Region.ready .any ops listed).isEmpty
 | .q i s,listed=>(Region.ready .any ops listed).contains i&&Region.free .any ops listed i&& !(AlG i z)&&(zT (ops.size<=z)|| Region.waitsFor .any ops z i)&&JX ops z s (listed.setIfInBounds i zW)
 | .f i s,listed=>Region.ready .any ops listed==[i]&&(!(AlG i z)|| (match s with | .e=>zW | _=>zU))&&JX ops z s (listed.setIfInBounds i zW)
 | .b i s j s',listed=>Region.ready .any ops listed==[i,j]&& !(AlG i z)&& !(AlG j z)&&JX ops z s (listed.setIfInBounds i zW)&&JX ops z s' (listed.setIfInBounds j zW)
def Sch.len:Sch->Nat
 | .e=>0
 | .q _ s=>s.len+1
 | .f _ s=>s.len+1
 | .b _ s _ _=>s.len+1
def Sch.even:Sch->Bool
 | .e=>zW
 | .q _ s=>s.even
 | .f _ s=>s.even
 | .b _ s _ s'=>s.even&&s'.even&&s.len==s'.len
def Kq{z:Nat}{a:Act}{next:Fr->Aa->Prop}
  (c:At fr a) (k:p_ w0 w) (h:Up P S z w0.heap all i fr w.heap next)
  (n:∀f a' e,At f a'->p_ w0 e->(i≠z->xX w0 S e)->next f e.heap->N a' e):wpOp P all.toArray Q i N a w:=by unfold Up at h;split at h;{exact h.elim};{rename_i o p;have l:all.toArray[i]?=zY o:=by{simpa using p};split at h;{exact h.elim};{rename_i q;have d:Region.wanted o (yielded all.toArray a.tmps)=zW:=by{simp[Region.wanted,q]};unfold wpOp;rw[l];dsimp only;rw[I_ d];split at h;{rename_i r;refine .inl (Oper.wp_mono ?_ (DT c h _));rintro a' e ⟨v,rfl,b,g⟩;rw[CH]at g;exact n _ _ _ (c.put o.dst v) (k.trans b) (λm=>absurd (nY r) m) g};{refine .inl (Oper.wp_mono ?_ (DT c h _));rintro a' e ⟨v,rfl,b,j,g⟩;rw[CH]at g;exact n _ _ _ (c.put o.dst v) (k.trans b) (λ_=>⟨k.trans b,j⟩) g}}}
def Gu{P:w_}{S:Nat->Prop}{z:Nat}{w0:y_}{all:List Oper}{Q:Exit->Act->y_->Prop}(hs:Region.noSelect all.toArray=zW)
  (C:∀c a w,¬Q (.panic c) a w):∀(l:Sch) (d:Array Bool) (fr:Fr) (a:Act) (w:y_) (K:Fr->Aa->Prop),At fr a->(l= .e->p_ w0 w)->(l≠ .e->xX w0 S w)->
  (∀m a' g,At m a'->p_ w0 g->K m g.heap->Q .normal a' g)->JX all.toArray z l d=zW->l.even=zW->
  T3 P S z w0.heap all l fr w.heap K->PR P all.toArray Q (xX w0 S) z l.len d a w
 | .e,d,fr,a,w,K,hat,J,_,hq,hB,_,h=>⟨by simpa [JX]using hB,hq fr a w hat (J rfl) h⟩
 | .q i s,d,fr,a,w,K,hat,_,p,hq,hB,hev,h=>by
   have p:=p zZ;simp only[JX,O',tJ,yD,vY]at hB;obtain⟨⟨⟨⟨y,t⟩,L⟩,D⟩,n⟩:=hB;rw[dR]at h;split at h
   ·exact h.elim
   ·rename_i o W;have E:all.toArray[i]?=zY o:=by simpa using W
    split at h
    ·exact h.elim
    ·rename_i X;have A:Region.wanted o (yielded all.toArray a.tmps)=zW:=by simp[Region.wanted,X]
     split at h
     ·have⟨v,Y,r⟩:=FR h;rw[CH]at r;refine S3 (v:=v) E (Region.noSelect_spec hs) (λc a' g Z=>(C _ _ _ Z).elim) (qE L) ?_ s.len d a w (Region.free_spec E t) (by simpa using y)
       (.inl ⟨A,λg M=>?_⟩) p ?_
      ·intro oz B;rcases D with D | D
       ·rw[nW D]at B;cases B
       ·have⟨oj,N,e,J,hb,O⟩:=Region.waitsFor_spec D;have:oj=oz:=Option.some.inj (N.symm.trans B);subst this;exact⟨e,J,hb,O⟩
      ·rw[hat.evalF];exact Y g λk r=>(M.2 k r).trans (p.2 k r).symm
      ·exact Gu hs C s _ _ _ w K (hat.put o.dst v) (λ_=>p.1) (λ_=>p) hq n hev r
     ·exact h.elim
 | .f i s,d,fr,a,w,K,hat,_,p,hq,hB,hev,h=>by
   have u:=p zZ;simp only[JX,O',tJ,vY,beq_iff_eq]at hB;obtain⟨⟨y,t⟩,n⟩:=hB;refine⟨(λF=>by rw[y]at F;cases F),λj V=>?_⟩;rw[y]at V;obtain rfl:j=i:=by simpa using V
   refine Kq hat u.1 h λm a' g G H x I=>⟨x,Gu hs C s _ _ _ g K G (λ_=>H) (λR=>x λT=>?_) hq n hev I⟩;rcases t with t | t
   ·exact qE t T
   ·cases s<;>first | exact R rfl | cases t
 | .b i s j s',d,fr,a,w,K,hat,_,p,hq,hB,hev,h=>by
   have u:=p zZ;simp only[JX,O',vY,beq_iff_eq]at hB;obtain⟨⟨⟨⟨y,t⟩,L⟩,n⟩,U⟩:=hB;simp only[Sch.even,O',beq_iff_eq]at hev;obtain⟨⟨e1,e2⟩,e3⟩:=hev;refine⟨(λF=>by rw[y]at F;cases F),λk r=>?_⟩;rw[y]at r;rcases xU.1 r with rfl | r
   ·exact Kq hat u.1 h.1 λm a' g G H x I=>⟨x,Gu hs C s _ _ _ g K G (λ_=>H) (λ_=>x (qE t)) hq n e1 I⟩
   ·obtain rfl:k=j:=by simpa using r
    rw[e3];exact Kq hat u.1 h.2 λm a' g G H x I=>⟨x,Gu hs C s' _ _ _ g K G (λ_=>H) (λ_=>x (qE L)) hq U e2 I⟩
section
variable{l:List Oper}{K:Fr->Aa->Prop}
def Ap.held(S:Nat->Prop)(z:Nat)(b:Sch)(e:P.follows .mixedOrders=zW)
  (c:(Region.noSelect l.toArray&&(b.len==l.length)&&b.even&&JX l.toArray z b (AkM l.length zU))=zW)
  (h:T3 P S z H l b fr H K):Ap P l fr H K:=by refine⟨?_⟩;intro id Q a w d f g i;subst f;simp only[O',beq_iff_eq]at c;refine wp_region_any e (PT (S:=xX w S) (z:=z) _ _ _ _ ?_);have:=Gu (P:=P) (S:=S) (z:=z) (w0:=w) (Q:=Q) c.1.1.1 g b (AkM l.length zU) fr a {w with drawn:=w.drawn+1} K d (λ_=>⟨rfl,rfl,rfl⟩) (λ_=>⟨⟨rfl,rfl,rfl⟩,C_.refl _ _⟩) i c.2 c.1.2 h;rw[c.1.1.2]at this;simpa using this
def Ap.tail(z:Nat)(a:Sch)(b:P.follows .mixedOrders=zW)
  (c:(Region.noSelect l.toArray&&(a.len==l.length)&&a.even&&JX l.toArray z a (AkM l.length zU))=zW)
  (h:T3 P (λ_=>True) z H l a fr H K):Ap P l fr H K:=Ap.held _ z a b c h
def Ap.out(h:Ap P l fr H K):
  ∀(id:Nat) (Q:Exit->Act->y_->Prop) (a:Act) (w:y_),At fr a->w.heap=H->(∀c a w,¬Q (.panic c) a w)->
  (∀b a' d,At b a'->p_ w d->K b d.heap->Q .normal a' d)->(Code.region id l.toArray zW).wp P Q a w:=by exact h.out_
end
def Iu(w0:y_)(Q:Exit->Fr->Aa->Prop):Exit->Act->y_->Prop
 | .panic _,_,_=>False
 | .outgrown,_,_=>False
 | e,a,w=>∃fr,At fr a/\p_ w0 w/\Q e fr w.heap
def Qq(X:List (Nat×(Fr->Aa->Prop)))(id:Nat)(fr:Fr)(H:Aa):Prop:=
 match X with
 | []=>False
 | (j,k)::X=>match AlG j id with
   | true=>k fr H
   | false=>Qq X id fr H
def Qx(kn:Fr->Aa->Prop)(X:List (Nat×(Fr->Aa->Prop)))(kr:Fr->Aa->Prop)(e:Exit)(fr:Fr)(H:Aa):Prop:=
 match e with
 | .normal=>kn fr H
 | .exit id=>Qq X id fr H
 | .ret=>kr fr H
 | _=>False
structure Ay(P:w_)(c:Code)(fr:Fr)(H:Aa)(X:List (Nat×(Fr->Aa->Prop)))(kr:Fr->Aa->Prop):Prop where
 in_::
 out_:∀(a:Act) (w:y_),At fr a->w.heap=H->(Code.loop c).wp P (Iu w (Qx (λ_ _=>False) X kr)) a w
def Ls:Code->Bool
 | .ret | .exit _ | .goto _=>zU
 | .seq a b=>Ls a&&Ls b
 | .cond _ a b=>Ls a|| Ls b
 | _=>zW
def Jc(id:Nat):Code->Nat
 | .exit j=>match AlG j id with
   | true=>1
   | false=>0
 | .seq a b=>Jc id a+Jc id b
 | .cond _ a b=>Jc id a+Jc id b
 | .block _ c=>Jc id c
 | .loop c=>Jc id c
 | _=>0
def MF:Code->Bool
 | .seq _ b=>MF b
 | .cond _ a b=>Ls a&&Ls b
 | .block id (.loop c)=>Nat.blt 1 (Jc id c)
 | .block id c=>(Ls c&&Nat.blt 0 (Jc id c))|| Nat.blt 1 (Jc id c)|| MF c
 | _=>zU
structure Au(P:w_)(x y:Code)(fr:Fr)(H:Aa)(kn:Fr->Aa->Prop)(X:List (Nat×(Fr->Aa->Prop)))(kr:Fr->Aa->Prop):Prop where
 in_::
 out_:∀(a:Act) (w:y_),At fr a->w.heap=H->(Code.seq x y).wp P (Iu w (Qx kn X kr)) a w
def vc(P:w_)(c:Code):Fr->Aa->(Fr->Aa->Prop)->List (Nat×(Fr->Aa->Prop))->(Fr->Aa->Prop)->Prop:=
 Code.rec (motive:=λ_=>Fr->Aa->(Fr->Aa->Prop)->List (Nat×(Fr->Aa->Prop))->(Fr->Aa->Prop)->Prop)
  (λfr H kn _ _=>kn fr H)
  (λ_ ops draw fr H kn _ _=>match draw with
   | false=>Mg P zU (λ_=>True) ops.toList ops.toList fr H kn
   | true=>Ap P ops.toList fr H kn)
  (λa b iha ihb fr H kn X kr=>match MF a with
   | true=>Au P a b fr H kn X kr
   | false=>iha fr H (λfr' H'=>ihb fr' H' kn X kr) X kr)
  (λc _ _ ihx ihy fr H kn X kr=>match c with
   | .tmp t=>yL fr t λv=>match v with
     | .bool b=>AD b (xN fr t (.bool zW) λfr1=>ihx fr1 H kn X kr) (xN fr t (.bool zU) λfr1=>ihy fr1 H kn X kr)
     | _=>False
   | .const (.bool b)=>AD b (ihx fr H kn X kr) (ihy fr H kn X kr)
   | _=>False)
  (λid _ ih fr H kn X kr=>ih fr H kn ((id,kn)::X) kr)
  (λc _ fr H _ X kr=>Ay P c fr H X kr)
  (λ_ _ _ _ _ _ _ _ _ _ _=>False)
  (λid fr H _ X _=>Qq X id fr H)
  (λ_ _ _ _ _ _ _=>False)
  (λ_ _ _ _ _ _=>False)
  (λ_ _ _ _ _ _=>False)
  (λfr H _ _ kr=>kr fr H)
  (λ_ _ _ _ _ _=>False) c
section
variable(P:w_)(a b:Code)(fr:Fr)(H:Aa)(kn:Fr->Aa->Prop)(X:List (Nat×(Fr->Aa->Prop)))(kr:Fr->Aa->Prop)
def Yn(id:Nat)(a:Array Oper)(b:Bool):vc P (.region id a b) fr H kn X kr=(match b with
   | false=>Mg P zU (λ_=>True) a.toList a.toList fr H kn
   | true=>Ap P a.toList fr H kn):=rfl
def AhS:vc P (.seq a b) fr H kn X kr=(match MF a with
   | true=>Au P a b fr H kn X kr
   | false=>vc P a fr H (λc H'=>vc P b c H' kn X kr) X kr):=rfl
def aE(c:z_):vc P (.cond c a b) fr H kn X kr=(match c with
   | .tmp t=>yL fr t λv=>match v with
     | .bool x=>AD x (xN fr t (.bool zW) λd=>vc P a d H kn X kr) (xN fr t (.bool zU) λd=>vc P b d H kn X kr)
     | _=>False
   | .const (.bool x)=>AD x (vc P a fr H kn X kr) (vc P b fr H kn X kr)
   | _=>False):=rfl
def fY(id:Nat):vc P (.block id a) fr H kn X kr=vc P a fr H kn ((id,kn)::X) kr:=rfl
end
variable{X:List (Nat×(Fr->Aa->Prop))}{kr kn:Fr->Aa->Prop}
def Ay.out(h:Ay P c fr H X kr):
  ∀(a:Act) (w:y_),At fr a->w.heap=H->(Code.loop c).wp P (Iu w (Qx (λ_ _=>False) X kr)) a w:=by exact h.out_
def Au.out{x y:Code}(h:Au P x y fr H kn X kr):
  ∀(a:Act) (w:y_),At fr a->w.heap=H->(Code.seq x y).wp P (Iu w (Qx kn X kr)) a w:=by exact h.out_
def Iu.env{c:y_}{Q:Exit->Fr->Aa->Prop}(b:p_ w0 c):∀{e:Exit} {a:Act} {w:y_},Iu c Q e a w->Iu w0 Q e a w
 | .normal,_,_,⟨fr,h1,h2,h3⟩ | .exit _,_,_,⟨fr,h1,h2,h3⟩ | .goto _,_,_,⟨fr,h1,h2,h3⟩ | .ret,_,_,⟨fr,h1,h2,h3⟩=>⟨fr,h1,b.trans h2,h3⟩
variable{Q':Exit->Fr->Aa->Prop}
def Iu.mono{Q:Exit->Fr->Aa->Prop}(b:∀e fr H,Q e fr H->Q' e fr H):∀{e:Exit} {a:Act} {w:y_},Iu w0 Q e a w->Iu w0 Q' e a w
 | .normal,_,_,⟨fr,h1,h2,h3⟩ | .exit _,_,_,⟨fr,h1,h2,h3⟩ | .goto _,_,_,⟨fr,h1,h2,h3⟩ | .ret,_,_,⟨fr,h1,h2,h3⟩=>⟨fr,h1,h2,b _ _ _ h3⟩
def P6{x y:Code}{d:Fr->Aa->Prop}{a:Act}
  (g:x.wp P (Iu w (Qx d X kr)) a w)
  (i:∀fr a' b,At fr a'->p_ w b->d fr b.heap->y.wp P (Iu b (Qx kn X kr)) a' b):(Code.seq x y).wp P (Iu w (Qx kn X kr)) a w:=by refine wp_seq (Code.wp_mono ?_ g);intro e a' b h;cases e with|normal=>have⟨fr,j,f,k⟩:=h;exact Code.wp_mono (λe a w h=>Iu.env f h) (i fr a' b j f k)|exit id=>exact h|goto l=>exact h|ret=>exact h|panic c=>exact h|outgrown=>exact h
def CF{P:w_}:∀(c:Code) (fr:Fr) (kn:Fr->Aa->Prop) (X:List (Nat×(Fr->Aa->Prop))) (kr:Fr->Aa->Prop) (a:Act) (w:y_),At fr a->
  vc P c fr w.heap kn X kr->c.wp P (Iu w (Qx kn X kr)) a w
 | .skip,fr,kn,X,kr,a,w,hat,h=>wp_skip ⟨fr,hat,p_.refl w,h⟩
 | .region id ops draw,fr,kn,X,kr,a,w,hat,h=>by
   rw[Yn]at h;cases draw with
   | false=>
     have:=aF (P:=P) (id:=id) (l:=ops.toList) (Q:=Iu w (Qx kn X kr)) hat (λd a' k g j f=>⟨d,g,j,f⟩) h;simpa using this
   | true=>
     have:=h.out id (Iu w (Qx kn X kr)) a w hat rfl (λ_ _ _ h=>h) (λd a' k g j f=>⟨d,g,j,f⟩);simpa using this
 | .seq x y,fr,kn,X,kr,a,w,hat,h=>by
   rw[AhS]at h;split at h
   ·exact h.out a w hat rfl
   ·exact P6 (CF x fr _ X kr a w hat h) λd a' k g _ f=>CF y d kn X kr a' k g f
 | .cond c x y,fr,kn,X,kr,a,w,hat,h=>by
   rw[aE]at h;split at h
   ·rename_i t;rw[EM]at h;split at h
    ·rename_i b n;have hs:fr.set t (.bool b)=fr:=Fm n (by simp[undef]);have o:a.eval (.tmp t)= .bool b:=by rw[hat.eval];exact n
     cases b<;>simp only[AD,GR,hs]at h
     ·exact wp_cond_false o (CF y fr kn X kr a w hat h)
     ·exact wp_cond_true o (CF x fr kn X kr a w hat h)
    ·exact h.elim
   ·rename_i b;cases b<;>simp only[AD]at h
    ·exact wp_cond_false rfl (CF y fr kn X kr a w hat h)
    ·exact wp_cond_true rfl (CF x fr kn X kr a w hat h)
   ·exact h.elim
 | .block id c,fr,kn,X,kr,a,w,hat,h=>by
   rw[fY]at h;refine wp_block (Code.wp_mono ?_ (CF c fr kn _ kr a w hat h));intro e a' k h;cases e with
   | exit m=>
     have⟨d,g,j,f⟩:=h;simp only[Qx,Qq]at f;simp only[Exit.inBlock];split at f
     ·rename_i i;have:=nY i;rw[I_ this.symm];exact⟨d,g,j,f⟩
     ·rename_i i;have:id≠m:=qE i;rw[G_ (Ne.symm this)];exact⟨d,g,j,f⟩
   | normal=>exact h
   | goto l=>exact h
   | ret=>exact h
   | panic c=>exact h
   | outgrown=>exact h
 | .loop c,fr,kn,X,kr,a,w,hat,h=>Code.wp_mono (λe a w=>Iu.mono λe fr H p=>by
   cases e<;>first | exact p | exact p.elim) (h.out a w hat rfl)
 | .exit id,fr,kn,X,kr,a,w,hat,h=>wp_exit ⟨fr,hat,p_.refl w,h⟩
 | .ret,fr,kn,X,kr,a,w,hat,h=>wp_ret ⟨fr,hat,p_.refl w,h⟩
 | .rangeFunc ..,_,_,_,_,_,_,_,h=>h.elim
 | .scope _,_,_,_,_,_,_,_,h=>h.elim
 | .label _,_,_,_,_,_,_,_,h=>h.elim
 | .goto _,_,_,_,_,_,_,_,h=>h.elim
 | .refuse _,_,_,_,_,_,_,_,h=>h.elim
noncomputable def Sh{R:Type}(fr:Fr)(ts:List Nat):(List v_->R)->R:=
 Al0 (motive:=λ_=>(List v_->R)->R) (λK=>K []) (λt _ ih K=>yL fr t λv=>ih λvs=>K (v::vs)) ts
noncomputable def VM{R:Type}(fr:Fr)(ts:List Nat)(vs:List v_)(K:Fr->R):R:=
 Al0 (motive:=λ_=>List v_->Fr->R) (λ_ fr=>K fr) (λt _ ih vs fr=>List.casesOn vs (K fr) λv vs=>xN fr t v λfr'=>ih vs fr') ts vs fr
noncomputable def Ji{R:Type}(f:Nat->v_)(fr:Fr)(ts:List Nat)(K:Fr->R):R:=
 Al0 (motive:=λ_=>Fr->R) (λfr=>K fr) (λt _ ih fr=>xN fr t (f t) λfr'=>ih fr') ts fr
def pI(fr:Fr):List Nat->List v_->Fr
 | t::ts,v::vs=>pI (fr.set t v) ts vs
 | _,_=>fr
def HE(f:Nat->v_)(fr:Fr):List Nat->Fr
 | []=>fr
 | t::ts=>HE f (fr.set t (f t)) ts
def Ik{R:Type}(fr:Fr):∀(a:List Nat) (K:List v_->R),Sh fr a K=K (a.map (rd fr))
 | [],_=>rfl
 | t::a,K=>by show yL fr t (λv=>Sh fr a λvs=>K (v::vs))=_;simp only[EM,Ik fr a,wO]
def KR{R:Type}:∀(a:List Nat) (vs:List v_) (fr:Fr) (K:Fr->R),VM fr a vs K=K (pI fr a vs)
 | [],vs,fr,K=>by cases vs<;>rfl
 | _::_,[],_,_=>rfl
 | t::a,v::vs,fr,K=>by show xN fr t v (λb=>VM b a vs K)=_;simp only[GR,pI];exact KR a vs _ K
def D9{R:Type}(f:Nat->v_):∀(a:List Nat) (fr:Fr) (K:Fr->R),Ji f fr a K=K (HE f fr a)
 | [],_,_=>rfl
 | t::a,fr,K=>by show xN fr t (f t) (λb=>Ji f b a K)=_;simp only[GR,HE];exact D9 f a _ K
def MC(f:Nat->v_):∀(a:List Nat) (fr:Fr) (i:Nat),(HE f fr a)[i]?=if i∈a/\i<fr.length then zY (f i)else fr[i]?
 | [],fr,i=>by simp[HE]
 | t::a,fr,i=>by
   simp only[HE,MC f a,yF,xU,xV];by_cases d:i∈a<;>by_cases c:i<fr.length<;>by_cases b:t=i
   all_goals simp[d,c,b]
   all_goals first | (subst b;simp[c];done) | (rw[G_ (by omega)];done) | (have:¬i=t:=λh=>b h.symm;simp[this];done) | skip
def LY(f:Nat->v_):∀(a:List Nat) (fr:Fr),(HE f fr a).length=fr.length
 | [],_=>rfl
 | t::a,fr=>by simp only[HE,LY f a,yF]
def Ep{b:List Nat}{a:Fr}(h:HE (λ_=>undef) a b=HE (λ_=>undef) fr b):HE (rd a) fr b=a:=by
 have e:a.length=fr.length:=by have:=congrArg List.length h;simpa [LY]using this
 apply yW;intro i;rw[MC];have c:=congrArg (λl:List v_=>l[i]?) h;simp only[MC,e]at c;by_cases d:i∈b/\i<fr.length;{rw[I_ d];simp[rd,yI (e ▸ d.2)]};{rw[G_ d]at c ⊢;rw[G_ d]at c;exact c.symm}
def IU:∀(a:List Nat) (fr:Fr),pI fr a (a.map (rd fr))=fr
 | [],_=>rfl
 | t::a,fr=>by
   have hs:fr.set t (rd fr t)=fr:=by
    unfold rd;rcases sM t fr.length with b | b
    ·rw[xE,yI b];exact jW b
    ·exact List.set_eq_of_length_le b
   simp only[wO,pI,hs];exact IU a fr
def Lb(ws:List Nat)(fr fr':Fr)(p:Prop):Prop:=
 Ji (λ_=>undef) fr' ws λa=>Ji (λ_=>undef) fr ws λb=>a=b/\p
def N7(J:Nat->Act->y_->Prop)
  (g:∀n a w,J n a w->c.wp P (Exit.then (λa' i=>∃n',n'<n/\J n' a' i) Q) a w):∀n a w,J n a w->(Code.loop c).wp P Q a w:=by intro t u w0 v b k o;have p:∀n a w,J n a w->∃e a' i,Q e a' i/\Arrives P (lone (b.at a (.code c:: .inLoop c::k)) o w) b k o e a' i:=by{intro n;induction n using Nat.strongRecOn with|_ n ih=>{intro a w y;have⟨e,j,m,f,d⟩:=g n a w y b (.inLoop c::k) o;cases e with|normal=>have⟨n',q,r⟩:=f;have⟨z,A,B,s,h⟩:=ih n' q j m r;exact⟨z,A,B,s,.of_steps (Steps.trans d (.one step_inLoop)) h⟩|exit id=>exact⟨_,j,m,f,.pass (x:=.inLoop c) rfl (λ_ _=>.inl zZ) d⟩|goto l=>exact⟨_,j,m,f,.pass (x:=.inLoop c) rfl (λ_ _=>.inl zZ) d⟩|ret=>exact⟨_,j,m,f,.pass (x:=.inLoop c) rfl (λ_ _=>.inl zZ) d⟩|panic C=>exact⟨_,j,m,f,.pass (x:=.inLoop c) rfl (λ_ _=>.inl zZ) d⟩|outgrown=>exact⟨_,j,m,f,.pass (x:=.inLoop c) rfl (λ_ _=>.inl zZ) d⟩}};have⟨e,a',i,f,d⟩:=p t u w0 v;exact⟨e,a',i,f,.of_steps (.one step_loop) d⟩
def Ra:List Oper->List Nat->List Nat
 | [],acc=>acc
 | o::l,acc=>match o.dst with
   | some d=>d::Ra l acc
   | none=>Ra l acc
def Jz:Code->List Nat->List Nat
 | .region _ ops _,acc=>Ra ops.toList acc
 | .seq a b,acc=>Jz a (Jz b acc)
 | .cond _ a b,acc=>Jz a (Jz b acc)
 | .block _ c,acc=>Jz c acc
 | .loop c,acc=>Jz c acc
 | .scope c,acc=>Jz c acc
 | _,acc=>acc
def Ay.mk{α:Type}(j:List Nat)(enc:α->List v_)(I:α->Aa->Prop)(m:α->Aa->Nat)
  (h0:Sh fr j λvs=>∃x,vs=enc x/\I x H)
  (E:∀(x:α) (H1:Aa) (k:Nat->v_),I x H1->Ji k fr (Jz c []) λr=>VM r j (enc x) λf=>
   vc P c f H1 (λd H'=>Lb (Jz c []) fr d (Sh d j λvs=>∃y,vs=enc y/\I y H'/\m y H'<m x H1)) X kr):Ay P c fr H X kr:=by generalize Jz c []=F at E;refine⟨?_⟩;intro a w s K;subst K;have o:=h0;rw[Ik]at o;have⟨L,t,u⟩:=o;let J (n:Nat) (a':Act) (w':y_):Prop:=∃d x,At d a'/\p_ w w'/\HE (λ_=>undef) d F=HE (λ_=>undef) fr F/\j.map (rd d)=enc x/\I x w'.heap/\m x w'.heap=n;refine N7 J ?_ _ a w ⟨fr,L,s,p_.refl w,rfl,t,u,rfl⟩;rintro n M G ⟨f,N,p,b,v,z,A,rfl⟩;have h:=E N G.heap (rd f) A;rw[D9,KR,Ep v,<-z,IU j f]at h;refine Code.wp_mono ?_ (CF c f _ X kr M G p h);intro e S O g;cases e with|normal=>have⟨B,q,i,g⟩:=g;simp only[Qx,Lb,D9,Ik]at g;have⟨C,y,Q,D,R⟩:=g;exact⟨m y O.heap,R,B,y,q,b.trans i,C,Q,D,rfl⟩|exit id=>exact Iu.env b g|goto l=>exact Iu.env b g|ret=>exact Iu.env b g|panic c=>exact g|outgrown=>exact g
def Au.run{x y:Code}
  (h:vc P x fr H (λb H'=>vc P y b H' kn X kr) X kr):Au P x y fr H kn X kr:=by refine⟨?_⟩;intro a w c d;subst d;exact P6 (CF x fr _ X kr a w c h) λb a' e f _ g=>CF y b kn X kr a' e f g
def Au.cut{x y:Code}{α:Type}(e:List Nat)(enc:α->List v_)(I:α->Aa->Prop)
  (h:vc P x fr H (λc H'=>Lb (Jz x []) fr c (Sh c e λvs=>∃y,vs=enc y/\I y H')) X kr)
  (k:∀(z:α) (H1:Aa) (d:Nat->v_),I z H1->Ji d fr (Jz x []) λf=>VM f e (enc z) λb=>vc P y b H1 kn X kr):Au P x y fr H kn X kr:=by generalize Jz x []=r at h k;refine⟨?_⟩;intro a w g l;subst l;refine P6 (CF x fr _ X kr a w g h) λb m i n _ j=>?_;simp only[Lb,D9,Ik]at j;have⟨o,z,p,q⟩:=j;have h:=k z i.heap (rd b) q;rw[D9,KR,Ep o,<-p,IU e b]at h;exact CF y b kn X kr m i n h
def uE(P:w_)(t:x_)(p:v_)(H:Aa)(K:v_->Prop):Prop:=
 match p with
 | .pointer (zY a)=>AO P (Instr.loadAt t (.pointer (zY a))) (λ_=>True) H K
 | _=>False
def Qb(P:w_)(rs:List ResultVar)(fr:Fr)(H:Aa)(R:v_->Aa->Prop):Prop:=
 match rs with
 | [.tmp t]=>yL fr t λv=>R v H
 | []=>R (.tuple #[]) H
 | [.tmp t,.tmp u]=>yL fr t λv=>yL fr u λx=>R (.tuple #[v,x]) H
 | [.tmp t,.tmp u,.tmp y]=>yL fr t λv=>yL fr u λx=>yL fr y λz=>R (.tuple #[v,x,z]) H
 | [.cell a t]=>yL fr a λp=>uE P t p H λv=>R v H
 | [.cell a t,.tmp u]=>yL fr a λp=>uE P t p H λv=>yL fr u λx=>R (.tuple #[v,x]) H
 | [.tmp u,.cell a t]=>yL fr a λp=>uE P t p H λv=>yL fr u λx=>R (.tuple #[x,v]) H
 | [.cell a t,.cell b u]=>yL fr a λp=>uE P t p H λv=>yL fr b λq=>uE P u q H λx=>R (.tuple #[v,x]) H
 | _=>False
def Hr{p:v_}(h:uE P t p w.heap K):
  ∃a v,p= .pointer (zY a)/\(loadVar t a).run P w= .ok v w/\K v:=by unfold uE at h;split at h;{rename_i a;have⟨v,c,k⟩:=h.out;have b:=c w (C_.refl _ _);simp[Instr.loadAt,Instr.sureAddr]at b;exact⟨a,v,rfl,b,k⟩};{exact h.elim}
def P0{fn:Func}{a:Act}(g:At fr a)(h:Qb P fn.results.toList fr w.heap R):
  ∃v,(results fn a.tmps).run P w= .ok v w/\R v w.heap:=by have c:∀t,a.tmps.getD t undef=rd fr t:=λt=>g.eval (.tmp t);have mk:∀l:List ResultVar,fn.results.toList=l->fn.results=l.toArray:=λl k=>Al2 (by simpa using k);unfold Qb at h;split at h<;>rename_i hr<;>(try simp only[EM]at h)<;>have b:=mk _ hr;{exact⟨_,by simp[results,b,c],h⟩};{exact⟨_,by simp[results,b],h⟩};{exact⟨_,by simp[results,b,c],h⟩};{exact⟨_,by simp[results,b,c],h⟩};{have⟨p,v,e,f,d⟩:=Hr h;exact⟨v,by simp[results,b,c,e,asAddr,f],d⟩};{have⟨p,v,e,f,d⟩:=Hr h;exact⟨_,by simp[results,b,c,e,asAddr,f],d⟩};{have⟨p,v,e,f,d⟩:=Hr h;exact⟨_,by simp[results,b,c,e,asAddr,f],d⟩};{have⟨p,v,e,f,d⟩:=Hr h;have⟨m,n,i,j,d⟩:=Hr d;exact⟨_,by simp[results,b,c,e,i,asAddr,f,j],d⟩}
noncomputable def Pk{R:Type}(l:Fr):(Fr->R)->R:=
 Al0 (motive:=λ_=>(Fr->R)->R) (λK=>K []) (λv _ ih K=>ih λl'=>K (v::l')) l
def IL{R:Type}:∀(l:Fr) (K:Fr->R),Pk l K=K l
 | [],_=>rfl
 | v::l,K=>by show Pk l (λa=>K (v::a))=_;exact IL l _
def Aj.of_vc{fn:Func}{a:Array v_}(o:P.funcs[f]?=zY fn)(p:fn.body=zY c)
  (i:∀w:y_,(callFunc f a).run P w= .ok (.enter f a) w)
  (h:Pk (a.toList++Ai4 (fn.ntmps-a.size) undef) λfr=>vc P c fr H (λj H'=>Qb P fn.results.toList j H' R) [] (λj H'=>Qb P fn.results.toList j H' R)):
  Aj P f a H R:=by intro w q;subst q;refine⟨i w,?_⟩;refine calls_of_wp o p ?_;rw[IL]at h;have m:At (a.toList++Ai4 (fn.ntmps-a.size) undef) {tmps:=a++AkM (fn.ntmps-a.size) undef,defers:=[]}:=⟨zZ,rfl⟩;refine Code.wp_mono ?_ (CF c _ _ _ _ _ w m h);intro e a' k b;have fin:∀fr,At fr a'->p_ w k->Qb P fn.results.toList fr k.heap R->a'.defers=[]/\∃v,(results fn a'.tmps).run P k= .ok v k/\∃n,Ending.returned v= .returned n/\p_ w k/\R n k.heap:=by{intro fr g b d;have⟨v,r,s⟩:=P0 g d;exact⟨g.defers,v,r,v,rfl,b,s⟩};cases e with|normal=>have⟨fr,g,b,d⟩:=b;exact fin fr g b d|ret=>have⟨fr,g,b,d⟩:=b;exact fin fr g b d|exit id=>have⟨fr,g,b,d⟩:=b;exact d.elim|goto l=>have⟨fr,g,b,d⟩:=b;exact d.elim|panic c=>exact b.elim|outgrown=>exact b.elim
structure SlT(P:w_)(t e:x_)(sz by_:Nat)(z:v_):Prop where
 under:P.underlying t=zY (.slice e)
 info:∃i,P.info? e=zY i/\i.size=sz/\i.bytes=by_/\i.zero=zY z
 zsz:z.cells.size=sz
structure Cf(P:w_)(t:x_):Prop where
 under:∃d,P.underlying t=zY d/\d.isRow=zU
 size:(P.info? t).map (·.size)=zY 1
structure GG(P:w_)(t:x_)(n:Nat):Prop where
 under:∃d,P.underlying t=zY d/\d.isRow=zW
 size:(P.info? t).map (·.size)=zY n
structure A7(P:w_)(s f off ft n:Nat):Prop where
 under:∃fs fd,P.underlying s=zY (.struct fs)/\fs[f]?=zY fd/\fd.offset=off/\fd.type=ft
 size:(P.info? ft).map (·.size)=zY n
 pos:n≠0
structure My(P:w_)(t len e sz:Nat):Prop where
 under:P.underlying t=zY (.array len e)
 size:(P.info? e).map (·.size)=zY sz
def cell(H:Aa)(b o:Nat):Option v_:=match H[b]? with
 | some (.cells c _ _)=>c[o]?
 | _=>zV
def Bn(H:Aa)(b o:Nat)(cs:List v_):Prop:=∀j v,cs[j]?=zY v->cell H b (o+j)=zY v
def R_(H:Aa)(b:Nat)(e:x_)(l:List v_):Prop:=H[b]?=zY (.cells l.toArray e (0,0))
def Hx(w:y_)(b o:Nat):w.cell? ⟨b,o,zV⟩=cell w.heap b o:=by unfold World.cell? cell;cases h:w.heap[b]? with|none=>rfl|some x=>cases x<;>rfl
def NL(h:H'[b]?=H[b]?):cell H' b o=cell H b o:=by unfold cell;rw[h]
def Bn.eq(a:Bn H b o cs)(h:H'[b]?=H[b]?):Bn H' b o cs:=
 λj v c=>by rw[NL h];exact a j v c
def R_.cell(h:R_ H b e l)(o:Nat):YtfbghcpdinlmcaaGreatDoor.cell H b o=l[o]? :=by unfold YtfbghcpdinlmcaaGreatDoor.cell;rw[h];simp
def R_.ce{H b e l}(h:R_ H b e l){o}(k:l[o]?=zY v):YtfbghcpdinlmcaaGreatDoor.cell H b o=zY v:=(h.cell o).trans k
def R_.cells(h:R_ H b e l)(a:∀j v,cs[j]?=zY v->l[o+j]?=zY v):Bn H b o cs:=
 λj v c=>by rw[h.cell];exact a j v c
def R_.lt(h:R_ H b e l):b<H.size:=(uS.1 h).1
def R_.eq(h:R_ H b e l)(k:H'[b]?=H[b]?):R_ H' b e l:=k.trans h
def R_.agr(h:R_ H b e l)(k:C_ S H H')(a:S b):R_ H' b e l:=(k b a).trans h
def Y2(h:C_ (λk=>k<n) H H')(b:n<=H.size):n<=H'.size:=by rcases Nat.eq_zero_or_pos n with a | a;{omega};{have:=h (n-1) zO;rw[tU (zO:n-1<H.size)]at this;have:=(uS.1 this).1;omega}
def Sg(a:Bn H b o cs)(h:w.heap[b]?=H[b]?):w.rangeAt b o cs:=λj v c=>by
 rw[Hx,NL h];exact a j v c
def D_(c:Cf P t)(e:cell H b o=zY v)(f:S b)(k:K v):
  AO P (Instr.loadAt t (.pointer (zY ⟨b,o,zV⟩))) S H K:=by
 refine AO.mk v (λw g=>?_) k;have⟨d,h,j⟩:=c.under;have i:w.cell? ⟨b,o,zV⟩=zY v:=by rw[Hx,NL (g b f)];exact e
 have a:(isAgg t).run P w= .ok zU w:=by{unfold isAgg;rw[Sem.run_bind,run_underlying h w];cases d<;>simp_all};simp[Instr.loadAt,Instr.sureAddr,loadVar,a,load,Sem.run,i]
def lT(a:Cf P t)(c:cell H b o=zY v)(k:K v):AO P (Instr.loadAt t (.pointer (zY ⟨b,o,zV⟩))) (λ_=>True) H K:=D_ a c zA k
def L_(a:GG P t cs.length)(c:Bn H b o cs)(e:S b)(k:K (.agg cs.toArray)):
  AO P (Instr.loadAt t (.pointer (zY ⟨b,o,zV⟩))) S H K:=by refine AO.mk _ (λw f=>?_) k;have⟨d,g,h⟩:=a.under;exact run_loadAt_mid w b o t cs d (Sg c (f b e)) g h a.size
def lN(a:GG P t cs.length)(c:Bn H b o cs)(k:K (.agg cs.toArray)):AO P (Instr.loadAt t (.pointer (zY ⟨b,o,zV⟩))) (λ_=>True) H K:=L_ a c zA k
def ix{i:Int}(a:SlT P t e sz by_ z)(h0:0<=i)(c:i<n)
  (d:K (.pointer (zY ⟨b,o+i.toNat*sz,zV⟩))):AO P (Instr.indexAt t (.slice (zY ⟨b,o,zV⟩) n cap) (.int k i)) S H K:=by obtain⟨f,g,hs,_,_⟩:=a.info;refine AO.mk _ (λw _=>?_) d;have h:(⟨b,o,zV⟩:Addr).add (i.toNat*sz)=⟨b,o+i.toNat*sz,zV⟩:=Addr.add_mid _ _ _;simp[Instr.indexAt,asIntOf,run_underlying a.under,h0,c,sizeOf,typeInfo,g,hs,h]
def EV(H:Aa)(o:Obj):C_ (λk=>k<H.size) H (H.push o):=λk a=>by
 rw[oA,G_ zO]
def Hv(w:y_)(o:Obj):(w.alloc o).heap=w.heap.push o:=rfl
def New(H:Aa)(K:Nat->Aa->Prop)(e:x_)(l:List v_):Prop:=
 ∀b H',b=H.size->H'.size=b+1->R_ H' b e l->C_ (λk=>k<b) H H'->K b H'
def New.go{K:Nat->Aa->Prop}(h:New H K e l):K H.size (H.push (.cells l.toArray e)):=
 h H.size _ rfl zZ (by unfold R_;simp) (EV H _)
section
variable{K:v_->Aa->Prop}
def Cd(l:List v_)(a:v.cells=l.toArray)
  (h:New H (λb H'=>K (Y_ b) H') t l):BV P (Instr.box t v) H K:=by refine BV.mk λw c=>?_;subst c;exact⟨_,w.alloc (.cells l.toArray t),by simp[Instr.box,newVar,a,newRow],⟨rfl,rfl,rfl⟩,h.go⟩
def Ag(z:v_)(l:List v_)(a:(P.info? t).bind (·.zero)=zY z)(e:z.cells=l.toArray)
  (h:New H (λb H'=>K (Y_ b) H') t l):BV P (Instr.alloc t zW (.tuple #[])) H K:=by refine BV.mk λw f=>?_;subst f;refine⟨_,w.alloc (.cells l.toArray t),?_,⟨rfl,rfl,rfl⟩,h.go⟩;cases c:P.info? t with|none=>rw[c]at a;cases a|some i=>have d:i.zero=zY z:=by{simpa [c]using a};simp[Instr.alloc,zeroValue,typeInfo,c,d,newVar,e,newRow]
def AhR(a:SlT P t e sz by_ z)(l:List v_)(o:n*sz<=16777216)(h0:0<n*sz)
  (c:Instr.fill (λi=>zY (i*sz,sz)) ((Array.range (n*sz)).map (z.cells[· % z.cells.size]!)) vs.toList=zY l.toArray)
  (h:New H (λb H'=>K (.slice (T_ b) n n) H') e l):BV P (Instr.buildSlice t n vs) H K:=by refine BV.mk λw d=>?_;subst d;refine⟨_,w.alloc (.cells l.toArray e),?_,⟨rfl,rfl,rfl⟩,h.go⟩;obtain⟨f,g,hs,_,j⟩:=a.info;have k:¬(16777216<n*sz):=zO;have m:¬(n*sz=0):=zO;simp only[Instr.buildSlice,Sem.run_bind,run_underlying a.under,Result.andThen_ok,sizeOf,typeInfo,zeroValue];simp[g,hs,j,k,m,c,newRow]
end
def nD{g i:IntKind}{l c:Int}{K:v_->Aa->Prop}(j:SlT P t e sz by_ z)(h0:0<=l)(d:l<=c)(m:(by_:Int)*c<=281474976710656)
  (f:c<=9223372036854775807)
  (h:New H (λb H'=>K (.slice (T_ b) l.toNat c.toNat) H') e ((AjH (c.toNat*sz)).map (z.cells[· % z.cells.size]!))):BV P (Instr.makeSlice t (.int g l) (.int i c)) H K:=by refine BV.mk λw n=>?_;subst n;have⟨a,o,hs,hby,p⟩:=j.info;have k:=run_make (P:=P) w t e a z j.under o p g i l c h0 d (by rw[hby];exact m) f;have q:madeCells z.cells (c.toNat*a.size)=((AjH (c.toNat*sz)).map (z.cells[· % z.cells.size]!)).toArray:=by{rw[hs];unfold madeCells;apply Al2;simp};rw[q]at k;exact⟨_,_,k,⟨rfl,rfl,rfl⟩,h.go⟩
def So(w:y_)(b o:Nat)(v:v_):(w.setCell ⟨b,o,zV⟩ v).heap=w.heap.modify b fun
   | .cells c d a=>.cells (c.setIfInBounds o v) d a
   | x=>x:=by unfold World.setCell;simp only[Option.isSome_none,uH,if_false];congr 1
def N0(a:R_ w.heap b e l)(v:v_):
  R_ (w.setCell ⟨b,o,zV⟩ v).heap b e (l.set o v)/\C_ (λk=>k≠b) w.heap (w.setCell ⟨b,o,zV⟩ v).heap/\(w.setCell ⟨b,o,zV⟩ v).heap.size=w.heap.size:=by rw[So];refine⟨?_,λk c=>?_,zZ⟩;{unfold R_ at a ⊢;rw[qA,I_ rfl,a];simp};{rw[qA,G_ (λh=>c h.symm)]}
def Jg(a:R_ w.heap b e l):w.frozen? ⟨b,o,zV⟩=zU:=by unfold World.frozen?;simp only;rw[a];simp
def r'(H:Aa)(K:Aa->Prop)(b:Nat)(e:x_)(l:List v_):Prop:=
 ∀H',R_ H' b e l->C_ (λk=>k≠b) H H'->H'.size=H.size->K H'
def J_{K:Aa->Prop}(g:Cf P t)(c:R_ H b e l)(j:o<l.length)(k:v.oneCell'=zW)
  (h:r' H K b e (l.set o v)):Dm P (Instr.storeAt t (.pointer (zY ⟨b,o,zV⟩)) v) H K:=by
 refine Dm.mk λw m=>?_;subst m;have n:w.cell? ⟨b,o,zV⟩=zY l[o]:=by rw[Hx,c.cell];simp[j]
 have⟨p,q,r⟩:=N0 (o:=o) c v;refine⟨_,?_,?_,h _ p q r⟩;{have d:v.cells= #[v]:=by{cases v<;>simp_all [Value.cells,Value.oneCell']};have a:=run_storeCells_cells (P:=P) b o [v] 0 w (by simp[n]) (by simp[Jg c]) (by simpa using k);cases f:P.info? t with|none=>have:=g.size;simp[f]at this|some i=>have hs:i.size=1:=by{have:=g.size;simpa [f]using this};simp only[Nat.add_zero]at a;simp[Instr.storeAt,Instr.sureAddr,storeVar,sizeOf,typeInfo,f,d,hs,a,World.setCells]};{exact⟨rfl,rfl,rfl⟩}
abbrev tQ:=@J_
def Ak(l:List v_)(o:Nat)(cs:List v_):List v_:=l.take o++cs++l.drop (o+cs.length)
def DW(h:o+cs.length<=l.length):(Ak l o cs).length=l.length:=by unfold Ak;simp;omega
def Dd(h:o+cs.length<=l.length)(j:Nat):
  (Ak l o cs)[j]?=if o<=j/\j<o+cs.length then cs[j-o]? else l[j]? :=by unfold Ak;rw[zN];by_cases a:j<o;{rw[G_ zO,zR (by simp;omega),List.getElem?_take_of_lt a]};{rw[zL (by simp;omega)];simp only[wK,tY (zO:o<=l.length)];by_cases b:j<o+cs.length;{rw[I_ zO,zR zO]};{rw[G_ zO,zL zO,List.getElem?_drop];congr 1;omega}}
def Hi{b:Nat}{e:x_}:∀(cs:List v_) (o:Nat) (l:List v_) (w:y_),R_ w.heap b e l->o+cs.length<=l.length->
  R_ (w.setCells b o cs).heap b e (Ak l o cs)/\C_ (λk=>k≠b) w.heap (w.setCells b o cs).heap/\(w.setCells b o cs).heap.size=w.heap.size/\p_ w (w.setCells b o cs)
 | [],o,l,w,hb,_=>⟨by simpa [Ak,World.setCells]using hb,C_.refl _ _,rfl,p_.refl w⟩
 | v::cs,o,l,w,hb,hl=>by
   simp only[c_]at hl;have⟨f,a,g⟩:=N0 (o:=o) hb v;have⟨i,m,n,c⟩:=Hi cs (o+1) (l.set o v) (w.setCell ⟨b,o,zV⟩ v) f (by simp;omega);refine⟨?_,a.trans m,n.trans g,⟨c.os,c.tape,c.output⟩⟩;have p:Ak (l.set o v) (o+1) cs=Ak l o (v::cs):=by
    apply yW;intro j;rw[Dd (by simp;omega),Dd (by simp;omega)];simp only[c_];by_cases h:j=o
    ·subst h;rw[G_ zO,I_ zO];simp[(zO:j<l.length)]
    ·by_cases d:o+1<=j/\j<o+1+cs.length
     ·rw[I_ d,I_ zO];rw[(zO:j-o=(j-(o+1))+1),sK]
     ·rw[G_ d,G_ zO,xV,G_ (λa=>h a.symm)]
   rw[<-p];exact i
def wM{K:Aa->Prop}(d:(P.info? t).map (·.size)=zY cs.length)(c:R_ H b e l)(f:o+cs.length<=l.length)(g:cs.all (·.oneCell')=zW)
  (h:r' H K b e (Ak l o cs)):Dm P (Instr.storeAt t (.pointer (zY ⟨b,o,zV⟩)) (.agg cs.toArray)) H K:=by refine Dm.mk λw i=>?_;subst i;have a:w.there b o cs.toArray.size:=λj k=>by{simp only[List.size_toArray]at k;refine⟨?_,Jg c⟩;rw[Hx,c.cell];simp;omega};have⟨m,n,p,q⟩:=Hi cs o l w c f;refine⟨_,run_storeAt_mid (P:=P) w b o t cs.toArray a (by simpa using d) (by simpa using g),by simpa using q,?_⟩;simpa using h _ m n p
def Sl(H:Aa)(lo:Nat)(e:x_)(sz:Nat)(v:v_)(n:Nat)(cs:List v_):Prop:=
 cs.length=n*sz/\((v= .slice zV 0 0/\n=0)\/
  ∃b cap l,v= .slice (T_ b) n cap/\lo<=b/\R_ H b e l/\n<=cap/\cap<=maxLen/\l.length=cap*sz/\l.take (n*sz)=cs)
def O_(v:v_)(k:Nat):Prop:=∃o n c,v= .slice (zY ⟨k,o,zV⟩) n c
def Sl.nil(H:Aa)(lo:Nat)(e:x_)(sz:Nat):Sl H lo e sz (.slice zV 0 0) 0 []:=⟨zZ,.inl ⟨rfl,rfl⟩⟩
def Sl.made(a:lo<=b)(f:R_ H b e l)(c:n<=cap)(g:cap<=maxLen)(d:l.length=cap*sz):
  Sl H lo e sz (.slice (T_ b) n cap) n (l.take (n*sz)):=
 ⟨by rw[wK,d,tY (vO _ c)],.inr ⟨b,cap,l,rfl,a,f,c,g,d,rfl⟩⟩
def Sl.agr(h:Sl H lo e sz v n cs)(k:C_ S H H')(d:∀b,O_ v b->S b):Sl H' lo e sz v n cs:=by have⟨f,a⟩:=h;refine⟨f,?_⟩;rcases a with a | ⟨b,cap,l,rfl,c,g,r⟩;{exact .inl a};{exact .inr ⟨b,cap,l,rfl,c,g.agr k (d b ⟨_,_,_,rfl⟩),r⟩}
def Sl.lt(h:Sl H lo e sz v n cs)(a:O_ v b):lo<=b/\b<H.size:=by obtain⟨o,n',c,rfl⟩:=a;rcases h.2 with⟨d,_⟩ | ⟨b',cap,l,d,f,a,r⟩;{cases d};{cases d;exact⟨f,a.lt⟩}
def Sw{C ty:x_}{K:v_->Aa->Prop}(E:SlT P t e sz by_ z){x:v_}{news:List v_}
  (hs:Sl H lo e sz v n cs) (N:lo<=H.size) (hx:∀w:y_,w.heap=H->Src P sz C x m news w) (F:n+m<=maxLen) (hby:(n+m)*by_<=140737488355328)
  (h:∀D H',Sl H' lo e sz D (n+m) (cs++news)->C_ (λk=>k<H.size/\¬O_ v k) H H'->H.size<=H'.size->(∀k,O_ D k->O_ v k\/H.size<=k)->K D H'):
  BV P (Builtin.append_ #[t,C] ty [v,x].toArray) H K:=by
 refine BV.mk λw hw=>?_;subst hw;have⟨i,O,p,Q,hz⟩:=E.info;have s:=hx w rfl;have a:Src P i.size C x m news w:=by rw[p];exact s
 have A:news.length=m*sz:=s.newsLen;have Z:n+m<=9223372036854775807:=by simp only[maxLen]at F;omega
 have⟨B,R⟩:=hs;have d:(cs++news).length=(n+m)*sz:=by rw[M_,B,A,sR]
 have u:∀(g:Option Addr) (cap:Nat),v= .slice g n cap->cap<n+m->(Builtin.firstCells i.size n (.slice g n cap)).run P w.drew= .ok cs.toArray w.drew->
   ∃D S,(Builtin.append_ #[t,C] ty [v,x].toArray).run P w= .ok D S/\p_ w S/\K D S.heap:=by
  intro g cap y G hold;subst y;have T:=run_append_grow_src (P:=P) w t C ty e i z E.under O hz g n cap cs hold x m news a G zO (growslice_fits zO (by rw[Q];exact hby));refine⟨_,_,T,⟨rfl,rfl,rfl⟩,?_⟩;have U:=grownCap_ge w (n+m) cap e;have V:=grownCap_le_maxLen w (n+m) cap e F;have I:R_ (w.drew.alloc (.cells ((cs++news).toArray++Builtin.zeroCells z.cells (grownCap w (n+m) cap e-(n+m))) e)).heap w.heap.size e
    ((cs++news)++(Builtin.zeroCells z.cells (grownCap w (n+m) cap e-(n+m))).toList):=by
   unfold R_;have:(w.drew.alloc (.cells ((cs++news).toArray++Builtin.zeroCells z.cells (grownCap w (n+m) cap e-(n+m))) e)).heap=w.heap.push (.cells ((cs++news).toArray++Builtin.zeroCells z.cells (grownCap w (n+m) cap e-(n+m))) e):=rfl;rw[this];simp
  refine h _ _ ⟨d,.inr ⟨w.heap.size,_,_,rfl,N,I,U,V,?_,?_⟩⟩ ?_ ?_ ?_
  ·rw[M_,d,tG,size_zeroCells,E.zsz,<-sR]
   congr 1;omega
  ·rw[<-d,iN];rfl
  ·intro k q;exact EV w.heap _ k q.1
  ·show w.heap.size<=(w.heap.push _).size;simp
  ·rintro k ⟨o,n',c,q⟩;cases q;exact .inr (N_ _)
 rcases R with⟨rfl,rfl⟩ | ⟨b,cap,l,rfl,J,M,a1,W,L,r⟩;{have X:cs=[]:=vJ (by simpa using B);subst X;by_cases hm:m=0;{subst hm;have hn:news=[]:=vJ (by simpa using A);subst hn;refine⟨.slice zV 0 0,w,?_,p_.refl w,h _ _ (Sl.nil _ _ _ _) (C_.refl _ _) (N_ _) (λk q=>.inl q)⟩;rcases a.kind with⟨e',q⟩ | q<;>simp[Builtin.append_,run_underlying E.under,run_underlying q,sizeOf,typeInfo,O,a.len,a.cells]};{exact u zV 0 rfl zO (by simp[Builtin.firstCells])}};{by_cases f:n+m<=cap;{have a0:n*sz+news.length<=l.length:=by{rw[A,L,<-sR];exact vO _ f};have T:=run_append_room_src (P:=P) w t C ty e i E.under O b 0 n cap x m news a f (λj hj=>by rw[Hx,M.cell];simp[p];omega) (λj hj=>Jg M);have⟨h1,h2,h3,h4⟩:=Hi news (0+n*i.size) l w M (by rw[p];omega);refine⟨_,_,T,h4,h _ _ ⟨d,.inr ⟨b,cap,_,rfl,J,h1,f,W,?_,?_⟩⟩ (h2.mono λk q=>?_) zO ?_⟩;{rw[DW (by rw[p];omega)];exact L};{rw[p,K_];unfold Ak;rw[r,<-d,iN];rfl};{intro Y;subst Y;exact q.2 ⟨0,n,cap,rfl⟩};{rintro k ⟨o,n',c,q⟩;cases q;exact .inl ⟨0,n,cap,rfl⟩}};{refine u (T_ b) cap rfl zO ?_;have hc:Bn w.heap b 0 cs:=M.cells λj v y=>by{rw[<-r,tE]at y;split at y;{simpa using y};{cases y}};have:=run_firstCells_some (P:=P) w.drew i.size n ⟨b,0,zV⟩ n cap cs (by rw[p];exact B) (λj v y=>by{rw[Addr.add_mid];have:=Sg (w:=w.drew) (H:=w.heap) hc rfl j v y;exact this});exact this}}
structure Ty(α:Type) where
 size:Nat
 rep:(Nat->Prop)->Aa->List v_->α->Prop
 len:∀{S H cs x},rep S H cs x->cs.length=size
 frame:∀{S H H' cs x},rep S H cs x->C_ S H H'->rep S H' cs x
 mono:∀{S S' H cs x},rep S H cs x->(∀k,S k->S' k)->rep S' H cs x
def Ty.reps{α:Type}(T:Ty α)(S:Nat->Prop)(H:Aa):List v_->List α->Prop
 | cs,[]=>cs=[]
 | cs,x::xs=>∃c r,cs=c++r/\T.rep S H c x/\T.reps S H r xs
def Ty.reps_len{α:Type}{T:Ty α}:∀{xs:List α} {cs:List v_},T.reps S H cs xs->cs.length=xs.length*T.size
 | [],_,h=>by cases h;simp
 | x::xs,_,⟨c,r,rfl,h1,h2⟩=>by
   rw[M_,T.len h1,Ty.reps_len h2,c_,sQ];omega
def Ty.reps_frame{α:Type}{T:Ty α}(k:C_ S H H'):∀{xs:List α} {cs:List v_},T.reps S H cs xs->T.reps S H' cs xs
 | [],_,h=>h
 | x::xs,_,⟨c,r,e,h1,h2⟩=>⟨c,r,e,T.frame h1 k,Ty.reps_frame k h2⟩
def Ty.reps_mono{α:Type}{T:Ty α}{S':Nat->Prop}(k:∀i,S i->S' i):∀{xs:List α} {cs:List v_},T.reps S H cs xs->T.reps S' H cs xs
 | [],_,h=>h
 | x::xs,_,⟨c,r,e,h1,h2⟩=>⟨c,r,e,T.mono h1 k,Ty.reps_mono k h2⟩
def Ty.reps_append{α:Type}{T:Ty α}:∀{xs ys:List α} {cs ds:List v_},T.reps S H cs xs->T.reps S H ds ys->T.reps S H (cs++ds) (xs++ys)
 | [],_,_,_,h,h'=>by cases h;simpa using h'
 | x::xs,_,_,_,⟨c,r,e,h1,h2⟩,h'=>⟨c,r++_,by rw[e,zN],h1,Ty.reps_append h2 h'⟩
def Ty.reps_one{α:Type}{T:Ty α}{c:List v_}{x:α}(h:T.rep S H c x):T.reps S H c [x]:=⟨c,[],zZ,h,rfl⟩
def Ty.reps_get{α:Type}{T:Ty α}:∀{xs:List α} {cs:List v_} {i:Nat} {x:α},T.reps S H cs xs->xs[i]?=zY x->∃l c r,cs=l++c++r/\l.length=i*T.size/\T.rep S H c x
 | x::xs,_,0,y,⟨c,r,e,h1,h2⟩,hx=>by
   simp at hx;subst hx;exact⟨[],c,r,by simp[e],by simp,h1⟩
 | x::xs,_,i+1,y,⟨c,r,e,h1,h2⟩,hx=>by
   simp at hx;have⟨l,a,b,d,f,g⟩:=Ty.reps_get h2 hx;exact⟨c++l,a,b,by simp[e,d,zN],by rw[M_,T.len h1,f,sQ];omega,g⟩
def Bn.mid{c r:List v_}(h:Bn H b o (l++c++r)):Bn H b (o+l.length) c:=λj v a=>by
 have:=h (l.length+j) v (by
  rw[zN,zL zO,zR (by
   have:=(V_.1 a).1;omega)]
  rw[(zO:l.length+j-l.length=j)];exact a)
 rw[<-oE]at this;exact this
def Bn.one(h:Bn H b o [v]):cell H b o=zY v:=by have:=h 0 v rfl;simpa using this
def zI(k:IntKind)(x:Int):Prop:=k.min<=x/\x<=k.max
def HT(k:IntKind):Ty Int where
 size:=1
 rep _ _ cs x:=cs=[.int k x]/\zI k x
 len h:=by rw[h.1];rfl
 frame h _:=h
 mono h _:=h
def AI:Ty Bool where
 size:=1
 rep _ _ cs x:=cs=[.bool x]
 len h:=by rw[h];rfl
 frame h _:=h
 mono h _:=h
def nP:Ty ByteArray where
 size:=1
 rep _ _ cs x:=cs=[.string x]/\x.size<=maxLen
 len h:=by rw[h.1];rfl
 frame h _:=h
 mono h _:=h
section
variable{α:Type}
def b_(T:Ty α)(S:Nat->Prop)(H:Aa)(a:Option Addr)(cap:Nat)(xs:List α):Prop:=
 match a with
 | none=>xs=[]/\cap=0
 | some ad=>xs.length<=cap/\cap<=maxLen/\(cap=0\/ad.spot=zV/\S ad.block/\∃ec,Bn H ad.block ad.off ec/\T.reps S H ec xs)
def b_.intro{T:Ty α}{xs:List α}{ec:List v_}(a:S b)(c:xs.length<=cap)(d:cap<=maxLen)(e:Bn H b o ec)(f:T.reps S H ec xs):b_ T S H (zY ⟨b,o,zV⟩) cap xs:=
 ⟨c,d,.inr ⟨rfl,a,ec,e,f⟩⟩
def b_.frame{T:Ty α}{xs:List α}(h:b_ T S H a cap xs)(k:C_ S H H'):b_ T S H' a cap xs:=by cases a with|none=>exact h|some l=>obtain⟨b,c,e | ⟨f,d,g,i,j⟩⟩:=h;{exact⟨b,c,.inl e⟩};{exact⟨b,c,.inr ⟨f,d,g,i.eq (k _ d),Ty.reps_frame k j⟩⟩}
def b_.mono{T:Ty α}{S':Nat->Prop}{xs:List α}(h:b_ T S H a cap xs)(k:∀i,S i->S' i):b_ T S' H a cap xs:=by cases a with|none=>exact h|some m=>obtain⟨b,c,d | ⟨e,f,g,j,l⟩⟩:=h;{exact⟨b,c,.inl d⟩};{exact⟨b,c,.inr ⟨e,k _ f,g,j,Ty.reps_mono k l⟩⟩}
def b_.le{T:Ty α}{xs:List α}(h:b_ T S H a cap xs):xs.length<=cap/\cap<=maxLen:=by cases a with|none=>obtain⟨rfl,rfl⟩:=h;simp|some b=>exact⟨h.1,h.2.1⟩
def zC(T:Ty α):Ty (List α) where
 size:=1
 rep S H cs xs:=∃a cap,cs=[.slice a xs.length cap]/\b_ T S H a cap xs
 len:=by rintro S H cs x ⟨a,cap,rfl,_⟩;rfl
 frame:=by rintro S H H' cs x ⟨a,cap,e,h⟩ k;exact⟨a,cap,e,h.frame k⟩
 mono:=by rintro S S' H cs x ⟨a,cap,e,h⟩ k;exact⟨a,cap,e,h.mono k⟩
def b_.get{T:Ty α}{xs:List α}{x:α}(h:b_ T S H a cap xs)(d:xs[i]?=zY x):
  ∃b o c,a=zY ⟨b,o,zV⟩/\S b/\Bn H b (o+i*T.size) c/\T.rep S H c x:=by cases a with|none=>obtain⟨rfl,_⟩:=h;simp at d|some e=>have⟨b,o,n⟩:=e;obtain⟨p,q,s | ⟨rfl,f,t,g,j⟩⟩:=h;{have:=(V_.1 d).1;omega};obtain⟨l,c,r,rfl,k,m⟩:=Ty.reps_get j d;exact⟨b,o,c,rfl,f,by rw[<-k];exact g.mid,m⟩
def Y'{T:Ty α}{t e:Nat}{xs:List α}{x:α}
  (f:SlT P t e T.size by_ z) (h:b_ T S H a cap xs) (d:xs[i]?=zY x) (g:j=(i:Int))
  (l:∀b o c,S b->Bn H b o c->T.rep S H c x->K (.pointer (zY ⟨b,o,zV⟩))):AO P (Instr.indexAt t (.slice a xs.length cap) (.int k j)) B H K:=by obtain⟨b,o,c,rfl,m,n,p⟩:=h.get d;subst g;have q:=(V_.1 d).1;exact ix f zO zO (by simpa using l b _ c m n p)
end
def fa{s f off e:Nat}(a:A7 P s f off e n)(k:K (.pointer (zY ⟨b,o+off,zV⟩))):
  AO P (Instr.fieldAt s (.pointer (zY ⟨b,o,zV⟩)) f) S H K:=by obtain⟨fs,c,g,h,rfl,rfl⟩:=a.under;refine AO.mk _ (λw _=>?_) k;cases d:P.info? c.type with|none=>have:=a.size;simp[d]at this|some i=>have hs:i.size=n:=by{have:=a.size;simpa [d]using this};have j:=a.pos;have l:(⟨b,o,zV⟩:Addr).add c.offset=⟨b,o+c.offset,zV⟩:=Addr.add_mid _ _ _;simp[Instr.fieldAt,run_underlying g,h,Instr.sureAddr,fieldPlace,sizeOf,typeInfo,d,hs,j,l]
abbrev F_:=@fa
def s_{t len e:Nat}{i:Int}(a:My P t len e sz)(h0:0<=i)(f:i<len)
  (g:K (.pointer (zY ⟨b,o+i.toNat*sz,zV⟩))):AO P (Instr.indexAt t (.pointer (zY ⟨b,o,zV⟩)) (.int k i)) S H K:=by refine AO.mk _ (λw _=>?_) g;cases c:P.info? e with|none=>have:=a.size;simp[c]at this|some d=>have hs:d.size=sz:=by{have:=a.size;simpa [c]using this};have h:(⟨b,o,zV⟩:Addr).add (i.toNat*sz)=⟨b,o+i.toNat*sz,zV⟩:=Addr.add_mid _ _ _;simp[Instr.indexAt,asIntOf,run_underlying a.under,Instr.sureAddr,h0,f,sizeOf,typeInfo,c,hs,h]
section
variable{t off:Nat}{cs:Array v_}
def XY(b:Cf P t)(c:cs[off]?=zY v)(w:y_):(part t cs off).run P w= .ok v w:=by have⟨d,e,f⟩:=b.under;have a:(isAgg t).run P w= .ok zU w:=by{unfold isAgg;rw[Sem.run_bind,run_underlying e w];cases d<;>simp_all};simp[part,a,c]
def XZ(b:GG P t n)(w:y_):(part t cs off).run P w= .ok (.agg (cs.extract off (off+n))) w:=by have⟨d,e,f⟩:=b.under;have a:(isAgg t).run P w= .ok zW w:=by{unfold isAgg;rw[Sem.run_bind,run_underlying e w];cases d<;>simp_all};cases c:P.info? t with|none=>have:=b.size;simp[c]at this|some i=>have hs:i.size=n:=by{have:=b.size;simpa [c]using this};simp[part,a,sizeOf,typeInfo,c,hs]
end
def lC{t len e:Nat}{i:Int}{cs:Array v_}(a:My P t len e sz)(d:Cf P e)(h0:0<=i)(f:i<len)
  (g:cs[i.toNat*sz]?=zY v) (h:K v):AO P (Instr.index t (.agg cs) (.int k i)) S H K:=by refine AO.mk _ (λw _=>?_) h;cases b:P.info? e with|none=>have:=a.size;simp[b]at this|some c=>have hs:c.size=sz:=by{have:=a.size;simpa [b]using this};simp[Instr.index,asIntOf,run_underlying a.under,h0,f,sizeOf,typeInfo,b,hs,XY d g]
def Ct{t len e:Nat}(b:My P t len e sz)(z:v_)(c:(P.info? t).bind (·.zero)=zY z)(l:List v_)
  (h:Instr.fill (λi=>zY (i*sz,sz)) z.cells vs.toList=zY l.toArray) (k:K (.agg l.toArray)):AO P (Instr.build t vs) S H K:=by refine AO.mk _ (λw _=>?_) k;cases d:P.info? e with|none=>have:=b.size;simp[d]at this|some f=>{have hs:f.size=sz:=by{have:=b.size;simpa [d]using this};cases a:P.info? t with|none=>rw[a]at c;cases c|some j=>have g:j.zero=zY z:=by{simpa [a]using c};simp[Instr.build,zeroValue,typeInfo,a,g,run_underlying b.under,sizeOf,d,hs,h]}
def Az{t:Nat}{fs:Array Field}(m:P.underlying t=zY (.struct fs))(b:fs.toList.all (λf=>(P.info? f.type).isSome)=zW)
  (z:v_) (c:(P.info? t).bind (·.zero)=zY z) (l:List v_)
  (n:Instr.fill (λi=>(fs.toList.map λf=>(f.offset,P.cellsOf f.type))[i]?) z.cells vs.toList=zY l.toArray) (k:K (.agg l.toArray)):AO P (Instr.build t vs) S H K:=by refine AO.mk _ (λw _=>?_) k;cases a:P.info? t with|none=>rw[a]at c;cases c|some o=>{have d:o.zero=zY z:=by{simpa [a]using c};have p:∀(l:List Field),l.all (λf=>(P.info? f.type).isSome)=zW->(l.mapM λf=>(do pure (f.offset,<-sizeOf f.type):Sem (Nat×Nat))).run P w= .ok (l.map λf=>(f.offset,P.cellsOf f.type)) w:=by{intro l;induction l with|nil=>intro _;simp|cons f l q=>intro h;simp only[List.all_cons,O']at h;have⟨r,s⟩:=qD.1 h.1;have e:(sizeOf f.type).run P w= .ok (P.cellsOf f.type) w:=by{simp[sizeOf,typeInfo,s,Program.cellsOf]};simp only[List.mapM_cons,Sem.run_bind,e,Result.andThen_ok,Sem.run_pure,q h.2,wO]};have g:(fs.mapM λf=>(do pure (f.offset,<-sizeOf f.type):Sem (Nat×Nat))).run P w= .ok (fs.toList.map λf=>(f.offset,P.cellsOf f.type)).toArray w:=by{rw[Array.mapM_eq_mapM_toList];rw[show(List.toArray <$> fs.toList.mapM λf=>(do pure (f.offset,<-sizeOf f.type):Sem (Nat×Nat)))=(do let l <-fs.toList.mapM λf=>(do pure (f.offset,<-sizeOf f.type):Sem (Nat×Nat));pure l.toArray)from rfl];rw[Sem.run_bind,p _ b];simp};have j:(zeroValue t).run P w= .ok z w:=by{simp[zeroValue,typeInfo,a,d]};simp only[Instr.build,Sem.run_bind,j,Result.andThen_ok,run_underlying m];rw[g];simp only[Result.andThen_ok,List.getElem?_toArray,n,Sem.run_pure]}
def EQ{j:IntKind}{l c:Int}{K:v_->Aa->Prop}(m:SlT P t e 1 by_ z)(p:z.oneCell'=zW)(h0:0<=l)(d:l<=c)(n:(by_:Int)*c<=281474976710656)
  (f:c<=9223372036854775807)
  (h:New H (λb H'=>K (.slice (T_ b) l.toNat c.toNat) H') e (Ai4 c.toNat z)):BV P (Instr.makeSlice t (.int j l) (.int k c)) H K:=by
 refine nD m h0 d n f ?_;have g:z.cells= #[z]:=by cases z<;>simp_all [Value.cells,Value.oneCell']
 have o:((AjH (c.toNat*1)).map (z.cells[· % z.cells.size]!))=Ai4 c.toNat z:=by{rw[g,zG];apply yW;intro i;simp only[I',vK];by_cases a:i<c.toNat;{rw[wS a,I_ a];simp[Nat.mod_one]};{rw[zE (by simpa using a),G_ a]<;>rfl}};rw[o];exact h
def Iq{x:Int}(h:zI k x):k.wrap x=x:=by have⟨a,b⟩:=h;unfold IntKind.wrap;cases k<;>simp only[IntKind.min,IntKind.max,IntKind.signed,IntKind.bits,if_true,uH,if_false,AlB,Am6,AkW]at a b ⊢ <;>simp only[wX,wZ,yD,uH,if_false,ge_iff_le]<;>(try split)<;>omega
def yE{x:Int}(h0: -9223372036854775808<=x)(a:x<=9223372036854775807):IntKind.wrap .i64 x=x:=Iq ⟨h0,a⟩
def U_{x:Int}(h:-9223372036854775808<=x/\x<=9223372036854775807):IntKind.wrap .i64 x=x:=yE h.1 h.2
def Q_(x:Int)(h:-9223372036854775808<=x+1/\x+1<=9223372036854775807):IntKind.wrap .i64 (x+1)=x+1:=yE h.1 h.2
def w8{x:Int}(h0:0<=x)(a:x<=255):IntKind.wrap .u8 x=x:=Iq ⟨h0,a⟩
def Gy{x:Nat}(h:zI k (x:Int)):x<2^k.bits:=by obtain⟨_,a⟩:=h;cases k<;>simp only[IntKind.max,IntKind.signed,IntKind.bits,if_true,uH,if_false,AlB,Am6,AkW]at a ⊢ <;>omega
def Vf{x y:Nat}(h:zI k (x:Int))(a:y<=x):zI k (y:Int):=by obtain⟨_,b⟩:=h;refine⟨?_,zO⟩;cases k<;>simp only[IntKind.min,IntKind.signed,IntKind.bits,if_true,uH,if_false,AlB,AkW]<;>omega
def JY{x:Nat}(h:x<18446744073709551616):zI .u64 (x:Int):=⟨by simp[IntKind.min,IntKind.signed],by simp[IntKind.max,IntKind.signed,IntKind.bits];omega⟩
def BK{x:Nat}(h:x<9223372036854775808):zI .i64 (x:Int):=by refine⟨?_,by simp[IntKind.max,IntKind.signed,IntKind.bits];omega⟩;have:IntKind.i64.min= -9223372036854775808:=zQ;omega
def Vg{x:Nat}(h:x<256):zI .u8 (x:Int):=⟨by simp[IntKind.min,IntKind.signed],by simp[IntKind.max,IntKind.signed,IntKind.bits];omega⟩
def Mw{a:Nat}(c:zI k (a:Int))(d:zI k (b:Int))(e:K (.int k ((a &&& b:Nat):Int))):
  AO P (do eqGuard .and t x y (.int k a) (.int k b);binOp .and t (.int k a) (.int k b)) S H K:=by refine AO.mk _ (λw _=>?_) e;have f:(AlP k.bits (a:Int) &&& AlP k.bits (b:Int)).toNat=a &&& b:=by{simp only[oB,BitVec.toNat_and,qC,vV (Gy c),vV (Gy d)]};simp[CO,binOp,Op.intBits,vV (Gy c),vV (Gy d),Iq (Vf c (Nat.and_le_left))]
def Ah4{a:Nat}(c:zI k (a:Int))(d:zI k (b:Int)):zI k ((a ||| b:Nat):Int):=by have⟨g,e⟩:=c;have⟨h,f⟩:=d;refine⟨?_,?_⟩;{cases k<;>simp only[IntKind.min,IntKind.signed,IntKind.bits,if_true,uH,if_false,AlB,AkW]<;>omega};{cases k<;>simp only[IntKind.max,IntKind.signed,IntKind.bits,if_true,uH,if_false,AlB,AkW]at e f ⊢;{have:=tX (n:=7) (x:=a) (y:=b) zO zO;omega};{have:=tX (n:=15) (x:=a) (y:=b) zO zO;omega};{have:=tX (n:=31) (x:=a) (y:=b) zO zO;omega};{have:=tX (n:=63) (x:=a) (y:=b) zO zO;omega};{have:=tX (n:=8) (x:=a) (y:=b) zO zO;omega};{have:=tX (n:=16) (x:=a) (y:=b) zO zO;omega};{have:=tX (n:=32) (x:=a) (y:=b) zO zO;omega};{have:=tX (n:=64) (x:=a) (y:=b) zO zO;omega}}
def rC{a:Nat}(c:zI k (a:Int))(d:zI k (b:Int))(e:K (.int k ((a ||| b:Nat):Int))):
  AO P (do eqGuard .or t x y (.int k a) (.int k b);binOp .or t (.int k a) (.int k b)) S H K:=by refine AO.mk _ (λw _=>?_) e;have f:(AlP k.bits (a:Int) ||| AlP k.bits (b:Int)).toNat=a ||| b:=by{simp only[oB,BitVec.toNat_or,qC,vV (Gy c),vV (Gy d)]};simp[CO,binOp,Op.intBits,vV (Gy c),vV (Gy d),Iq (Ah4 c d)]
def PQ{c:IntKind}{a:Nat}(d:b<=k.bits)(e:K (.int k ((a / 2^b:Nat):Int))):
  AO P (do eqGuard .shr t x y (.int k a) (.int c b);binOp .shr t (.int k a) (.int c b)) S H K:=by refine AO.mk _ (λw _=>?_) e;have f:((a:Int).fdiv (2^b))=((a / 2^b:Nat):Int):=by{rw[Int.fdiv_eq_ediv_of_nonneg _ (by exact_mod_cast q_ _)];push_cast;rfl};have e2:min b k.bits=b:=tY d;have g:¬((b:Int)<0):=zO;simp[CO,binOp,Op.shift,e2,g,f]
def nQ{a:Nat}(e:b<=k.bits)(c:zI k ((a*2^b:Nat):Int))(f:K (.int k ((a*2^b:Nat):Int))):
  AO P (do eqGuard .shl t x y (.int k a) (.int d b);binOp .shl t (.int k a) (.int d b)) S H K:=by
 refine AO.mk _ (λw _=>?_) f;have e2:min b k.bits=b:=tY e;have g:¬((b:Int)<0):=zO;have h:(a:Int)*2^b=((a*2^b:Nat):Int):=by push_cast;rfl
 simp only[CO,binOp,Op.shift,Sem.run_bind,Result.andThen_ok,g,if_false,zB,e2,h,Iq c,Sem.run_pure]
section
variable{t D:Nat}{a:Array v_}
def P3(e:P.keyTypeAt m t=zW)(n:m<=10000)(f:P.eqGuardType P.depth t=zU)
  (fa:(Value.agg a).formed P t=zW) (fb:(Value.agg bs).formed P t=zW) (g:P.keyLits D t a.toList=zY la) (h:P.keyLits o t bs.toList=zY lb)  (i:r=zW↔la=lb)
  {op:BinOp} (b:op= .eql\/op= .neq) (x y:z_) (w:y_):
  (do eqGuard op t x y (.agg a) (.agg bs);binOp op t (.agg a) (.agg bs):Sem v_).run P w= .ok (.bool (if op matches .eql then r else !r)) w:=by
 have⟨j,d,k⟩:=run_equalIn_deep (10000-m) m t e w D o (.agg a) (.agg bs) la lb fa fb g h;rw[(zO:10000-m+m=10000)]at d;have c:j=r:=by rw[Bool.eq_iff_iff,k,i]
 subst c;have l:program.run P w= .ok P w:=rfl;rcases b with rfl | rfl<;>simp[eqGuard,l,f,binOp,Op.equal,Op.maxDepth,d]
def veq(b:P.keyTypeAt m t=zW)(c:m<=10000)(d:P.eqGuardType P.depth t=zU)
  (fa:(Value.agg a).formed P t=zW) (fb:(Value.agg bs).formed P t=zW) (e:P.keyLits D t a.toList=zY la) (f:P.keyLits n t bs.toList=zY lb)  (g:r=zW↔la=lb) (k:K (.bool r)):
  AO P (do eqGuard .eql t x y (.agg a) (.agg bs);binOp .eql t (.agg a) (.agg bs)) S H K:=
 AO.mk _ (λw _=>P3 b c d fa fb e f g (.inl rfl) x y w) k
def pH(b:P.keyTypeAt m t=zW)(c:m<=10000)(d:P.eqGuardType P.depth t=zU)
  (fa:(Value.agg a).formed P t=zW) (fb:(Value.agg bs).formed P t=zW) (e:P.keyLits D t a.toList=zY la) (f:P.keyLits n t bs.toList=zY lb)  (g:r=zW↔la=lb) (k:K (.bool (!r))):
  AO P (do eqGuard .neq t x y (.agg a) (.agg bs);binOp .neq t (.agg a) (.agg bs)) S H K:=
 AO.mk _ (λw _=>P3 b c d fa fb e f g (.inr rfl) x y w) k
end
def BZ(P:w_)(f:FuncId)(args:Array v_)(H:Aa)(v:v_):Prop:=
 Aj P f args H λv' H'=>v'=v/\C_ (λk=>k<H.size) H H'
def H_(H:Aa)(k:Nat):Prop:=k<H.size
def Af(h:C_ (H_ H) H H'){k:Nat}(a:H_ H k):k<H'.size:=by have b:=h k a;unfold H_ at a;rw[tU a]at b;exact(uS.1 b).1
def Bl(h:C_ (H_ H) H H'):H.size<=H'.size:=Y2 h (N_ _)
def nA{a:Array v_}
  (h:∀H',C_ (H_ H) H H'->BZ P f a H' v) (k:K v):Le P f a (H_ H) H K:=
 Le.mk v (λH' b=>(h H' b).mono λg H'' ⟨e,c⟩=>⟨e,c.mono λk d=>Af b d⟩) k
def Al{a:Array v_}{K:v_->Aa->Prop}
  (h:BZ P f a H v) (k:∀H',C_ (H_ H) H H'->K v H'):Ae P f a H K:=
 Ae.mk h λc H' ⟨e,b⟩=>by subst e;exact k H' b
def E_:Cf prog 3:=⟨⟨_,rfl,rfl⟩,rfl⟩
def M':Cf prog 4:=⟨⟨_,rfl,rfl⟩,rfl⟩
def uX:Cf prog 5:=⟨⟨_,rfl,rfl⟩,rfl⟩
def ag8:GG prog 8 4:=⟨⟨_,rfl,rfl⟩,rfl⟩
def tR:Cf prog 9:=⟨⟨_,rfl,rfl⟩,rfl⟩
def Xv:Cf prog 23:=⟨⟨_,rfl,rfl⟩,rfl⟩
def IZ:Cf prog 24:=⟨⟨_,rfl,rfl⟩,rfl⟩
def Ej:Cf prog 28:=⟨⟨_,rfl,rfl⟩,rfl⟩
def nI:Cf prog 34:=⟨⟨_,rfl,rfl⟩,rfl⟩
def lZ:SlT prog 34 100 4 32 (Tryz.t100.zero.getD undef):=⟨rfl,⟨_,rfl,rfl,rfl,rfl⟩,rfl⟩
def DC:Cf prog 35:=⟨⟨_,rfl,rfl⟩,rfl⟩
def Dt:SlT prog 35 41 1 24 (.slice zV 0 0):=⟨rfl,⟨_,rfl,rfl,rfl,rfl⟩,rfl⟩
def Dn:Cf prog 36:=⟨⟨_,rfl,rfl⟩,rfl⟩
def C7:SlT prog 36 4 1 1 (.bool zU):=⟨rfl,⟨_,rfl,rfl,rfl,rfl⟩,rfl⟩
def UZ:A7 prog 38 0 0 34 1:=⟨⟨_,_,rfl,rfl,rfl,rfl⟩,rfl,AhY⟩
def nH:My prog 40 256 3 1:=⟨rfl,rfl⟩
def C9:Cf prog 41:=⟨⟨_,rfl,rfl⟩,rfl⟩
def AB:SlT prog 41 3 1 8 (.int .i64 0):=⟨rfl,⟨_,rfl,rfl,rfl,rfl⟩,rfl⟩
def Ec:GG prog 43 259:=⟨⟨_,rfl,rfl⟩,rfl⟩
def Va:A7 prog 43 0 0 40 256:=⟨⟨_,_,rfl,rfl,rfl,rfl⟩,rfl,AhY⟩
def HD:A7 prog 43 1 256 41 1:=⟨⟨_,_,rfl,rfl,rfl,rfl⟩,rfl,AhY⟩
def El:A7 prog 43 2 257 35 1:=⟨⟨_,_,rfl,rfl,rfl,rfl⟩,rfl,AhY⟩
def Cl:A7 prog 43 3 258 36 1:=⟨⟨_,_,rfl,rfl,rfl,rfl⟩,rfl,AhY⟩
def Ee:Cf prog 54:=⟨⟨_,rfl,rfl⟩,rfl⟩
def EO:SlT prog 54 159 261 296 (Tryz.t159.zero.getD undef):=⟨rfl,⟨_,rfl,rfl,rfl,rfl⟩,rfl⟩
def Ed:GG prog 56 2:=⟨⟨_,rfl,rfl⟩,rfl⟩
def EI:A7 prog 56 0 0 54 1:=⟨⟨_,_,rfl,rfl,rfl,rfl⟩,rfl,AhY⟩
def Vb:A7 prog 56 1 1 3 1:=⟨⟨_,_,rfl,rfl,rfl,rfl⟩,rfl,AhY⟩
def Zw:A7 prog 64 0 0 28 1:=⟨⟨_,_,rfl,rfl,rfl,rfl⟩,rfl,AhY⟩
def Zx:A7 prog 64 1 1 28 1:=⟨⟨_,_,rfl,rfl,rfl,rfl⟩,rfl,AhY⟩
def Zy:A7 prog 65 0 0 28 1:=⟨⟨_,_,rfl,rfl,rfl,rfl⟩,rfl,AhY⟩
def Zz:A7 prog 65 1 1 28 1:=⟨⟨_,_,rfl,rfl,rfl,rfl⟩,rfl,AhY⟩
def O8:GG prog 68 3:=⟨⟨_,rfl,rfl⟩,rfl⟩
def Iy:Cf prog 74:=⟨⟨_,rfl,rfl⟩,rfl⟩
def I6:SlT prog 74 174 7 56 (Tryz.t174.zero.getD undef):=⟨rfl,⟨_,rfl,rfl,rfl,rfl⟩,rfl⟩
def Gl:GG prog 76 4:=⟨⟨_,rfl,rfl⟩,rfl⟩
def Em:A7 prog 76 0 0 3 1:=⟨⟨_,_,rfl,rfl,rfl,rfl⟩,rfl,AhY⟩
def Lv:A7 prog 76 1 1 3 1:=⟨⟨_,_,rfl,rfl,rfl,rfl⟩,rfl,AhY⟩
def M6:A7 prog 76 2 2 3 1:=⟨⟨_,_,rfl,rfl,rfl,rfl⟩,rfl,AhY⟩
def En:A7 prog 76 3 3 74 1:=⟨⟨_,_,rfl,rfl,rfl,rfl⟩,rfl,AhY⟩
def qL:Cf prog 78:=⟨⟨_,rfl,rfl⟩,rfl⟩
def GJ:Cf prog 79:=⟨⟨_,rfl,rfl⟩,rfl⟩
def GD:SlT prog 79 185 259 280 (Tryz.t185.zero.getD undef):=⟨rfl,⟨_,rfl,rfl,rfl,rfl⟩,rfl⟩
def PU:GG prog 81 4:=⟨⟨_,rfl,rfl⟩,rfl⟩
def CM:A7 prog 81 0 0 3 1:=⟨⟨_,_,rfl,rfl,rfl,rfl⟩,rfl,AhY⟩
def M7:A7 prog 81 1 1 3 1:=⟨⟨_,_,rfl,rfl,rfl,rfl⟩,rfl,AhY⟩
def RF:A7 prog 81 2 2 3 1:=⟨⟨_,_,rfl,rfl,rfl,rfl⟩,rfl,AhY⟩
def Dw:A7 prog 81 3 3 79 1:=⟨⟨_,_,rfl,rfl,rfl,rfl⟩,rfl,AhY⟩
def FP:Cf prog 99:=⟨⟨_,rfl,rfl⟩,rfl⟩
def AiE:My prog 100 4 99 1:=⟨rfl,rfl⟩
def Ai7:GG prog 100 4:=⟨⟨_,rfl,rfl⟩,rfl⟩
def CB:My prog 101 4 99 1:=⟨rfl,rfl⟩
def Bh:GG prog 101 4:=⟨⟨_,rfl,rfl⟩,rfl⟩
def kU:GG prog 104 4:=⟨⟨_,rfl,rfl⟩,rfl⟩
def Ws:A7 prog 104 0 0 101 4:=⟨⟨_,_,rfl,rfl,rfl,rfl⟩,rfl,AhY⟩
def R3:A7 prog 105 0 0 28 1:=⟨⟨_,_,rfl,rfl,rfl,rfl⟩,rfl,AhY⟩
def NQ:A7 prog 105 1 1 28 1:=⟨⟨_,_,rfl,rfl,rfl,rfl⟩,rfl,AhY⟩
def Te:Cf prog 106:=⟨⟨_,rfl,rfl⟩,rfl⟩
def Dz:SlT prog 106 101 4 32 (Tryz.t101.zero.getD undef):=⟨rfl,⟨_,rfl,rfl,rfl,rfl⟩,rfl⟩
def kX:My prog 107 256 5 1:=⟨rfl,rfl⟩
def LR:A7 prog 109 0 0 106 1:=⟨⟨_,_,rfl,rfl,rfl,rfl⟩,rfl,AhY⟩
def Wt:A7 prog 109 1 1 107 256:=⟨⟨_,_,rfl,rfl,rfl,rfl⟩,rfl,AhY⟩
def HZ:A7 prog 109 2 257 35 1:=⟨⟨_,_,rfl,rfl,rfl,rfl⟩,rfl,AhY⟩
def R4:A7 prog 109 3 258 36 1:=⟨⟨_,_,rfl,rfl,rfl,rfl⟩,rfl,AhY⟩
def NR:A7 prog 109 4 259 36 1:=⟨⟨_,_,rfl,rfl,rfl,rfl⟩,rfl,AhY⟩
def WS:SlT prog 117 157 256 256 (Tryz.t157.zero.getD undef):=⟨rfl,⟨_,rfl,rfl,rfl,rfl⟩,rfl⟩
def AiL:Cf prog 120:=⟨⟨_,rfl,rfl⟩,rfl⟩
def KY:Cf prog 124:=⟨⟨_,rfl,rfl⟩,rfl⟩
def QK:SlT prog 124 129 2 16 (Tryz.t129.zero.getD undef):=⟨rfl,⟨_,rfl,rfl,rfl,rfl⟩,rfl⟩
def SL:My prog 125 1024 41 1:=⟨rfl,rfl⟩
def Gg:A7 prog 127 0 0 124 1:=⟨⟨_,_,rfl,rfl,rfl,rfl⟩,rfl,AhY⟩
def R9:A7 prog 127 1 1 125 1024:=⟨⟨_,_,rfl,rfl,rfl,rfl⟩,rfl,AhY⟩
def CW:My prog 129 2 3 1:=⟨rfl,rfl⟩
def NS:A7 prog 139 0 0 9 1:=⟨⟨_,_,rfl,rfl,rfl,rfl⟩,rfl,AhY⟩
def AV:A7 prog 139 1 1 3 1:=⟨⟨_,_,rfl,rfl,rfl,rfl⟩,rfl,AhY⟩
def Ia:A7 prog 139 2 2 41 1:=⟨⟨_,_,rfl,rfl,rfl,rfl⟩,rfl,AhY⟩
def Wd:Cf prog 140:=⟨⟨_,rfl,rfl⟩,rfl⟩
def Bg:GG prog 142 2:=⟨⟨_,rfl,rfl⟩,rfl⟩
def NU:A7 prog 142 0 0 3 1:=⟨⟨_,_,rfl,rfl,rfl,rfl⟩,rfl,AhY⟩
def NV:A7 prog 142 1 1 140 1:=⟨⟨_,_,rfl,rfl,rfl,rfl⟩,rfl,AhY⟩
def CY:Cf prog 146:=⟨⟨_,rfl,rfl⟩,rfl⟩
def GV:SlT prog 146 150 6 48 (Tryz.t150.zero.getD undef):=⟨rfl,⟨_,rfl,rfl,rfl,rfl⟩,rfl⟩
def CG:A7 prog 148 0 0 54 1:=⟨⟨_,_,rfl,rfl,rfl,rfl⟩,rfl,AhY⟩
def BI:A7 prog 148 1 1 146 1:=⟨⟨_,_,rfl,rfl,rfl,rfl⟩,rfl,AhY⟩
def Ai8:GG prog 150 6:=⟨⟨_,rfl,rfl⟩,rfl⟩
def dH:A7 prog 150 0 0 3 1:=⟨⟨_,_,rfl,rfl,rfl,rfl⟩,rfl,AhY⟩
def K7:A7 prog 150 1 1 3 1:=⟨⟨_,_,rfl,rfl,rfl,rfl⟩,rfl,AhY⟩
def D3:A7 prog 150 2 2 3 1:=⟨⟨_,_,rfl,rfl,rfl,rfl⟩,rfl,AhY⟩
def NX:A7 prog 150 3 3 5 1:=⟨⟨_,_,rfl,rfl,rfl,rfl⟩,rfl,AhY⟩
def De:A7 prog 150 4 4 3 1:=⟨⟨_,_,rfl,rfl,rfl,rfl⟩,rfl,AhY⟩
def D4:A7 prog 150 5 5 3 1:=⟨⟨_,_,rfl,rfl,rfl,rfl⟩,rfl,AhY⟩
def CC:My prog 157 256 4 1:=⟨rfl,rfl⟩
def Nf:GG prog 157 256:=⟨⟨_,rfl,rfl⟩,rfl⟩
def Hu:GG prog 159 261:=⟨⟨_,rfl,rfl⟩,rfl⟩
def BM:A7 prog 159 0 0 3 1:=⟨⟨_,_,rfl,rfl,rfl,rfl⟩,rfl,AhY⟩
def RA:A7 prog 159 1 1 157 256:=⟨⟨_,_,rfl,rfl,rfl,rfl⟩,rfl,AhY⟩
def Cg:A7 prog 159 2 257 3 1:=⟨⟨_,_,rfl,rfl,rfl,rfl⟩,rfl,AhY⟩
def DY:A7 prog 159 3 258 3 1:=⟨⟨_,_,rfl,rfl,rfl,rfl⟩,rfl,AhY⟩
def Wu:A7 prog 159 4 259 3 1:=⟨⟨_,_,rfl,rfl,rfl,rfl⟩,rfl,AhY⟩
def Ib:A7 prog 159 5 260 3 1:=⟨⟨_,_,rfl,rfl,rfl,rfl⟩,rfl,AhY⟩
def Qo:Cf prog 168:=⟨⟨_,rfl,rfl⟩,rfl⟩
def Tf:Cf prog 170:=⟨⟨_,rfl,rfl⟩,rfl⟩
def Ul:SlT prog 170 74 1 24 (.slice zV 0 0):=⟨rfl,⟨_,rfl,rfl,rfl,rfl⟩,rfl⟩
def NY:A7 prog 172 0 0 35 1:=⟨⟨_,_,rfl,rfl,rfl,rfl⟩,rfl,AhY⟩
def LS:A7 prog 172 1 1 170 1:=⟨⟨_,_,rfl,rfl,rfl,rfl⟩,rfl,AhY⟩
def NZ:A7 prog 172 2 2 3 1:=⟨⟨_,_,rfl,rfl,rfl,rfl⟩,rfl,AhY⟩
def O6:GG prog 174 7:=⟨⟨_,rfl,rfl⟩,rfl⟩
def Ic:A7 prog 174 0 0 3 1:=⟨⟨_,_,rfl,rfl,rfl,rfl⟩,rfl,AhY⟩
def K8:A7 prog 174 1 1 3 1:=⟨⟨_,_,rfl,rfl,rfl,rfl⟩,rfl,AhY⟩
def Wv:A7 prog 174 2 2 4 1:=⟨⟨_,_,rfl,rfl,rfl,rfl⟩,rfl,AhY⟩
def RB:A7 prog 174 3 3 101 4:=⟨⟨_,_,rfl,rfl,rfl,rfl⟩,rfl,AhY⟩
def Qg:GG prog 185 259:=⟨⟨_,rfl,rfl⟩,rfl⟩
def Ie:A7 prog 185 0 0 3 1:=⟨⟨_,_,rfl,rfl,rfl,rfl⟩,rfl,AhY⟩
def Gh:A7 prog 185 1 1 3 1:=⟨⟨_,_,rfl,rfl,rfl,rfl⟩,rfl,AhY⟩
def LT:A7 prog 185 2 2 4 1:=⟨⟨_,_,rfl,rfl,rfl,rfl⟩,rfl,AhY⟩
def Oa:A7 prog 185 3 3 157 256:=⟨⟨_,_,rfl,rfl,rfl,rfl⟩,rfl,AhY⟩
def Fx:A7 prog 190 0 0 35 1:=⟨⟨_,_,rfl,rfl,rfl,rfl⟩,rfl,AhY⟩
def LU:A7 prog 190 1 1 125 1024:=⟨⟨_,_,rfl,rfl,rfl,rfl⟩,rfl,AhY⟩
def Tg:Cf prog 191:=⟨⟨_,rfl,rfl⟩,rfl⟩
def Um:SlT prog 191 79 1 24 (.slice zV 0 0):=⟨rfl,⟨_,rfl,rfl,rfl,rfl⟩,rfl⟩
def Je:A7 prog 193 0 0 3 1:=⟨⟨_,_,rfl,rfl,rfl,rfl⟩,rfl,AhY⟩
def LV:A7 prog 193 1 1 191 1:=⟨⟨_,_,rfl,rfl,rfl,rfl⟩,rfl,AhY⟩
def Jf:A7 prog 193 2 2 36 1:=⟨⟨_,_,rfl,rfl,rfl,rfl⟩,rfl,AhY⟩
def QL:SlT prog 201 5 1 1 (.int .u8 0):=⟨rfl,⟨_,rfl,rfl,rfl,rfl⟩,rfl⟩
def Ob:A7 prog 216 0 0 3 1:=⟨⟨_,_,rfl,rfl,rfl,rfl⟩,rfl,AhY⟩
def K9:A7 prog 216 1 1 3 1:=⟨⟨_,_,rfl,rfl,rfl,rfl⟩,rfl,AhY⟩
def O7:GG prog 224 2:=⟨⟨_,rfl,rfl⟩,rfl⟩
def Ww:A7 prog 224 0 0 3 1:=⟨⟨_,_,rfl,rfl,rfl,rfl⟩,rfl,AhY⟩
def Wx:A7 prog 224 1 1 3 1:=⟨⟨_,_,rfl,rfl,rfl,rfl⟩,rfl,AhY⟩
def QM:SlT prog 232 235 5 56 (Tryz.t235.zero.getD undef):=⟨rfl,⟨_,rfl,rfl,rfl,rfl⟩,rfl⟩
def Wy:A7 prog 235 0 0 3 1:=⟨⟨_,_,rfl,rfl,rfl,rfl⟩,rfl,AhY⟩
def Wz:A7 prog 235 1 1 81 4:=⟨⟨_,_,rfl,rfl,rfl,rfl⟩,rfl,AhY⟩
def AiM:Cf prog 238:=⟨⟨_,rfl,rfl⟩,rfl⟩
def BO:A7 prog 246 0 0 76 4:=⟨⟨_,_,rfl,rfl,rfl,rfl⟩,rfl,AhY⟩
def W0:A7 prog 246 1 4 78 1:=⟨⟨_,_,rfl,rfl,rfl,rfl⟩,rfl,AhY⟩
def C1:A7 prog 246 2 5 24 1:=⟨⟨_,_,rfl,rfl,rfl,rfl⟩,rfl,AhY⟩
def jC:Cf prog 256:=⟨⟨_,rfl,rfl⟩,rfl⟩
def Nj:Cf prog 257:=⟨⟨_,rfl,rfl⟩,rfl⟩
def WT:SlT prog 257 9 1 16 (Tryz.t9.zero.getD undef):=⟨rfl,⟨_,rfl,rfl,rfl,rfl⟩,rfl⟩
def W1:A7 prog 259 0 0 256 1:=⟨⟨_,_,rfl,rfl,rfl,rfl⟩,rfl,AhY⟩
def Ig:A7 prog 259 1 1 257 1:=⟨⟨_,_,rfl,rfl,rfl,rfl⟩,rfl,AhY⟩
def dI:A7 prog 259 2 2 3 1:=⟨⟨_,_,rfl,rfl,rfl,rfl⟩,rfl,AhY⟩
def kY:My prog 263 2 101 4:=⟨rfl,rfl⟩
def jD:Cf prog 298:=⟨⟨_,rfl,rfl⟩,rfl⟩
def Nk:Cf prog 299:=⟨⟨_,rfl,rfl⟩,rfl⟩
def WU:SlT prog 299 224 2 16 (Tryz.t224.zero.getD undef):=⟨rfl,⟨_,rfl,rfl,rfl,rfl⟩,rfl⟩
def W2:A7 prog 301 0 0 298 1:=⟨⟨_,_,rfl,rfl,rfl,rfl⟩,rfl,AhY⟩
def Ih:A7 prog 301 1 1 299 1:=⟨⟨_,_,rfl,rfl,rfl,rfl⟩,rfl,AhY⟩
def dJ:A7 prog 301 2 2 3 1:=⟨⟨_,_,rfl,rfl,rfl,rfl⟩,rfl,AhY⟩
def RC:A7 prog 305 0 0 28 1:=⟨⟨_,_,rfl,rfl,rfl,rfl⟩,rfl,AhY⟩
def Oc:A7 prog 305 1 1 28 1:=⟨⟨_,_,rfl,rfl,rfl,rfl⟩,rfl,AhY⟩
def RD:A7 prog 310 0 0 28 1:=⟨⟨_,_,rfl,rfl,rfl,rfl⟩,rfl,AhY⟩
def Ai9:GG prog 335 2:=⟨⟨_,rfl,rfl⟩,rfl⟩
def dK:A7 prog 335 0 0 5 1:=⟨⟨_,_,rfl,rfl,rfl,rfl⟩,rfl,AhY⟩
def dL:A7 prog 335 1 1 5 1:=⟨⟨_,_,rfl,rfl,rfl,rfl⟩,rfl,AhY⟩
def AiF:My prog 336 3 335 2:=⟨rfl,rfl⟩
def AiA:GG prog 336 6:=⟨⟨_,rfl,rfl⟩,rfl⟩
def RE:A7 prog 357 0 0 9 1:=⟨⟨_,_,rfl,rfl,rfl,rfl⟩,rfl,AhY⟩
def AU:A7 prog 357 1 1 3 1:=⟨⟨_,_,rfl,rfl,rfl,rfl⟩,rfl,AhY⟩
def wd(s:BitVec 256)(i:Nat):Nat:=(s.toNat / 2^(64*i)) % 2^64
def BL(s:BitVec 256):v_:=.agg #[.int .u64 (wd s 0),.int .u64 (wd s 1),.int .u64 (wd s 2),.int .u64 (wd s 3)]
def Ah(s:BitVec 256):List v_:=[.int .u64 (wd s 0),.int .u64 (wd s 1),.int .u64 (wd s 2),.int .u64 (wd s 3)]
def Kz(s:BitVec 256)(i:Nat):wd s i<2^64:=oC _ zQ
def Fs(s:BitVec 256)(i:Nat):zI .u64 (wd s i:Int):=by have:=Kz s i;refine⟨?_,?_⟩<;>simp only[IntKind.min,IntKind.max,IntKind.signed,IntKind.bits]<;>simp<;>omega
def FE(s:BitVec 256)(i j:Nat)(a:j<64):(wd s i).testBit j=s.getLsbD (64*i+j):=by unfold wd;rw[iD,iE,BitVec.testBit_toNat];simp[a];congr 1;omega
def kQ{t:BitVec 256}(h:∀i,i<4->wd s i=wd t i):s=t:=by apply tH;intro k c;have a:=FE s (k / 64) (k % 64) (oC _ zQ);have b:=FE t (k / 64) (k % 64) (oC _ zQ);rw[(zO:64*(k / 64)+k % 64=k)]at a b;rw[<-a,<-b,h _ zO]
def AjR{t:BitVec 256}(h:BL s=BL t):s=t:=by unfold BL at h;simp only[Value.agg.injEq,Array.mk.injEq,List.cons.injEq,Value.int.injEq,true_and,and_true,iC]at h;apply kQ;intro i a;match i,a with|0,_=>exact h.1|1,_=>exact h.2.1|2,_=>exact h.2.2.1|3,_=>exact h.2.2.2
def Z8(s:BitVec 256)(b:Nat)(i:b<256)(H:Aa):BZ prog 92 #[BL s,.int .u8 b] H (.bool (s.getLsbD b)):=by
 refine Aj.of_vc func92 rfl (call92 _) ?_;(conv=>whnf);refine Cd (Ah s) rfl ?_;intro p H1 e f a c;refine PQ (b:=6) zQ (s_ CB zO zO (D_ FP (v:=.int .u64 (wd s (b / 64))) ?_ zA ?_));{rw[a.cell];have:b / 2^6<4:=zO;rw[(zO:b / 64=b / 2^6)];generalize b / 2^6=q at this;match q,this with|0,_=>rfl|1,_=>rfl|2,_=>rfl|3,_=>rfl};refine Mw (b:=63) ⟨by simp[IntKind.min,IntKind.signed],by simp[IntKind.max,IntKind.signed,IntKind.bits];omega⟩ ⟨zQ,zQ⟩ ?_;refine PQ (yV sO zQ) (Mw (b:=1) (Vf (Fs s _) (iH _ _)) ⟨zQ,zQ⟩ ?_);(conv=>whnf);refine⟨?_,by rw[<-e];exact c⟩;congr 1;have g:b &&& 63=b % 64:=by rw[show(63:Nat)=2^6-1 by decide,mF]
 have d:=FE s (b / 64) (b % 64) (oC _ zQ);rw[(zO:64*(b / 64)+b % 64=b)]at d;rw[g,<-d,Nat.testBit_eq_decide_div_mod_eq,Nat.and_one_is_mod];have:=Nat.mod_two_eq_zero_or_one (wd s (b / 64) / 2^(b % 64));rcases this with h | h<;>simp[h]
def Sy(a b:BitVec 256)(i:Nat):wd (a &&& b) i=wd a i &&& wd b i:=by apply nZ;intro j;rw[Nat.testBit_and];by_cases c:j<64;{rw[FE _ _ _ c,FE _ _ _ c,FE _ _ _ c,BitVec.getLsbD_and]};{rw[tW (vN (Kz _ _) (uI zQ zO)),tW (x:=wd a i) (vN (Kz _ _) (uI zQ zO))];rfl}
def Xh(a b:BitVec 256)(i:Nat):wd (a ||| b) i=wd a i ||| wd b i:=by apply nZ;intro j;rw[mD];by_cases c:j<64;{rw[FE _ _ _ c,FE _ _ _ c,FE _ _ _ c,rF]};{rw[tW (vN (Kz _ _) (uI zQ zO)),tW (x:=wd a i) (vN (Kz _ _) (uI zQ zO)),tW (x:=wd b i) (vN (Kz _ _) (uI zQ zO))];rfl}
def Vr(a b:BitVec 256)(H:Aa):BZ prog 144 #[BL a,BL b] H (BL (a &&& b)):=by refine Aj.of_vc func144 rfl (call144 _) (Cd (Ah a) rfl ?_);intro p H1 u m c g;refine Cd (Ah b) rfl ?_;intro q H2 w n d f;refine Ag (BL 0) (Ah 0) rfl rfl ?_;intro r H3 x o h e;replace c:=(c.agr f (zO:p<q)).agr e (zO:p<r);replace d:=d.agr e (zO:q<r);refine s_ CB zQ zQ (D_ FP ((c.cell _).trans rfl) zA (s_ CB zQ zQ (D_ FP ((d.cell _).trans rfl) zA (Mw (Fs a _) (Fs b _) (s_ CB zQ zQ (D_ FP ((c.cell _).trans rfl) zA (s_ CB zQ zQ (D_ FP ((d.cell _).trans rfl) zA (Mw (Fs a _) (Fs b _) (s_ CB zQ zQ (D_ FP ((c.cell _).trans rfl) zA (s_ CB zQ zQ (D_ FP ((d.cell _).trans rfl) zA (Mw (Fs a _) (Fs b _) (s_ CB zQ zQ (D_ FP ((c.cell _).trans rfl) zA (s_ CB zQ zQ (D_ FP ((d.cell _).trans rfl) zA (Mw (Fs a _) (Fs b _) (Ct CB (BL 0) rfl [Value.int .u64 ((wd a 0 &&& wd b 0:Nat):Int),Value.int .u64 ((wd a 1 &&& wd b 1:Nat):Int),Value.int .u64 ((wd a 2 &&& wd b 2:Nat):Int),Value.int .u64 ((wd a 3 &&& wd b 3:Nat):Int)] rfl (wM rfl h (zQ:0+4<=4) rfl ?_)))))))))))))))))))));intro H4 i l s;refine L_ (cs:=[Value.int .u64 ((wd a 0 &&& wd b 0:Nat):Int),Value.int .u64 ((wd a 1 &&& wd b 1:Nat):Int),Value.int .u64 ((wd a 2 &&& wd b 2:Nat):Int),Value.int .u64 ((wd a 3 &&& wd b 3:Nat):Int)]) Bh (i.cells (λj v t=>by simpa [Ak,Ah]using t)) zA (⟨?_,?_⟩);{unfold BL;rw[Sy,Sy,Sy,Sy]};{intro k y;rw[l k zO,e k zO,f k zO,g k zO]}
def Hj(a b:BitVec 256)(H:Aa):BZ prog 162 #[BL a,BL b] H (BL (a ||| b)):=by refine Aj.of_vc func162 rfl (call162 _) (Cd (Ah a) rfl ?_);intro p H1 u m c g;refine Cd (Ah b) rfl ?_;intro q H2 w n d f;refine Ag (BL 0) (Ah 0) rfl rfl ?_;intro r H3 x o h e;replace c:=(c.agr f (zO:p<q)).agr e (zO:p<r);replace d:=d.agr e (zO:q<r);refine s_ CB zQ zQ (D_ FP ((c.cell _).trans rfl) zA (s_ CB zQ zQ (D_ FP ((d.cell _).trans rfl) zA (rC (Fs a _) (Fs b _) (s_ CB zQ zQ (D_ FP ((c.cell _).trans rfl) zA (s_ CB zQ zQ (D_ FP ((d.cell _).trans rfl) zA (rC (Fs a _) (Fs b _) (s_ CB zQ zQ (D_ FP ((c.cell _).trans rfl) zA (s_ CB zQ zQ (D_ FP ((d.cell _).trans rfl) zA (rC (Fs a _) (Fs b _) (s_ CB zQ zQ (D_ FP ((c.cell _).trans rfl) zA (s_ CB zQ zQ (D_ FP ((d.cell _).trans rfl) zA (rC (Fs a _) (Fs b _) (Ct CB (BL 0) rfl [Value.int .u64 ((wd a 0 ||| wd b 0:Nat):Int),Value.int .u64 ((wd a 1 ||| wd b 1:Nat):Int),Value.int .u64 ((wd a 2 ||| wd b 2:Nat):Int),Value.int .u64 ((wd a 3 ||| wd b 3:Nat):Int)] rfl (wM rfl h (zQ:0+4<=4) rfl ?_)))))))))))))))))))));intro H4 i l s;refine L_ (cs:=[Value.int .u64 ((wd a 0 ||| wd b 0:Nat):Int),Value.int .u64 ((wd a 1 ||| wd b 1:Nat):Int),Value.int .u64 ((wd a 2 ||| wd b 2:Nat):Int),Value.int .u64 ((wd a 3 ||| wd b 3:Nat):Int)]) Bh (i.cells (λj v t=>by simpa [Ak,Ah]using t)) zA (⟨?_,?_⟩);{unfold BL;rw[Xh,Xh,Xh,Xh]};{intro k y;rw[l k zO,e k zO,f k zO,g k zO]}
def kV(b:Nat):b &&& 63=b % 64:=by rw[show(63:Nat)=2^6-1 by decide,mF]
def P8(s:BitVec 256)(b:Nat)(a:b<256):(Ah s)[b / 2^6]?=zY (.int .u64 (wd s (b / 64))):=by have:b / 2^6<4:=zO;rw[(zO:b / 64=b / 2^6)];generalize b / 2^6=q at this;match q,this with|0,_=>rfl|1,_=>rfl|2,_=>rfl|3,_=>rfl
def S1(s:BitVec 256)(b i:Nat)(e:b<256):wd (s ||| Am7 256 b) i=if i=b / 64 then wd s i ||| 2^(b % 64)else wd s i:=by apply nZ;intro j;by_cases c:j<64;{rw[FE _ _ _ c,rF,iB];by_cases d:i=b / 64;{rw[I_ d,mD,FE _ _ _ c,iG];congr 1;by_cases h:b % 64=j;{have:b=64*i+j:=zO;simp[h,<-this,e]};{have:¬b=64*i+j:=zO;simp[h,this]}};{rw[G_ d,FE _ _ _ c];have:¬b=64*i+j:=zO;simp[this]}};{have a:2^64<=2^j:=uI zQ zO;rw[tW (vN (Kz _ _) a)];split;{rw[mD,tW (vN (Kz _ _) a),iG];simp;omega};{rw[tW (vN (Kz _ _) a)]}}
def Ue(s:BitVec 256)(b:Nat)(a:b<256):(Ah s).set (b / 64) (.int .u64 ((wd s (b / 64) ||| 2^(b % 64):Nat):Int))=Ah (s ||| Am7 256 b):=by have h:b / 64<4:=zO;unfold Ah;rw[S1 s b 0 a,S1 s b 1 a,S1 s b 2 a,S1 s b 3 a];generalize b / 64=q at h;match q,h with|0,_=>rfl|1,_=>rfl|2,_=>rfl|3,_=>rfl
def AhG(lo g:Nat)(F:lo<256)(G:g<256)(H:Aa):Aj prog 124 #[.int .u8 lo,.int .u8 g] H λv H'=>
  (∃s,v=BL s/\∀b,b<256->s.getLsbD b=(zT (lo<=b)&&zT (b<=g)))/\C_ (H_ H) H H':=by refine Aj.of_vc func124 rfl (call124 _) (Ag (BL 0) (Ah 0) rfl rfl ?_);intro r H1 N I i y;refine Ag (BL 0) (Ah 0) rfl rfl ?_;intro p H2 O J z o;replace i:=i.agr o (zO:r<p);(conv=>whnf);rw[U_ (x:=(lo:Int)) zO];refine Ay.mk [6] (λb:Nat=>[A_ b]) (λb H3=>lo<=b/\(b<=g+1\/b=lo)/\C_ (λk=>k≠p) H2 H3/\H3.size=H2.size/\∃s:BitVec 256,R_ H3 p 101 (Ah s)/\∀c,c<256->s.getLsbD c=(zT (lo<=c)&&zT (c<b))) (λb _=>256-b) ?_ ?_;{(conv=>whnf);exact⟨lo,rfl,zO,zO,C_.refl _ _,rfl,0,z,λc q=>zZ⟩};{rintro b H3 D ⟨K,w,l,L,s,m,hs⟩;(conv=>whnf);rw[U_ (x:=(g:Int)) zO];refine AD.m2 (λh=>?_) (λh=>?_);{(conv=>whnf);refine Ap.tail 9 (sq [0,1,2,3,4,5,6,7,8] (.f 9 .e)) rfl zX (PQ (b:=6) zQ (s_ CB zO zO ?_));refine D_ FP (v:=.int .u64 (wd s (b / 64))) (by rw[m.cell,K_,zG];exact P8 s b zO) zA ?_;refine Mw (b:=63) (BK zO) (BK zQ) ?_;have E:2^(b % 64)<2^64:=Nat.pow_lt_pow_right zQ zO;rw[kV];have t:zI .u64 ((1*2^(b % 64):Nat):Int):=JY zO;refine nQ (a:=1) (by simp[IntKind.bits];omega) t ?_;refine rC (Fs s _) t (s_ CB zO zO ?_);refine J_ FP m (by simp[Ah];omega) rfl ?_;intro H4 d n A;(conv=>whnf);rw[Q_ b zO];refine⟨rfl,b+1,zZ,⟨zO,zO,l.trans n,zO,s ||| Am7 256 b,?_,λc q=>?_⟩,zO⟩;{rw[K_,zG,mE]at d;rw[<-Ue s b zO];exact d};{rw[rF,hs c q,iB];by_cases u:b=c;{subst u;simp[q,K]};{have:(zT (c<b+1))=zT (c<b):=by{simp;omega};simp[u,this]}}};{(conv=>whnf);refine L_ (cs:=Ah s) Bh (m.cells (λj v B=>by simpa using B)) zA (wM rfl (i.agr l (zO:r≠p)) (zQ:0+4<=4) rfl ?_);intro H4 d n A;refine L_ (cs:=Ah s) Bh (d.cells (λj v B=>by simpa [Ak,Ah]using B)) zA (⟨⟨s,rfl,λc q=>?_⟩,λk M=>?_⟩);{rw[hs c q];rcases w with w | w;{have:(zT (c<b))=zT (c<=g):=by{simp;omega};rw[this]};{subst w;by_cases C:b<=c;{simp[show¬c<b by omega,show¬c<=g by omega]};{simp[C]}}};{unfold H_ at M;rw[n k zO,l k zO,o k zO,y k zO]}}}
def CU:Ty (BitVec 256) where
 size:=4
 rep _ _ cs s:=cs=Ah s
 len h:=by rw[h];rfl
 frame h _:=h
 mono h _:=h
def Jr(s:BitVec 256):List Lit:=[.int .u64 (wd s 0),.int .u64 (wd s 1),.int .u64 (wd s 2),.int .u64 (wd s 3)]
def Uf(a b:BitVec 256):zT (a=b)=zW↔Jr a=Jr b:=by rw[yD];constructor;{rintro rfl;rfl};{intro h;unfold Jr at h;simp only[List.cons.injEq,Lit.int.injEq,true_and,and_true,iC]at h;apply kQ;intro i c;match i,c with|0,_=>exact h.1|1,_=>exact h.2.1|2,_=>exact h.2.2.1|3,_=>exact h.2.2.2}
def AhC(s:BitVec 256)(i:Nat):(Lit.int .u64 (wd s i)).wf=zW:=by have:=Fs s i;unfold Lit.wf;simp only[O',yD];exact this
def Ug(s:BitVec 256):prog.keyLits 2 101 (Ah s)=zY (Jr s):=by have a:prog.cellsOf 101=4:=rfl;have b:prog.cellsOf 99=1:=rfl;simp[Program.keyLits,underlying101,underlying99,a,b,Ah,Jr,AhC,AjH,AjH.loop]
def Oq(a b:BitVec 256)(k:K (.bool (!zT (a=b)))):
  AO prog (do eqGuard .neq 101 x y (BL a) (BL b);binOp .neq 101 (BL a) (BL b)) S H K:=
 pH (m:=2) (la:=Jr a) (lb:=Jr b) rfl zQ (eqGuardType101) rfl rfl (Ug a) (Ug b) (Uf a b) k
def AL(lo hi:Nat):BitVec 256:=BitVec.ofNat 256 ((2^(hi+1-lo)-1) <<< lo)
def Dl(lo a b:Nat)(c:b<256):(AL lo a).getLsbD b=(zT (lo<=b)&&zT (b<=a)):=by unfold AL;rw[BitVec.getLsbD_ofNat,Nat.testBit_shiftLeft,Nat.testBit_two_pow_sub_one];by_cases h:lo<=b;{simp only[c,decide_true,wX,h,ge_iff_le];congr 1;rw[eq_iff_iff];omega};{simp[h]}
def HN(lo a:Nat)(c:lo<256)(d:a<256)(H:Aa):BZ prog 124 #[.int .u8 lo,.int .u8 a] H (BL (AL lo a)):=by refine(AhG lo a c d H).mono ?_;rintro v H' ⟨⟨s,rfl,hs⟩,f⟩;refine⟨?_,f⟩;congr 1;apply tH;intro b e;rw[hs b e,Dl lo a b e]
def LA:AL 0 255=AmV 256:=by apply tH;intro b a;rw[Dl 0 255 b a,tV];simp[a];omega
structure t_ where
 fr:Int
 to:Int
 sil:Bool
 set:BitVec 256
structure P_ where
 st:Int
 start:Int
 fin:Int
 edges:List t_
def P_.has(a:P_)(q:Int):Bool:=zT (0<=q)&&zT (q<a.st)&&zT (a.st<=65536)
def P_.has_iff{a:P_}:a.has q=zW↔0<=q/\q<a.st/\a.st<=65536:=by unfold P_.has;simp only[O',yD,and_assoc]
inductive Yw(a:P_):Int->Int->Prop
 | refl (p:Int):Yw a p p
 | step {p:Int} {e:t_}:Yw a p e.fr->e∈a.edges->e.sil=zW->a.has e.to=zW->Yw a p e.to
abbrev PS:=Int->Prop
def clS(a:P_)(X:PS):PS:=λq=>∃p,X p/\Yw a p q
def Gm(a:P_):PS:=clS a λq=>q=a.start/\a.has a.start=zW
def Ma(a:P_)(X:PS)(b:Nat):PS:=λq=>∃e∈a.edges,e.sil=zU/\e.set.getLsbD b=zW/\X e.fr/\a.has e.to=zW/\q=e.to
def sH(a:P_)(X:PS)(b:Nat):PS:=clS a (Ma a X b)
def kS(a:P_)(X:PS):Prop:=∀e∈a.edges,e.sil=zW->a.has e.to=zW->X e.fr->X e.to
def OJ{a:P_}{X:PS}(h:X q):clS a X q:=⟨q,h,.refl q⟩
def LL(a:P_)(X:PS):kS a (clS a X):=λe b c d ⟨p,f,hs⟩=>⟨p,f,.step hs b c d⟩
variable{Y:PS}
def E2{a:P_}{X:PS}(h:∀q,X q->Y q)(hs:kS a Y):∀q,clS a X q->Y q:=by rintro q ⟨p,b,c⟩;induction c with|refl=>exact h _ b|step _ d e f g=>exact hs _ d e f g
def HW{a:P_}{X:PS}(h:∀q,X q->a.has q=zW):∀q,clS a X q->a.has q=zW:=E2 h λe _ _ b _=>b
def Gq(a:P_):∀q,Gm a q->a.has q=zW:=HW λq ⟨e,h⟩=>e ▸ h
def Oe(a:P_)(X:PS)(b:Nat):∀q,sH a X b q->a.has q=zW:=HW λq ⟨e,_,_,_,_,h,c⟩=>c ▸ h
def Uo:∀{l m:List Int},l.Pairwise (·<·)->m.Pairwise (·<·)->(∀q,q∈l↔q∈m)->l=m
 | [],[],_,_,_=>rfl
 | [],y::m,_,_,h=>by have:=(h y).2 zZ;cases this
 | x::l,[],_,_,h=>by have:=(h x).1 zZ;cases this
 | x::l,y::m,hl,hm,h=>by
   have⟨g,j⟩:=rG.1 hl;have⟨i,k⟩:=rG.1 hm;have b:x=y:=by
    have c:=(h x).1 zZ;have d:=(h y).2 zZ;rcases xU.1 c with e | c
    ·exact e
    ·rcases xU.1 d with e | d
     ·exact e.symm
     ·have:=g y d;have:=i x c;omega
   subst b
   congr 1
   refine Uo j k λq=>⟨λa=>?_,λa=>?_⟩
   ·rcases xU.1 ((h q).1 (by simp[a]))with e | f
    ·have:=g q a;omega
    ·exact f
   ·rcases xU.1 ((h q).2 (by simp[a]))with e | f
    ·have:=i q a;omega
    ·exact f
open Classical in
noncomputable def Da(X:PS):List Int:=((AjH 65536).map fun(n:Nat)=>(n:Int)).filter λq=>zT (X q)
def ZI(X:PS):(Da X).Pairwise (·<·):=by unfold Da;refine List.Pairwise.filter _ ?_;rw[List.pairwise_map];exact List.pairwise_lt_range.imp λh=>zO
open Classical in
def F0{X:PS}(h:∀q,X q->0<=q/\q<65536)(q:Int):q∈Da X↔X q:=by unfold Da;rw[yH,yD,List.mem_map];constructor;{exact λ⟨_,a⟩=>a};{intro a;have⟨b,c⟩:=h q a;exact⟨⟨q.toNat,yG.2 zO,zO⟩,a⟩}
def KC{X:PS}{l:List Int}(h:∀q,X q->0<=q/\q<65536)(hs:l.Pairwise (·<·))(a:∀q,q∈l↔X q):l=Da X:=
 Uo hs (ZI X) λq=>(a q).trans (F0 h q).symm
def Kc(X:PS):(Da X).length<=65536:=by unfold Da;exact yV (uG _ _) zZ
def DZ{a:P_}{X:PS}(h:∀q,X q->a.has q=zW):∀q,X q->0<=q/\q<65536:=λq b=>by
 have:=P_.has_iff.1 (h q b);omega
inductive Way(a:P_):Int->List Nat->Int->Prop
 | nil {p:Int}:a.has p=zW->Way a p [] p
 | sil {e:t_} {s:List Nat} {q:Int}:e∈a.edges->e.sil=zW->a.has e.fr=zW->Way a e.to s q->Way a e.fr s q
 | hop {e:t_} {b:Nat} {s:List Nat} {q:Int}:e∈a.edges->e.sil=zU->e.set.getLsbD b=zW->a.has e.fr=zW->Way a e.to s q->Way a e.fr (b::s) q
section
variable{α:Type}
def X_(T:Ty α)(S:Nat->Prop)(H:Aa)(lo:Nat)(e:x_)(v:v_)(xs:List α):Prop:=
 ∃cs,Sl H lo e T.size v xs.length cs/\T.reps S H cs xs
def X_.nil{T:Ty α}:X_ T S H lo e (.slice zV 0 0) []:=⟨[],Sl.nil _ _ _ _,rfl⟩
def X_.agr{T:Ty α}{S':Nat->Prop}{xs:List α}(h:X_ T S H lo e v xs)(k:C_ S' H H')(a:∀b,O_ v b->S' b)(hs:∀b,S b->S' b):X_ T S H' lo e v xs:=by have⟨c,d,f⟩:=h;exact⟨c,d.agr k a,Ty.reps_frame (k.mono hs) f⟩
def X_.mono{T:Ty α}{S':Nat->Prop}{xs:List α}(h:X_ T S H lo e v xs)(hs:∀b,S b->S' b):X_ T S' H lo e v xs:=by have⟨a,c,d⟩:=h;exact⟨a,c,Ty.reps_mono hs d⟩
def X_.lt{T:Ty α}{xs:List α}(h:X_ T S H lo e v xs)(a:O_ v b):lo<=b/\b<H.size:=by obtain⟨d,c,_⟩:=h;exact c.lt a
def X_.lower{T:Ty α}{xs:List α}{a:Nat}(h:X_ T S H lo e v xs)(j:a<=lo):X_ T S H a e v xs:=by obtain⟨d,⟨f,c⟩,g⟩:=h;refine⟨d,⟨f,?_⟩,g⟩;rcases c with c | ⟨b,cap,l,i,k,r⟩;{exact .inl c};{exact .inr ⟨b,cap,l,i,zO,r⟩}
def X_.one{T:Ty α}{xs:List α}(h:X_ T S H lo e v xs):v.oneCell'=zW:=by obtain⟨c,⟨d,a⟩,f⟩:=h;rcases a with⟨rfl,_⟩ | ⟨b,cap,l,rfl,r⟩<;>rfl
def X_.len{T:Ty α}{xs:List α}(h:X_ T S H lo e v xs):xs.length<=maxLen:=by obtain⟨c,⟨d,a⟩,f⟩:=h;rcases a with⟨_,a⟩ | ⟨b,cap,l,g,i,j,k,m,r⟩;{omega};{omega}
def X_.view{T:Ty α}{S':Nat->Prop}{xs:List α}(h:X_ T S H lo e v xs)(g:∀b,O_ v b->S' b)(hs:∀b,S b->S' b):∃a cap,v= .slice a xs.length cap/\b_ T S' H a cap xs/\(∀b,O_ v b↔a.map (·.block)=zY b):=by obtain⟨i,⟨s,d⟩,k⟩:=h;rcases d with⟨rfl,d⟩ | ⟨b,cap,l,rfl,t,m,p,q,w,r⟩;{refine⟨zV,0,by rw[d],⟨vJ d,rfl⟩,λb=>⟨?_,λh=>by cases h⟩⟩;rintro⟨o,n,c,h⟩;cases h};{refine⟨zY ⟨b,0,zV⟩,cap,rfl,b_.intro (g b ⟨_,_,_,rfl⟩) p q (ec:=i) ?_ (Ty.reps_mono hs k),λb'=>⟨?_,λh=>?_⟩⟩;{refine m.cells λj u f=>?_;rw[<-r,tE]at f;split at f;{simpa using f};{cases f}};{rintro⟨o,n,c,h⟩;cases h;rfl};{cases h;exact⟨0,_,_,rfl⟩}}
def gS{T:Ty α}{xs:List α}{c:List v_}{x:α}(h:T.reps S H cs xs)(b:T.rep S H c x)(e:i<xs.length):T.reps S H (Ak cs (i*T.size) c) (xs.set i x):=by induction xs generalizing cs i with|nil=>simp at e|cons y ys k=>{obtain⟨d,r,rfl,f,g⟩:=h;have j:=T.len f;have a:=T.len b;cases i with|zero=>refine⟨c,r,?_,b,g⟩;unfold Ak;simp only[Nat.zero_mul,List.take_zero,List.nil_append,K_];rw[a,<-j,List.drop_left]|succ i=>simp only[c_]at e;refine⟨d,Ak r (i*T.size) c,?_,f,k g zO⟩;have l:(i+1)*T.size=d.length+i*T.size:=by{rw[j,sQ];omega};unfold Ak;rw[l,pZ,(zO:d.length+i*T.size+c.length=d.length+(i*T.size+c.length)),rD];simp[zN]}
def X_.place{T:Ty α}{xs:List α}(h:X_ T S H lo e v xs)(w:i<xs.length):∃b cap l k,v= .slice (T_ b) xs.length cap/\lo<=b/\R_ H b e l/\i*T.size+T.size<=l.length/\
  (∀x,xs[i]?=zY x->∃c,Bn H b (i*T.size) c/\T.rep S H c x)/\T.reps S H k xs/\
  ∀(H':Aa) (c:List v_) (x:α),R_ H' b e (Ak l (i*T.size) c)->C_ S H H'->T.rep S H' c x->X_ T S H' lo e v (xs.set i x):=by obtain⟨k,⟨f,y⟩,o⟩:=h;rcases y with⟨rfl,y⟩ | ⟨b,cap,l,rfl,z,A,B,F,C,D⟩;{omega};{have d:i*T.size+T.size<=xs.length*T.size:=by{rw[<-sQ];exact vO _ w};have E:xs.length*T.size<=l.length:=by{rw[C];exact vO _ B};refine⟨b,cap,l,k,rfl,z,A,zO,?_,o,?_⟩;{intro x G;obtain⟨I,c,r,rfl,p,m⟩:=Ty.reps_get o G;refine⟨c,?_,m⟩;rw[<-p];have q:Bn H b 0 (I++c++r):=A.cells λj u n=>by{rw[<-D,tE]at n;split at n;{simpa using n};{cases n}};have:=q.mid;simpa using this};intro H' c x s g m;have a:=T.len m;refine⟨Ak k (i*T.size) c,⟨?_,.inr ⟨b,cap,_,by rw[yF],z,s,by rw[yF];exact B,F,?_,?_⟩⟩,gS (Ty.reps_frame g o) m w⟩;{rw[DW (by rw[a,f];exact d),f,yF]};{rw[DW (by rw[a];omega),C]};{rw[yF];apply yW;intro j;rw[tE];by_cases t:j<xs.length*T.size;{rw[I_ t,Dd (by rw[a];omega),Dd (by rw[a,f];exact d)];split;{rfl};{rw[<-D,tE,I_ t]}};{rw[G_ t,zE];rw[DW (by rw[a,f];exact d),f];omega}}}
def BU{T:Ty α}{t ty e:Nat}{K:v_->Aa->Prop}(n:SlT P t e T.size by_ z){q:Nat}{xs ys:List α}{ds:List v_}
  (hs:X_ T S H lo e v xs) (d:lo<=H.size) (p:∀k,S k->k<H.size/\¬O_ v k) (s:Bn H q o ds) (r:T.reps S H ds ys) (x:m=ys.length) (y:∀u∈ds,u.oneCell'=zW)
  (f:xs.length+ys.length<=maxLen) (hby:(xs.length+ys.length)*by_<=140737488355328)
  (h:∀b H',X_ T S H' lo e b (xs++ys)->C_ (λk=>k<H.size/\¬O_ v k) H H'->H.size<=H'.size->(∀k,O_ b k->O_ v k\/H.size<=k)->K b H'):
  BV P (Builtin.append_ #[t,t] ty [v,.slice (zY ⟨q,o,zV⟩) m cap].toArray) H K:=by have⟨D,g,A⟩:=hs;subst x;refine Sw (m:=ys.length) (news:=ds) n g d (λw B=>?_) f hby ?_;{refine Src.ofSlice w n.under ⟨q,o,zV⟩ ys.length cap ds (Ty.reps_len r) (λj u C=>?_) y;rw[Addr.add_mid];subst B;have:=s j u C;rw[Hx];exact this};{intro b H' c a i l;refine h b H' ⟨_,by rw[M_];exact c,Ty.reps_append (Ty.reps_frame (a.mono p) A) (Ty.reps_frame (a.mono p) r)⟩ a i l}
def EK{T:Ty α}{t e:Nat}{xs:List α}{x:α}
  (d:SlT P t e T.size by_ z) (h:b_ T S H a cap xs) (f:n=xs.length) (g:xs[i]?=zY x) (l:j=(i:Int))
  (m:∀b o c,S b->Bn H b o c->T.rep S H c x->K (.pointer (zY ⟨b,o,zV⟩))):AO P (Instr.indexAt t (.slice a n cap) (.int k j)) B H K:=by subst f;exact Y' d h g l m
end
def E9{α:Type}{T:Ty α}{S:Nat->Prop}{H:Aa}:∀{vs:List v_} {xs:List α},vs.length=xs.length->(∀(i:Nat) (v:v_) (x:α),vs[i]?=zY v->xs[i]?=zY x->T.rep S H [v] x)->T.reps S H vs xs
 | [],[],_,_=>rfl
 | v::vs,[],h,_=>by simp at h
 | [],x::xs,h,_=>by simp at h
 | v::vs,x::xs,h,k=>⟨[v],vs,rfl,k 0 v x rfl rfl,E9 (by simpa using h) λi a b c d=>k (i+1) a b (by simpa using c) (by simpa using d)⟩
def LW:∀(vs:List v_) (k:Nat) (cells:Array v_) (off:Nat),off+k+vs.length<=cells.size->
  (vs.zipIdx k).foldl (λc (x:v_×Nat)=>c.setIfInBounds (off+x.2) x.1) cells=(Ak cells.toList (off+k) vs).toArray
 | [],k,cells,off,_=>by apply Al2;simp[Ak]
 | v::vs,k,cells,off,h=>by
   simp only[c_]at h;rw[List.zipIdx_cons,List.foldl_cons,LW vs (k+1) _ off (by simp;omega)];apply congrArg;apply yW;intro j;rw[Dd (by simp;omega),Dd (by simp;omega)];simp only[Array.toList_setIfInBounds,c_];by_cases a:off+(k+1)<=j/\j<off+(k+1)+vs.length
   ·rw[I_ a,I_ (by omega),show j-(off+k)=(j-(off+(k+1)))+1 by omega,sK]
   ·rw[G_ a];by_cases b:j=off+k
    ·subst b;rw[I_ (by omega),wP,List.getElem?_cons_zero,yP (by simp;omega)]
    ·rw[G_ (by omega),xV,G_ (λd=>b d.symm)]
def Cu{place:Nat->Option (Nat×Nat)}{cells:Array v_}{rest:List (Nat×v_)}{off size:Nat}(b:place i=zY (off,size))(d:v.cells.size=size)(e:off+size<=cells.size):
  Instr.fill place cells ((i,v)::rest)=Instr.fill place (Ak cells.toList off v.cells.toList).toArray rest:=by have c:¬(v.cells.size≠size\/off+v.cells.size>cells.size):=zO;have a:=LW v.cells.toList 0 cells off (by simp;omega);simp only[Nat.add_zero]at a;rw[Instr.fill,b];simp only[tJ,yD,c,if_false];congr 1;rw[<-a,<-Array.foldl_toList,Array.toList_zipIdx]
def As{K:v_->Aa->Prop}(d:SlT P t e sz by_ z)(l:List v_)(a:v.cells=l.toArray)(c:l.length=sz)(h0:0<sz)(f:sz<=16777216)
  (h:New H (λb H'=>K (.slice (T_ b) 1 1) H') e l):BV P (Instr.buildSlice t 1 [(0,v)].toArray) H K:=by refine AhR d l zO zO ?_ h;rw[show([(0,v)].toArray).toList=(0,v)::[]from rfl,Cu (off:=0) (size:=sz) zZ (by rw[a];simpa using c) zZ];rw[Instr.fill,a];congr 1;apply Al2;simp only[Ak];simp[c]
structure Tab{α:Type}(T:Ty α)(S:Nat->Prop)(H:Aa)(lo:Nat)(e:x_)(nb:Nat)(te:x_)(vs:List v_)(xs:List (List α)):Prop where
 len:vs.length=xs.length
 blk:R_ H nb te vs
 nlo:nb<lo
 own:∀(i:Nat) (v:v_) (x:List α),vs[i]?=zY v->xs[i]?=zY x->X_ T S H lo e v x
 apart:∀(i j:Nat) (v w:v_) (k:Nat),i≠j->vs[i]?=zY v->vs[j]?=zY w->O_ v k->¬O_ w k
section
variable{α:Type}{T:Ty α}
def Tab.agr{S':Nat->Prop}{H1:Aa}{nb:Nat}{vs:List v_}{xs:List (List α)}(h:Tab T S H lo e nb te vs xs)(k:C_ S' H H1)(g:S' nb)(a:∀b,lo<=b->b<H.size->S' b)(hs:∀b,S b->S' b):Tab T S H1 lo e nb te vs xs:=
 ⟨h.len,h.blk.agr k g,h.nlo,λi v x c d=>(h.own i v x c d).agr k (λb f=>a b ((h.own i v x c d).lt f).1 ((h.own i v x c d).lt f).2) hs,h.apart⟩
def Tab.new{nb:Nat}(f:R_ H nb te (Ai4 n (.slice zV 0 0)))(b:nb<lo):Tab T S H lo e nb te (Ai4 n (.slice zV 0 0)) (Ai4 n []):=by refine⟨zZ,f,b,λi v x a d=>?_,λi j v w k g a p l=>?_⟩;{rw[vK]at a d;split at a;{rename_i m;rw[I_ m]at d;cases a;cases d;exact X_.nil};{cases a}};{rw[vK]at a;split at a;{cases a;have⟨o,n,c,h⟩:=l;cases h};{cases a}}
def Tab.get{nb:Nat}{vs:List v_}{xs:List (List α)}(h:Tab T S H lo e nb te vs xs)(a:i<xs.length):∃v x,vs[i]?=zY v/\xs[i]?=zY x/\X_ T S H lo e v x:=by
 have b:i<vs.length:=by rw[h.len];exact a
 exact⟨vs[i],xs[i],yI b,yI a,h.own i _ _ (yI b) (yI a)⟩
def Tab.push{H1:Aa}{nb:Nat}{vs:List v_}{xs:List (List α)}(h:Tab T S H lo e nb te vs xs){t:Nat}{m:v_}{x':List α}(C:vs[t]?=zY v)(l:X_ T S H1 lo e m x')(G:C_ (λk=>k<H.size/\¬O_ v k) H H1)
  (g:∀k,O_ m k->O_ v k\/H.size<=k) (c:R_ H0 nb te (vs.set t m)) (p:C_ (λk=>k≠nb) H1 H0) (z:∀k,S k->k<H.size/\¬O_ v k/\k≠nb):
  Tab T S H0 lo e nb te (vs.set t m) (xs.set t x'):=by have A:t<vs.length:=(V_.1 C).1;refine⟨by simp[h.len],c,h.nlo,λi w x a B=>?_,λi j u w k q r a n f=>?_⟩;{by_cases d:i=t;{subst d;rw[yP A]at a;rw[yP (by rw[<-h.len];exact A)]at B;cases a;cases B;exact l.agr p (λb c=>by have:=(l.lt c).1;have:=h.nlo;omega) (λb c=>(z b c).2.2)};{rw[xC (Ne.symm d)]at a B;have o:=h.own i w x a B;have I:X_ T S H1 lo e w x:=o.agr G (λb c=>⟨(o.lt c).2,λD=>h.apart i t w v b d a C c D⟩) (λb c=>⟨(z b c).1,(z b c).2.1⟩);exact I.agr p (λb c=>by have:=(o.lt c).1;have:=h.nlo;omega) (λb c=>(z b c).2.2)}};{have s:∀(i:Nat) (w:v_),i≠t->(vs.set t m)[i]?=zY w->O_ w k->¬O_ m k:=by{intro i w F a n f;rw[xC (Ne.symm F)]at a;rcases g k f with o | o;{exact h.apart i t w v k F a C n o};{have E:i<xs.length:=by{rw[<-h.len];exact(V_.1 a).1};have:=((h.own i w _ a (yI E)).lt n).2;omega}};by_cases d:i=t;{subst d;rw[yP A]at r;cases r;exact s j w (Ne.symm q) a f n};{by_cases y:j=t;{subst y;rw[yP A]at a;cases a;exact s i u d r n f};{rw[xC (Ne.symm d)]at r;rw[xC (Ne.symm y)]at a;exact h.apart i j u w k q r a n f}}}
def Tab.view{S':Nat->Prop}{nb:Nat}{vs:List v_}{xs:List (List α)}(h:Tab T S H lo e nb te vs xs)(l:n=xs.length)(m:n<=maxLen)
  (f:∀k,nb<=k->k<H.size->S' k) (hs:∀k,S k->S' k):b_ (zC T) S' H (T_ nb) n xs:=by subst l;refine b_.intro (f nb (N_ _) h.blk.lt) (N_ _) m (h.blk.cells (cs:=vs) (λj v b=>by simpa using b)) (E9 h.len λi v x b o=>?_);have c:=h.own i v x b o;obtain⟨p,a,rfl,d,-⟩:=c.view (S':=S') (λk g=>f k (by have:=(c.lt g).1;have:=h.nlo;omega) (c.lt g).2) hs;exact⟨p,a,rfl,d⟩
end
def Xf{t e:Nat}{h:Int}(b:SlT P t e sz by_ z)(h0:0<=h)(c:h<=cap)
  (d:K (.slice a h.toNat cap)):AO P (Instr.sliceAt t (.slice a n cap) zV (zY (.int k h)) zV) S H K:=by
 obtain⟨f,g,hs,_,_⟩:=b.info;refine AO.mk _ (λw _=>?_) d;have i:(a.map λx=>x.add 0)=a:=by cases a<;>rfl
 simp[Instr.sliceAt,Instr.slice,run_underlying b.under,Instr.sliceBounds,Instr.sliceBound,asIntOf,h0,c,sizeOf,typeInfo,g,i]
def X_.pop{α:Type}{T:Ty α}{xs:List α}{x:α}(h:X_ T S H lo e (.slice a n cap) (xs++[x])):X_ T S H lo e (.slice a xs.length cap) xs:=by obtain⟨d,⟨g,f⟩,m⟩:=h;have split:∀(xs:List α) (d:List v_),T.reps S H d (xs++[x])->T.reps S H (d.take (xs.length*T.size)) xs:=by{intro xs;induction xs with|nil=>intro d _;simp[Ty.reps]|cons y ys o=>rintro d ⟨c,r,rfl,i,p⟩;refine⟨c,r.take (ys.length*T.size),?_,i,o r p⟩;have:=T.len i;rw[c_,sQ,Nat.add_comm,<-this,pZ]};rcases f with⟨f,q⟩ | ⟨b,j,l,f,s,t,u,v,w,k⟩;{simp at q};{cases f;simp only[M_,i_]at u k g;refine⟨d.take (xs.length*T.size),⟨?_,.inr ⟨b,cap,l,rfl,s,t,zO,v,w,?_⟩⟩,split xs d m⟩;{rw[wK,g,tY (vO _ zO)]};{rw[<-k,List.take_take,tY (vO _ zO)]}}
def Ty.Ones{α:Type}(T:Ty α):Prop:=∀S H cs x,T.rep S H cs x->∀u∈cs,u.oneCell'=zW
def Ty.Ones.reps{α:Type}{T:Ty α}(h:T.Ones):∀{cs:List v_} {xs:List α},T.reps S H cs xs->∀u∈cs,u.oneCell'=zW:=by intro cs xs;induction xs generalizing cs with|nil=>intro b u a;simp only[Ty.reps]at b;subst b;cases a|cons x xs d=>{rintro⟨c,r,rfl,e,b⟩ u a;rcases X'.1 a with a | a;{exact h S H c x e u a};{exact d b u a}}
def Yf:∀(k:IntKind),(HT k).Ones:=by rintro k S H b x ⟨rfl,_⟩ u a;cases g_.1 a;rfl
def PK:AI.Ones:=by rintro S H b x rfl u a;cases g_.1 a;rfl
def Mx{α:Type}{T:Ty α}{t ty e:Nat}{K:v_->Aa->Prop}(p:SlT P t e T.size by_ z)(r:T.Ones){xs ys:List α}
  (hs:X_ T S H lo e v xs) (d:lo<=H.size) (s:∀k,S k->k<H.size/\¬O_ v k) (B:b_ T S H a cap ys)
  (f:xs.length+ys.length<=maxLen) (hby:(xs.length+ys.length)*by_<=140737488355328)
  (h:∀g H',X_ T S H' lo e g (xs++ys)->C_ (λk=>k<H.size/\¬O_ v k) H H'->H.size<=H'.size->(∀k,O_ g k->O_ v k\/H.size<=k)->K g H'):
  BV P (Builtin.append_ #[t,t] ty [v,.slice a ys.length cap].toArray) H K:=by cases a with|some D=>have⟨q,o,G⟩:=D;obtain⟨I,J,L | ⟨rfl,M,N,E,C⟩⟩:=B;{obtain rfl:ys=[]:=vJ zO;have⟨x,i,y⟩:=hs;refine Sw (m:=0) (news:=[]) p i d (λw F=>Src.ofSlice w p.under _ 0 cap [] zZ (λj u A=>by simp at A) (λu A=>by cases A)) (by simpa using f) (by simpa using hby) ?_;intro g H' c b l n;refine h g H' ⟨x,by simpa using c,?_⟩ b l n;rw[yX];exact Ty.reps_frame (b.mono s) y};exact BU p hs d s E C rfl (r.reps C) f hby h|none=>obtain⟨rfl,rfl⟩:=B;have⟨x,i,y⟩:=hs;refine Sw (m:=0) (news:=[]) p i d (λw F=>Src.ofNil w p.under 0) (by simpa using f) (by simpa using hby) ?_;intro g H' c b l n;refine h g H' ⟨x,by simpa using c,?_⟩ b l n;rw[yX];exact Ty.reps_frame (b.mono s) y
def Ty.Free{α:Type}(T:Ty α):Prop:=∀S S' H H' cs x,T.rep S H cs x->T.rep S' H' cs x
def Ye(k:IntKind):(HT k).Free:=λS S' H H' a x h=>h
def PJ:AI.Free:=λS S' H H' a x h=>h
def Ty.Free.reps{α:Type}{T:Ty α}(h:T.Free){S':Nat->Prop}:∀{cs:List v_} {xs:List α},T.reps S H cs xs->T.reps S' H' cs xs:=by intro cs xs;induction xs generalizing cs with|nil=>exact λa=>a|cons x xs b=>rintro⟨c,r,e,d,a⟩;exact⟨c,r,e,h S S' H H' c x d,b a⟩
def X_.free{α:Type}{T:Ty α}(a:T.Free){S':Nat->Prop}{xs:List α}(h:X_ T S H lo e v xs):X_ T S' H lo e v xs:=by have⟨b,c,d⟩:=h;exact⟨b,c,a.reps d⟩
def Nz(h:P.underlying t=zY (.pointer e))(p:Option Addr)(w:y_):(Op.equal t (.pointer p) (.pointer zV)).run P w= .ok p.isNone w:=by have:∀d:Nat,(Op.equalIn (d+1) t (.pointer p) (.pointer zV)).run P w= .ok p.isNone w:=λd=>by{cases p<;>simp[Op.equalIn,run_underlying h]};exact this 9999
def gE{p:Option Addr}(h:P.underlying t=zY (.pointer e))(k:K (.bool p.isNone)):AO P (do eqGuard .eql t x y (.pointer p) (.pointer zV);binOp .eql t (.pointer p) (.pointer zV)) S H K:=by refine AO.mk _ (λw _=>?_) k;simp[eqGuard,binOp,Nz h]
def qV{p:Option Addr}(h:P.underlying t=zY (.pointer e))(k:K (.bool (!p.isNone))):AO P (do eqGuard .neq t x y (.pointer p) (.pointer zV);binOp .neq t (.pointer p) (.pointer zV)) S H K:=by refine AO.mk _ (λw _=>?_) k;simp[eqGuard,binOp,Nz h]
def nN(h:P.underlying t=zY (.pointer e))(k:K (.bool zW)):AO P (do eqGuard .eql t x y (.pointer zV) (.pointer zV);binOp .eql t (.pointer zV) (.pointer zV)) S H K:=gE h k
def ZX{a:Addr}(h:P.underlying t=zY (.pointer e))(k:K (.bool zU)):AO P (do eqGuard .eql t x y (.pointer (zY a)) (.pointer zV);binOp .eql t (.pointer (zY a)) (.pointer zV)) S H K:=gE h k
def oY(h:P.underlying t=zY (.pointer e))(k:K (.bool zU)):AO P (do eqGuard .neq t x y (.pointer zV) (.pointer zV);binOp .neq t (.pointer zV) (.pointer zV)) S H K:=qV h k
def oZ{a:Addr}(h:P.underlying t=zY (.pointer e))(k:K (.bool zW)):AO P (do eqGuard .neq t x y (.pointer (zY a)) (.pointer zV);binOp .neq t (.pointer (zY a)) (.pointer zV)) S H K:=qV h k
def Nx(h:P.underlying t=zY .bool)(a b:Bool)(w:y_):(Op.equal t (.bool a) (.bool b)).run P w= .ok (a==b) w:=by
 have:∀d:Nat,(Op.equalIn (d+1) t (.bool a) (.bool b)).run P w= .ok (a==b) w:=λd=>by simp[Op.equalIn,run_underlying h]
 exact this 9999
def YA{a b:Bool}(h:P.underlying t=zY .bool)(k:K (.bool (a==b))):AO P (do eqGuard .eql t x y (.bool a) (.bool b);binOp .eql t (.bool a) (.bool b)) S H K:=by refine AO.mk _ (λw _=>?_) k;simp[eqGuard,binOp,Nx h]
def aL{a b:Bool}(h:P.underlying t=zY .bool)(k:K (.bool (!(a==b)))):AO P (do eqGuard .neq t x y (.bool a) (.bool b);binOp .neq t (.bool a) (.bool b)) S H K:=by refine AO.mk _ (λw _=>?_) k;simp[eqGuard,binOp,Nx h]
def ED{s:ByteArray}{b:UInt8}(h:P.underlying t=zY .string)(c:j=(i:Int))(d:s.data[i]?=zY b)
  (e:K (.int .u8 (b.toNat:Int))):AO P (Instr.index t (.string s) (.int k j)) S H K:=by subst c;have a:s[i]?=zY b:=by{have⟨f,g⟩:=uS.1 d;have l:i<s.size:=f;rw[getElem?_pos s i l];exact congrArg zY g};refine AO.mk _ (λw _=>?_) e;simp[Instr.index,asIntOf,run_underlying h,a]
def aC{K:v_->Aa->Prop}(a:SlT P t e sz by_ z)(h:New H (λb H'=>K (.slice (T_ b) 0 0) H') e []):BV P (Instr.buildSlice t 0 ([]:List (Nat×v_)).toArray) H K:=by refine BV.mk λw c=>?_;subst c;refine⟨_,w.alloc (.cells [].toArray e),?_,⟨rfl,rfl,rfl⟩,h.go⟩;obtain⟨d,f,hs,_,g⟩:=a.info;simp only[Instr.buildSlice,Sem.run_bind,run_underlying a.under,Result.andThen_ok,sizeOf,typeInfo,zeroValue];have i:((Array.range 0).map λ_:Nat=>(default:v_))= #[]:=zZ;simp[f,hs,g,newRow,Instr.fill,i]
def X_.empty{α:Type}{T:Ty α}(a:lo<=b)(c:R_ H b e []):X_ T S H lo e (.slice (T_ b) 0 0) []:=
 ⟨[],by have:=Sl.made (sz:=T.size) (n:=0) (cap:=0) a c (N_ _) zQ zZ;simpa using this,rfl⟩
def X_.ofBlk{α:Type}{T:Ty α}{xs:List α}(a:lo<=b)(f:R_ H b e l)(c:T.reps S H l xs)(g:n=xs.length)(h:n<=maxLen):X_ T S H lo e (.slice (T_ b) n n) xs:=by subst g;have d:=Ty.reps_len c;refine⟨l,?_,c⟩;have:=Sl.made (sz:=T.size) (n:=xs.length) (cap:=xs.length) a f (N_ _) h d;rwa [<-d,List.take_length]at this
def Ew{S:Nat->Prop}{H:Aa}{α:Type}{T:Ty α}{c:List v_}{v:α}(h:T.rep S H c v):∀n,T.reps S H (Ai4 n c).flatten (Ai4 n v)
 | 0=>rfl
 | n+1=>⟨c,_,rfl,h,Ew h n⟩
def XA(z:Array v_)(n:Nat):(AjH (n*z.size)).map (z[· % z.size]!)=(Ai4 n z.toList).flatten:=by induction n with|zero=>simp|succ n b=>rw[sQ,nV,List.map_append,b,List.replicate_succ',List.flatten_append];congr 1;simp only[List.flatten_cons,List.flatten_nil,yX,List.map_map];apply yW;intro i;by_cases a:i<z.size;{rw[I',wS a];simp only[Option.map_some,Function.comp,Array.getElem?_toList];have:(n*z.size+i) % z.size=i:=by{rw[Nat.mul_comm,Nat.mul_add_mod];exact vV a};rw[this,getElem!_pos z i a,getElem?_pos z i a]};{rw[zE (by simp;omega),zE (by simp;omega)]}
section
variable{α:Type}{T:Ty α}
def VL{g i:IntKind}{l c:Int}{v:α}{K:v_->Aa->Prop}(f:SlT P t e T.size by_ z)(k:T.rep S H z.cells.toList v)(h0:0<=l)(a:l=c)(j:(by_:Int)*c<=281474976710656)(d:c<=9223372036854775807)
  (h:New H (λb H'=>K (.slice (T_ b) c.toNat c.toNat) H') e (Ai4 c.toNat z.cells.toList).flatten):BV P (Instr.makeSlice t (.int g l) (.int i c)) H K:=by subst a;refine nD f h0 (Int.le_refl _) j d ?_;rw[<-f.zsz,XA];exact h
def X_.made{c:List v_}{v:α}(a:lo<=b)(d:R_ H b e (Ai4 n c).flatten)(f:T.rep S H c v)(g:n<=maxLen):X_ T S H lo e (.slice (T_ b) n n) (Ai4 n v):=
 X_.ofBlk a d (Ew f n) zZ g
def X_.placeS{xs:List α}(h:X_ T S H lo e (.slice (zY ⟨b,o,zV⟩) n cap) xs)(f:i<xs.length):n=xs.length/\o=0/\lo<=b/\∃l,R_ H b e l/\i*T.size+T.size<=l.length/\
  (∀x,xs[i]?=zY x->∃c,Bn H b (i*T.size) c/\T.rep S H c x)/\
  ∀(H':Aa) (c:List v_) (x:α),R_ H' b e (Ak l (i*T.size) c)->C_ S H H'->T.rep S H' c x->X_ T S H' lo e (.slice (zY ⟨b,o,zV⟩) n cap) (xs.set i x):=by have⟨b',a,l,q,d,g,j,k,m,r,p⟩:=h.place f;have e2:=d;injection d with e3 e4 e5;injection e3 with e3;injection e3 with e6 e7 e8;subst e6;subst e7;subst e4;subst e5;exact⟨rfl,rfl,g,l,j,k,m,p⟩
end
def kH{a:Nat}(h:0<b)(d:zI k (a:Int))(e:K (.int k ((a / b:Nat):Int))):AO P (do eqGuard .quo t x y (.int k a) (.int k b);binOp .quo t (.int k a) (.int k b)) S H K:=by
 refine AO.mk _ (λw _=>?_) e;have f:¬((b:Int)=0):=zO;have g:((a:Int).tdiv (b:Int))=((a / b:Nat):Int):=by rw[Int.tdiv_eq_ediv_of_nonneg zO];rfl
 have c:=Iq (Vf d (iH a b));simp only[CO,binOp,Op.intDiv,Sem.run_bind,Result.andThen_ok,f,if_false,g,c,Sem.run_pure,ne_eq,not_true_eq_false]
def Yo{a:Nat}(f:0<b)(c:K (.int k ((a % b:Nat):Int))):AO P (do eqGuard .rem t x y (.int k a) (.int k b);binOp .rem t (.int k a) (.int k b)) S H K:=by
 refine AO.mk _ (λw _=>?_) c;have d:¬((b:Int)=0):=zO;have e:((a:Int).tmod (b:Int))=((a % b:Nat):Int):=by rw[Int.tmod_eq_emod_of_nonneg zO];rfl
 simp only[CO,binOp,Op.intDiv,Sem.run_bind,Result.andThen_ok,d,if_false,e,Sem.run_pure,ne_eq,not_true_eq_false]
def Ap.cut{l:List Oper}{K:Fr->Aa->Prop}{α:Type}(f:List Nat)(enc:α->List v_)(I:α->Aa->Prop)
  (h:Ap P l fr H (λb H'=>Lb (Ra l []) fr b (Sh b f λvs=>∃y,vs=enc y/\I y H')))
  (k:∀(z:α) (H1:Aa) (c:Nat->v_),I z H1->Ji c fr (Ra l []) λg=>VM g f (enc z) λi=>K i H1):Ap P l fr H K:=by generalize Ra l []=u at h k;have h:=h.out_;refine⟨?_⟩;intro id Q a w j o p q;refine h id Q a w j o p λb a' m d e n=>q b a' m d e ?_;simp only[Lb,D9,Ik]at n;have⟨r,z,s,t⟩:=n;have h:=k z m.heap (rd b) t;rw[D9,KR,Ep r,<-s,IU f b]at h;exact h
def AjZ{s:ByteArray}{a:IntKind}{l h:Int}(b:P.underlying t=zY .string)(h0:0<=l)(c:l<=h)(d:h<=s.size)(e:K (.string (s.extract l.toNat h.toNat))):
  AO P (Instr.sliceAt t (.string s) (zY (.int k l)) (zY (.int a h)) zV) S H K:=by refine AO.mk _ (λw _=>?_) e;have f:0<=h:=zO;have g:l<=max h 0:=zO;simp[Instr.sliceAt,Instr.slice,run_underlying b,Instr.sliceBounds,Instr.sliceBound,asIntOf,h0,c,d,f,g]
section
variable{α:Type}{l:List α}
def Ts{k:Nat}{x z:α}(h:l[k]?=zY x):(l.take k++Ai4 (l.length-k) z).set k x=l.take (k+1)++Ai4 (l.length-(k+1)) z:=by have a:=(V_.1 h).1;have b:=(V_.1 h).2;rw[List.set_append_right _ _ (by simp;omega),wK,tY zO,wP,(zO:l.length-k=(l.length-(k+1))+1),List.replicate_succ,List.set_cons_zero,List.take_succ_eq_append_getElem a,b,zN];rfl
def Zq{k:Nat}{z:α}(h:k<l.length):(l.take k++Ai4 (l.length-k) z)[k]?=zY z:=by rw[zL (by simp;omega),wK,tY zO,wP,vK,I_ zO]
def Tr{k:Nat}{z:α}(h:k<=l.length):(l.take k++Ai4 (l.length-k) z).length=l.length:=by simp;omega
def Tq{z:α}:l.take l.length++Ai4 (l.length-l.length) z=l:=zZ
def Tp{z:α}:l.take 0++Ai4 (l.length-0) z=Ai4 l.length z:=zZ
end
def LB(h:o<l.length):Ak l o [v]=l.set o v:=by apply yW;intro j;rw[Dd (by simp;omega),xV];simp only[i_];by_cases a:o=j;{subst a;simp[h]};{rw[G_ zO,G_ a]}
def PE{p r:List v_}(a:p.length=o):Ak (p++r) o cs=p++(cs++r.drop cs.length):=by subst a;unfold Ak;rw[List.take_left,rD,zN]
structure Pc where
 foot:Nat->Prop
 ok:Aa->Prop
 fr:∀{H H':Aa},C_ foot H H'->ok H->ok H'
def Dis(p q:Pc):Prop:=∀k,p.foot k->¬q.foot k
structure B_(B:Nat->Prop)(H0 H:Aa)(ps:List Pc):Prop where
 old:C_ B H0 H
 lt0:∀k,B k->k<H0.size
 size:H0.size<=H.size
 oks:∀p∈ps,p.ok H
 rng:∀p∈ps,∀k,p.foot k->¬B k/\k<H.size
 dis:ps.Pairwise Dis
abbrev St(H0 H:Aa)(ps:List Pc):Prop:=B_ (H_ H0) H0 H ps
def St.nil(H:Aa):St H H []:=⟨C_.refl _ _,λ_ h=>h,N_ _,(λ_ h=>by cases h),(λ_ h=>by cases h),List.Pairwise.nil⟩
variable{p:Pc}
def B_.start(c:p.ok H)(d:∀k,p.foot k->k<H.size):B_ (λk=>k<H.size/\¬p.foot k) H H [p]:=
 ⟨C_.refl _ _,λ_ h=>h.1,N_ _,(λq a=>by rw[g_]at a;subst a;exact c),(λq a k b=>by rw[g_]at a;subst a;exact⟨λh=>h.2 b,d k b⟩),rE _ _⟩
variable{ps:List Pc}
def B_.up(a:B_ B H0 H ps){k:Nat}(b:B k):k<H.size:=vN (a.lt0 k b) a.size
def B_.call(a:B_ B H0 H ps)(h:C_ (H_ H) H H'):B_ B H0 H' ps:=
 ⟨a.old.trans (h.mono λk b=>a.up b),a.lt0,yV a.size (Bl h),λp c=>p.fr (h.mono λk b=>(a.rng p c k b).2) (a.oks p c),
  λp c k b=>⟨(a.rng p c k b).1,Af h (a.rng p c k b).2⟩,a.dis⟩
def B_.at_(a:B_ B H0 H ps)(i:Nat)(b:ps[i]?=zY p):p.ok H:=a.oks p (e_ b)
def B_.in_(a:B_ B H0 H ps)(i:Nat)(b:ps[i]?=zY p){k:Nat}(c:p.foot k):¬B k/\k<H.size:=a.rng p (e_ b) k c
def B_.add{B:Nat->Prop}{H0 H H':Aa}{ps:List Pc}(e:B_ B H0 H ps)(h:C_ (H_ H) H H')(p:Pc)(l:p.ok H')(g:∀k,p.foot k->H.size<=k/\k<H'.size):B_ B H0 H' (ps++[p]):=by have d:=e.call h;refine⟨d.old,e.lt0,d.size,λq c=>?_,λq c k f=>?_,List.pairwise_append.2 ⟨e.dis,rE _ _,λa m b j=>?_⟩⟩;{rcases X'.1 c with c | c;{exact d.oks q c};{rw[g_]at c;subst c;exact l}};{rcases X'.1 c with c | c;{exact d.rng q c k f};{rw[g_]at c;subst c;exact⟨λn=>by have:=e.up n;have:=g k f;omega,(g k f).2⟩}};{rw[g_]at j;subst j;intro k f i;have:=(e.rng a m k f).2;have:=(g k i).1;omega}
def B_.upd(f:B_ B H0 H ps)(i:Nat)(w:ps[i]?=zY p)(h:C_ (λk=>k<H.size/\¬p.foot k) H H')(q:Pc)(E:q.ok H')(A:∀k,q.foot k->p.foot k\/H.size<=k)(F:∀k,q.foot k->k<H'.size)(hs:H.size<=H'.size):B_ B H0 H' (ps.set i q):=by have x:=(V_.1 w).1;have o:=e_ w;have s:∀(j:Nat) (r:Pc),ps[j]?=zY r->j≠i->Dis r p:=by{intro j r c l k d g;have t:=(V_.1 c).1;have C:=(V_.1 c).2;have e2:=(V_.1 w).2;rcases mC l with e | e;{exact wF.1 f.dis j i t x e k (by rw[C];exact d) (by rw[e2];exact g)};{exact wF.1 f.dis i j x t e k (by rw[e2];exact g) (by rw[C];exact d)}};have u:∀r,r∈ps.set i q->r=q\/∃j,j≠i/\ps[j]?=zY r:=by{intro r c;have⟨j,l⟩:=xI c;by_cases e:i=j;{subst e;rw[yP x]at l;cases l;exact .inl rfl};{rw[xC e]at l;exact .inr ⟨j,Ne.symm e,l⟩}};refine⟨f.old.trans (h.mono λk d=>⟨f.up d,λn=>(f.rng p o k n).1 d⟩),f.lt0,yV f.size hs,λr c=>?_,λr c k d=>?_,?_⟩;{rcases u r c with rfl | ⟨j,l,c⟩;{exact E};{exact r.fr (h.mono λk d=>⟨(f.rng r (e_ c) k d).2,λn=>s j r c l k d n⟩) (f.oks r (e_ c))}};{rcases u r c with rfl | ⟨j,l,c⟩;{refine⟨?_,F k d⟩;rcases A k d with m | m;{exact(f.rng p o k m).1};{exact λG=>by have:=f.up G;omega}};{have:=f.rng r (e_ c) k d;exact⟨this.1,zO⟩}};{have v:∀(j:Nat) (r:Pc),ps[j]?=zY r->j≠i->Dis r q:=by{intro j r c l k d g;rcases A k g with m | m;{exact s j r c l k d m};{have:=(f.rng r (e_ c) k d).2;omega}};rw[wF];intro a b y n z;simp only[yF]at y n;rw[iM,iM];by_cases m:i=a;{subst m;rw[I_ rfl,G_ zO];exact λk d g=>v b _ (yI n) zO k g d};{rw[G_ m];by_cases D:i=b;{subst D;rw[I_ rfl];exact v a _ (yI y) zO};{rw[G_ D];exact wF.1 f.dis a b y n z}}}
def B_.pick(c:B_ B H0 H ps)(is:List Nat)(s:is.Nodup):B_ B H0 H (is.filterMap λi=>ps[i]?):=by have m:∀r,r∈is.filterMap (λi=>ps[i]?)->r∈ps:=λr d=>by{obtain⟨i,_,t⟩:=List.mem_filterMap.1 d;exact e_ t};refine⟨c.old,c.lt0,c.size,λr d=>c.oks r (m r d),λr d=>c.rng r (m r d),?_⟩;rw[List.pairwise_filterMap];refine s.imp ?_;intro i j l a n b o k p e;have f:=(V_.1 n).1;have g:=(V_.1 o).1;have q:=(V_.1 n).2;have e2:=(V_.1 o).2;rcases mC l with h | h;{exact wF.1 c.dis i j f g h k (by rw[q];exact p) (by rw[e2];exact e)};{exact wF.1 c.dis j i g f h k (by rw[e2];exact e) (by rw[q];exact p)}
def B_.say(b:B_ B H0 H ps)(i:Nat)(c:ps[i]?=zY p)(q:Pc)(e:q.ok H)(d:∀k,q.foot k->p.foot k):B_ B H0 H (ps.set i q):=
 b.upd i c (C_.refl _ _) q e (λk a=>.inl (d k a)) (λk a=>(b.in_ i c (d k a)).2) (N_ _)
def St.ge(a:St H0 H ps)(i:Nat)(b:ps[i]?=zY p){k:Nat}(c:p.foot k):H0.size<=k:=by have:=(a.in_ i b c).1;unfold H_ at this;omega
def pJ(p q:Pc):Pc:=⟨λk=>p.foot k\/q.foot k,λH=>p.ok H/\q.ok H,λh hp=>⟨p.fr (h.mono λ_ hk=>.inl hk) hp.1,q.fr (h.mono λ_ hk=>.inr hk) hp.2⟩⟩
def B_.join{B:Nat->Prop}{H0 H:Aa}{ps:List Pc}{p q:Pc}(g:B_ B H0 H ps)(i j:Nat)(y:ps[i]?=zY p)(z:ps[j]?=zY q)(J:i<j):B_ B H0 H ((ps.eraseIdx j).set i (pJ p q)):=by have K:=(V_.1 y).1;have L:=(V_.1 z).1;have o:=e_ y;have t:=e_ z;have d:∀(a:Nat) (r:Pc),((ps.eraseIdx j).set i (pJ p q))[a]?=zY r->(a=i/\r=pJ p q)\/(a≠i/\∃b,b≠i/\b≠j/\ps[b]?=zY r/\b=if a<j then a else a+1):=by{intro a r f;by_cases m:i=a;{subst m;rw[yP (by rw[List.length_eraseIdx];split<;>omega)]at f;cases f;exact .inl ⟨rfl,rfl⟩};{rw[xC m,List.getElem?_eraseIdx]at f;refine .inr ⟨Ne.symm m,if a<j then a else a+1,?_,?_,?_,rfl⟩;{split<;>omega};{split<;>omega};{split at f;{rename_i h;rw[I_ h];exact f};{rename_i h;rw[G_ h];exact f}}}};have l:∀(a b:Nat) (r s:Pc),a≠b->ps[a]?=zY r->ps[b]?=zY s->Dis r s:=by{intro a b r s u f hs k e c;have v:=(V_.1 f).1;have w:=(V_.1 hs).1;have I:=(V_.1 f).2;have e2:=(V_.1 hs).2;rcases mC u with h | h;{exact wF.1 g.dis a b v w h k (by rw[I];exact e) (by rw[e2];exact c)};{exact wF.1 g.dis b a w v h k (by rw[e2];exact c) (by rw[I];exact e)}};refine⟨g.old,g.lt0,g.size,λr f=>?_,λr f k e=>?_,?_⟩;{have⟨a,m⟩:=xI f;rcases d a r m with⟨_,rfl⟩ | ⟨_,b,_,_,x,_⟩;{exact⟨g.oks p o,g.oks q t⟩};{exact g.oks r (e_ x)}};{have⟨a,m⟩:=xI f;rcases d a r m with⟨_,rfl⟩ | ⟨_,b,_,_,x,_⟩;{rcases e with e | e;{exact g.rng p o k e};{exact g.rng q t k e}};{exact g.rng r (e_ x) k e}};{rw[wF];intro a b m x u k e c;have M:=yI m;have N:=yI x;rcases d a _ M with⟨O,P⟩ | ⟨O,a',Q,R,A,S⟩<;>rcases d b _ N with⟨C,D⟩ | ⟨C,b',E,F,n,G⟩;{omega};{rw[P]at e;rcases e with e | e;{exact l i b' p _ (Ne.symm E) y n k e c};{exact l j b' q _ (Ne.symm F) z n k e c}};{rw[D]at c;rcases c with c | c;{exact l a' i _ p Q A y k e c};{exact l a' j _ q R A z k e c}};{refine l a' b' _ _ ?_ A n k e c;rw[S,G];split<;>split<;>omega}}
def pB(e:x_)(b:Nat)(l:List v_):Pc:=⟨λk=>k=b,λH=>R_ H b e l,λh hp=>hp.agr h rfl⟩
def B_.box(c:B_ B H0 H ps)(d:b=H.size)(hs:H'.size=b+1)(a:R_ H' b e l)(f:C_ (λk=>k<b) H H'):B_ B H0 H' (ps++[pB e b l]):=by subst d;exact c.add (f.mono λk a=>a) _ a λk a=>by have:k=H.size:=a;omega
def B_.skip(a:B_ B H0 H ps)(c:b=H.size)(d:C_ (λk=>k<b) H H'):B_ B H0 H' ps:=by subst c;exact a.call (d.mono λk e=>e)
def B_.blk(a:B_ B H0 H ps)(i:Nat)(c:ps[i]?=zY (pB e b l)):R_ H b e l:=a.at_ i c
def AZ{t:Nat}{K:Aa->Prop}(c:B_ B H0 H ps)(i:Nat)(m:Cf P t)(d:ps[i]?=zY (pB e b l))(n:o<l.length)(p:v.oneCell'=zW)
  (k:∀H',B_ B H0 H' (ps.set i (pB e b (l.set o v)))->K H'):Dm P (Instr.storeAt t (.pointer (zY ⟨b,o,zV⟩)) v) H K:=by refine tQ m (c.at_ i d) n p ?_;intro H' f g h;exact k H' (c.upd i d (g.mono λk a j=>a.2 j) _ f (λk a=>.inl a) (λk a=>by rw[h];exact(c.in_ i d a).2) zO)
def A9{t:Nat}{K:Aa->Prop}(c:B_ B H0 H ps)(i:Nat)(m:(P.info? t).map (·.size)=zY cs.length)(d:ps[i]?=zY (pB e b l))(n:o+cs.length<=l.length)(p:cs.all (·.oneCell')=zW)
  (k:∀H',B_ B H0 H' (ps.set i (pB e b (Ak l o cs)))->K H'):Dm P (Instr.storeAt t (.pointer (zY ⟨b,o,zV⟩)) (.agg cs.toArray)) H K:=by refine wM m (c.at_ i d) n p ?_;intro H' f g h;exact k H' (c.upd i d (g.mono λk a j=>a.2 j) _ f (λk a=>.inl a) (λk a=>by rw[h];exact(c.in_ i d a).2) zO)
section
variable{α:Type}
def pN(T:Ty α)(S:Nat->Prop)(e:x_)(a:Option Addr)(n cap:Nat)(xs:List α):Pc where
 foot k:=O_ (.slice a n cap) k\/S k
 ok H:=X_ T S H 0 e (.slice a n cap) xs/\∀k,S k->¬O_ (.slice a n cap) k
 fr h hp:=⟨hp.1.agr h (λ_ hb=>.inl hb) (λ_ hb=>.inr hb),hp.2⟩
def none_(_:Nat):Prop:=False
abbrev pS(T:Ty α)(e:x_)(a:Option Addr)(n cap:Nat)(xs:List α):Pc:=pN T none_ e a n cap xs
variable{T:Ty α}{S:Nat->Prop}{e:x_}{a:Option Addr}{n cap:Nat}{xs:List α}{B:Nat->Prop}{H0 H H':Aa}{ps:List Pc}
def X_.hull{lo:Nat}(h:X_ T S H lo e v xs):∃a cap,v= .slice a xs.length cap:=by obtain⟨d,⟨f,c⟩,g⟩:=h;rcases c with⟨rfl,c⟩ | ⟨b,cap,l,rfl,i,j,k,m,n,o⟩;{exact⟨zV,0,by rw[c]⟩};{exact⟨_,_,rfl⟩}
def X_.nlen{lo:Nat}(h:X_ T S H lo e (.slice a n cap) xs):n=xs.length:=by have⟨a',b,e⟩:=h.hull;injection e
def X_.up{lo:Nat}(h:X_ T S H 0 e v xs)(c:∀b,O_ v b->lo<=b):X_ T S H lo e v xs:=by obtain⟨d,⟨f,a⟩,g⟩:=h;refine⟨d,⟨f,?_⟩,g⟩;rcases a with a | ⟨b,cap,l,rfl,r⟩;{exact .inl a};{exact .inr ⟨b,cap,l,rfl,c b ⟨_,_,_,rfl⟩,r.2⟩}
def St.own(c:St H0 H ps)(i:Nat)(d:ps[i]?=zY (pN T S e a n cap xs)):X_ T S H H0.size e (.slice a n cap) xs:=
 (c.at_ i d).1.up λb f=>c.ge i d (.inl f)
def B_.len(b:B_ B H0 H ps)(i:Nat)(c:ps[i]?=zY (pN T S e a n cap xs)):n=xs.length:=(b.at_ i c).1.nlen
def B_.max(b:B_ B H0 H ps)(i:Nat)(c:ps[i]?=zY (pN T S e a n cap xs)):xs.length<=maxLen:=(b.at_ i c).1.len
def B_.adr(d:B_ B H0 H ps)(i:Nat)(f:ps[i]?=zY (pN T S e a n cap xs))(g:0<xs.length):∃b,a=zY ⟨b,0,zV⟩:=by obtain⟨h,⟨j,c⟩,k⟩:=(d.at_ i f).1;rcases c with⟨c,m⟩ | ⟨b,cap,l,c,r⟩;{omega};{injection c with c;exact⟨b,c⟩}
def B_.view(c:B_ B H0 H ps)(i:Nat)(d:ps[i]?=zY (pN T S e a n cap xs)):b_ T (H_ H) H a cap xs:=by obtain⟨a',j,f,h,-⟩:=(c.at_ i d).1.view (S':=H_ H) (λb g=>(c.in_ i d (.inl g)).2) (λb g=>(c.in_ i d (.inr g)).2);injection f with f e2 e3;subst f;subst e3;exact h
def St.viewF(c:St H0 H ps)(i:Nat)(d:ps[i]?=zY (pN T S e a n cap xs)):b_ T (λk=>H0.size<=k/\k<H.size) H a cap xs:=by obtain⟨a',j,g,h,-⟩:=(c.at_ i d).1.view (S':=λk=>H0.size<=k/\k<H.size) (λb f=>⟨c.ge i d (.inl f),(c.in_ i d (.inl f)).2⟩) (λb f=>⟨c.ge i d (.inr f),(c.in_ i d (.inr f)).2⟩);injection g with g e2 e3;subst g;subst e3;exact h
def zK{t by_ j:Nat}{x:α}{d:Int}{S0:Nat->Prop}{H2:Aa}{K:v_->Prop}(m:SlT P t e T.size by_ z)(f:B_ B H0 H ps)(i:Nat)(g:ps[i]?=zY (pN T S e a n cap xs))
  (l:xs[j]?=zY x) (p:d=(j:Int)) (q:∀b o c,H_ H b->Bn H b o c->T.rep (H_ H) H c x->K (.pointer (zY ⟨b,o,zV⟩))):AO P (Instr.indexAt t (.slice a n cap) (.int k d)) S0 H2 K:=by have h:=f.view i g;have v:=f.len i g;obtain⟨b,o,c,rfl,r,s,u⟩:=h.get l;subst p;have w:=(V_.1 l).1;exact ix m zO zO (by simpa using q b _ c r s u)
def IS{t b o j:Nat}{x:α}{K:Aa->Prop}(q:B_ B H0 H ps)(i:Nat)(y:Cf P t)(r:ps[i]?=zY (pN T S t (T_ b) n cap xs))(s:T.size=1)(z:o=j)(A:j<xs.length)
  (C:v.oneCell'=zW) (D:∀H',C_ S H H'->T.rep S H' [v] x) (k:∀H',B_ B H0 H' (ps.set i (pN T S t (T_ b) n cap (xs.set j x)))->K H'):Dm P (Instr.storeAt t (.pointer (zY ⟨b,o,zV⟩)) v) H K:=by subst z;have c:=q.at_ i r;obtain⟨-,-,-,l,f,g,-,a⟩:=c.1.placeS A;rw[s,zG]at g a;refine tQ y f zO C ?_;intro H' u h w;have m:C_ S H H':=h.mono λk d e=>c.2 k d (by subst e;exact⟨0,n,cap,rfl⟩);have p:=a H' [v] x (by rw[LB zO];exact u) m (D H' m);refine k H' (q.upd i r (h.mono λk d e=>d.2 (.inl (by subst e;exact⟨0,n,cap,rfl⟩))) _ ⟨p,c.2⟩ (λk d=>.inl d) (λk d=>by rw[w];exact(q.in_ i r d).2) zO)
def kD{t b o j:Nat}{cs:List v_}{x:α}{K:Aa->Prop}(r:B_ B H0 H ps)(i:Nat)(y:(P.info? t).map (·.size)=zY T.size)(s:ps[i]?=zY (pN T S t (T_ b) n cap xs))(z:o=j*T.size)(A:j<xs.length)
  (C:cs.all (·.oneCell')=zW) (w:∀H',C_ S H H'->T.rep S H' cs x) (k:∀H',B_ B H0 H' (ps.set i (pN T S t (T_ b) n cap (xs.set j x)))->K H'):Dm P (Instr.storeAt t (.pointer (zY ⟨b,o,zV⟩)) (.agg cs.toArray)) H K:=by subst z;have a:=r.at_ i s;have e:=T.len (w H (C_.refl _ _));obtain⟨-,-,-,l,f,g,-,h⟩:=a.1.placeS A;refine wM (by rw[e];exact y) f (by rw[e];exact g) C ?_;intro H' u m v;have p:C_ S H H':=m.mono λk c d=>a.2 k c (by subst d;exact⟨0,n,cap,rfl⟩);have q:=h H' cs x u p (w H' p);refine k H' (r.upd i s (m.mono λk c d=>c.2 (.inl (by subst d;exact⟨0,n,cap,rfl⟩))) _ ⟨q,a.2⟩ (λk c=>.inl c) (λk c=>by rw[v];exact(r.in_ i s c).2) zO)
def B_.new{b:Nat}{l:List v_}(d:B_ B H0 H ps)(f:b=H.size)(hs:H'.size=b+1)(a:R_ H' b e l)(g:C_ (λk=>k<b) H H')(i:T.reps none_ H' l xs)(j:n=xs.length)(m:n<=maxLen):B_ B H0 H' (ps++[pS T e (T_ b) n n xs]):=by subst f;refine d.add (g.mono λk a=>a) _ ⟨X_.ofBlk (q_ _) a i j m,λk a=>a.elim⟩ λk a=>?_;rcases a with⟨o,n',c,h⟩ | h;{cases h;omega};{exact h.elim}
def B_.nils(b:B_ B H0 H ps)(T:Ty α)(e:x_):B_ B H0 H (ps++[pS T e zV 0 0 []]):=
 b.add (C_.refl _ _) _ ⟨X_.nil,λk a=>a.elim⟩ λk a=>by
  rcases a with⟨o,n',c,h⟩ | h
  ·cases h
  ·exact h.elim
def B_.got(c:B_ B H0 H ps)(d:C_ (H_ H) H H')(h:X_ T none_ H' H.size e v xs):∃a cap,v= .slice a xs.length cap/\B_ B H0 H' (ps++[pS T e a xs.length cap xs]):=by obtain⟨a,cap,rfl⟩:=h.hull;refine⟨a,cap,rfl,c.add d _ ⟨h.lower (q_ _),λk b=>b.elim⟩ λk b=>?_⟩;rcases b with b | b;{exact h.lt b};{exact b.elim}
def OA{t ty q o m g by_:Nat}{ys:List α}{ds:List v_}{K:v_->Aa->Prop}(r:B_ B H0 H ps)(i:Nat)(v:SlT P t e T.size by_ z)(s:ps[i]?=zY (pS T e a n cap xs))
  (w:Bn H q o ds) (x:T.reps none_ H ds ys) (y:m=ys.length) (A:∀u∈ds,u.oneCell'=zW) (l:xs.length+ys.length<=34359738368) (hby:by_<=1024)
  (k:∀a' c H',B_ B H0 H' (ps.set i (pS T e a' (xs.length+ys.length) c (xs++ys)))->C_ (λk=>k<H.size/\¬O_ (.slice a n cap) k) H H'->K (.slice a' (xs.length+ys.length) c) H'):
  BV P (Builtin.append_ #[t,t] ty [.slice a n cap,.slice (zY ⟨q,o,zV⟩) m g].toArray) H K:=by refine BU (T:=T) (S:=none_) (lo:=0) v (r.at_ i s).1 (q_ _) (λk b=>b.elim) w x y A (by unfold maxLen;omega) (by have:=vZ l hby;omega) ?_;intro D H' d f p j;obtain⟨a',c,rfl⟩:=d.hull;rw[M_]at d j ⊢;refine k a' c H' (r.upd i s (f.mono λk b=>⟨b.1,λC=>b.2 (.inl C)⟩) _ ⟨d,λk b=>b.elim⟩ (λk b=>?_) (λk b=>?_) p) f;{rcases b with b | b;{rcases j k b with h | h;{exact .inl (.inl h)};{exact .inr h}};{exact b.elim}};{rcases b with b | b;{exact(d.lt b).2};{exact b.elim}}
def GI{t ty q by_:Nat}{x:α}{K:v_->Aa->Prop}(f:B_ B H0 H ps)(i:Nat)(g:SlT P t e T.size by_ z)(h:ps[i]?=zY (pS T e a n cap xs))
  (l:R_ H q e [v]) (m:T.rep none_ H [v] x) (c:v.oneCell'=zW) (d:xs.length+1<=34359738368) (hby:by_<=1024)
  (k:∀a' b H',B_ B H0 H' (ps.set i (pS T e a' (xs.length+1) b (xs++[x])))->C_ (λk=>k<H.size/\¬O_ (.slice a n cap) k) H H'->K (.slice a' (xs.length+1) b) H'):
  BV P (Builtin.append_ #[t,t] ty [.slice a n cap,.slice (T_ q) 1 1].toArray) H K:=
 OA (ys:=[x]) f i g h (l.cells (λj v c=>by simpa using c)) (Ty.reps_one m) rfl (λu o=>by cases g_.1 o;exact c) (by simpa using d) hby k
end
section
variable{α:Type}{T:Ty α}{B:Nat->Prop}{H0 H H1:Aa}{ps:List Pc}{e te:x_}{nb:Nat}{vs:List v_}{xs:List (List α)}
def Tab.hold{S':Nat->Prop}{lo:Nat}(h:Tab T none_ H lo e nb te vs xs)(k:C_ S' H H1)(f:S' nb)(a:∀(i:Nat) (v:v_),vs[i]?=zY v->∀j,O_ v j->S' j):Tab T none_ H1 lo e nb te vs xs:=
 ⟨h.len,h.blk.agr k f,h.nlo,λi v x d g=>(h.own i v x d g).agr k (λb c=>a i v d b c) (λb a=>a.elim),h.apart⟩
def pT(T:Ty α)(e te:x_)(nb:Nat)(vs:List v_)(xs:List (List α)):Pc where
 foot k:=k=nb\/∃(i:Nat) (v:v_),vs[i]?=zY v/\O_ v k
 ok H:=Tab T none_ H (nb+1) e nb te vs xs
 fr h hp:=hp.hold h (.inl rfl) λi v hv j hj=>.inr ⟨i,v,hv,hj⟩
def B_.tab(a:B_ B H0 H ps)(i:Nat)(b:ps[i]?=zY (pT T e te nb vs xs)):Tab T none_ H (nb+1) e nb te vs xs:=a.at_ i b
def B_.tabNew{n:Nat}(d:B_ B H0 H ps)(T:Ty α)(e:x_)(f:nb=H.size)(hs:H1.size=nb+1)(a:R_ H1 nb te (Ai4 n (.slice zV 0 0)))(g:C_ (λk=>k<nb) H H1):B_ B H0 H1 (ps++[pT T e te nb (Ai4 n (.slice zV 0 0)) (Ai4 n [])]):=by subst f;refine d.add (g.mono λk a=>a) _ (Tab.new a (Nat.lt_succ_self _)) λk a=>?_;rcases a with rfl | ⟨i,v,b,a⟩;{omega};{rw[vK]at b;split at b;{cases b;have⟨o,n,c,h⟩:=a;cases h};{cases b}}
def B_.row(h:B_ B H0 H ps)(i:Nat)(j:ps[i]?=zY (pT T e te nb vs xs)){t:Nat}{x:List α}(g:xs[t]?=zY x):∃a cap,vs[t]?=zY (.slice a x.length cap)/\b_ T (H_ H) H a cap x:=by have tab:=h.tab i j;have k:=(V_.1 g).1;have⟨v,o,l,d,c⟩:=tab.get k;rw[g]at d;cases d;obtain⟨a,cap,rfl,m,-⟩:=c.view (S':=H_ H) (λb n=>(c.lt n).2) (λ_ f=>f.elim);exact⟨a,cap,l,m⟩
def B_.tcell(a:B_ B H0 H ps)(i:Nat)(b:ps[i]?=zY (pT T e te nb vs xs)){t o:Nat}{v:v_}(c:vs[t]?=zY v)(d:o=t):YtfbghcpdinlmcaaGreatDoor.cell H nb o=zY v:=by subst d;rw[(a.tab i b).blk.cell];exact c
structure Mid(T:Ty α)(B:Nat->Prop)(H0 H H1:Aa)(ps:List Pc)(i:Nat)(e te:x_)(nb:Nat)(vs:List v_)(xs:List (List α))(t:Nat)(v':v_)(x':List α):Prop where
 st:B_ B H0 H ps
 hp:ps[i]?=zY (pT T e te nb vs xs)
 own:X_ T none_ H1 (nb+1) e v' x'
 ex:∃v,vs[t]?=zY v/\C_ (λk=>k<H.size/\¬O_ v k) H H1/\∀k,O_ v' k->O_ v k\/H.size<=k
 le:H.size<=H1.size
def mW{l ty q by_ t:Nat}{z w:v_}{n cap:Nat}{x:List α}{y:α}{K:v_->Aa->Prop}(p:B_ B H0 H ps)(i:Nat)(s:SlT P l e T.size by_ z)(r:ps[i]?=zY (pT T e te nb vs xs))(h:vs[t]?=zY (.slice a n cap))(A:xs[t]?=zY x)
  (C:R_ H q e [w]) (D:T.rep none_ H [w] y) (E:w.oneCell'=zW) (m:x.length+1<=34359738368) (hby:by_<=1024)
  (k:∀a' c H1,Mid T B H0 H H1 ps i e te nb vs xs t (.slice a' (x.length+1) c) (x++[y])->K (.slice a' (x.length+1) c) H1):BV P (Builtin.append_ #[l,l] ty [.slice a n cap,.slice (T_ q) 1 1].toArray) H K:=by have tab:=p.tab i r;have d:=tab.own t _ _ h A;refine BU (T:=T) (S:=none_) (lo:=nb+1) (ys:=[y]) s d tab.blk.lt (λk F=>F.elim) (C.cells (λj v h=>by simpa using h)) (Ty.reps_one D) rfl (λu G=>by cases g_.1 G;exact E) (by unfold maxLen;simp only[i_];omega) (by have:=vZ m hby;simp only[i_];omega) ?_;intro I H1 b f o g;obtain⟨a',c,rfl⟩:=b.hull;rw[M_,i_]at b g ⊢;exact k a' c H1 ⟨p,r,b,⟨_,h,f,g⟩,o⟩
def oW{i t o:Nat}{g:v_}{x':List α}{K:Aa->Prop}(m:Mid T B H0 H H1 ps i e te nb vs xs t g x')(F:Cf P te)(G:o=t)
  (k:∀H2,B_ B H0 H2 (ps.set i (pT T e te nb (vs.set t g) (xs.set t x')))->K H2):Dm P (Instr.storeAt te (.pointer (zY ⟨nb,o,zV⟩)) g) H1 K:=by
 subst G;have⟨v,l,c,n⟩:=m.ex;have D:=m.st;have tab:=D.tab i m.hp;have f:o<vs.length:=(V_.1 l).1;have s:o<xs.length:=by rw[<-tab.len];exact f
 obtain⟨x,I⟩:∃x,xs[o]?=zY x:=⟨xs[o],yI s⟩;have u:=tab.own o v x l I;have y:¬O_ v nb:=λh=>by have:=(u.lt h).1;omega
 have p:=tab.blk.agr c ⟨tab.blk.lt,y⟩;refine tQ F p f m.own.one ?_;intro H2 z q J;have b:Tab T none_ H2 (nb+1) e nb te (vs.set o g) (xs.set o x'):=tab.push l m.own c n z q (λk a=>a.elim);have L:=m.le;have r:∀(j:Nat) (w:v_),(vs.set o g)[j]?=zY w->∀k,O_ w k->k<H2.size:=λj w d k a=>by{have A:=(V_.1 d).1;have:j<(xs.set o x').length:=by{rw[<-b.len];exact A};exact((b.own j w _ d (yI this)).lt a).2};refine k H2 (D.upd i m.hp (H':=H2) ?_ _ b ?_ ?_ zO);{exact(c.mono λk a=>⟨a.1,λM=>a.2 (.inr ⟨o,v,l,M⟩)⟩).trans (q.mono λk a C=>a.2 (.inl C))};{intro k a;rcases a with rfl | ⟨j,w,d,a⟩;{exact .inl (.inl rfl)};{by_cases E:o=j;{subst E;rw[yP f]at d;cases d;rcases n k a with h | h;{exact .inl (.inr ⟨o,v,l,h⟩)};{exact .inr h}};{rw[xC E]at d;exact .inl (.inr ⟨j,w,d,a⟩)}}};{intro k a;rcases a with rfl | ⟨j,w,d,a⟩;{exact b.blk.lt};{exact r j w d k a}}
def B_.tview(a:B_ B H0 H ps)(i:Nat)(b:ps[i]?=zY (pT T e te nb vs xs))(c:xs.length<=maxLen):b_ (zC T) (H_ H) H (T_ nb) xs.length xs:=
 (a.tab i b).view rfl c (λk _ d=>d) (λ_ f=>f.elim)
end
def jV{c:Array x_}{a b:Int}(h:K (.int k (if b<a then b else a))):AO P (Builtin.min_ c t [.int k a,.int d b].toArray) S H K:=by refine AO.mk _ (λw _=>?_) h;simp[Builtin.min_,Builtin.min2]
def QZ{c:Array x_}{a b:Int}(h:K (.int k (if a<b then b else a))):AO P (Builtin.max_ c t [.int k a,.int d b].toArray) S H K:=by refine AO.mk _ (λw _=>?_) h;simp[Builtin.max_,Builtin.max2]
def AhW(n:Nat):IntKind.wrap .u64 (n:Int)=((n % 18446744073709551616:Nat):Int):=by unfold IntKind.wrap;simp only[IntKind.bits,IntKind.signed,wZ,uH,if_false,Am6,AkW];omega
def Na{x y:Nat}(h:x+y<18446744073709551616):IntKind.wrap .u64 ((x:Int)+(y:Int))=((x+y:Nat):Int):=by rw[<-Int.natCast_add,AhW,vV h]
def AhV(h:n<9223372036854775808):IntKind.wrap .i64 (n:Int)=(n:Int):=yE zO zO
def I8{a c x y:Nat}(b:a<256)(d:c<256):(a+256*x) &&& (c+256*y)=(a &&& c)+256*(x &&& y):=by
 have e:((a+256*x) &&& (c+256*y)) % 2^8=(a &&& c):=by rw[Nat.and_mod_two_pow,show(a+256*x) % 2^8=a by omega,show(c+256*y) % 2^8=c by omega]
 have f:((a+256*x) &&& (c+256*y)) / 2^8=(x &&& y):=by rw[Nat.and_div_two_pow,show(a+256*x) / 2^8=x by omega,show(c+256*y) / 2^8=y by omega]
 omega
def uP(c:Nat):Nat->Nat
 | 0=>0
 | m+1=>c+256*uP c m
def RT(c m:Nat):uP c (m+1)=c+256*uP c m:=rfl
def vS(m w:Nat):Nat:=((w / 2) &&& uP 85 m)+(w &&& uP 85 m)
def vT(m w:Nat):Nat:=((w / 4) &&& uP 51 m)+(w &&& uP 51 m)
def tC(m w:Nat):Nat:=(w / 16+w) &&& uP 15 m
def rU(a:Nat):Nat:=((AjH 8).filter λj=>a.testBit j).length
def JE(m w:Nat):Nat:=((AjH m).filter λj=>w.testBit j).length
def g1(a:Nat):Nat:=((a / 2) &&& 85)+(a &&& 85)
def g2(a:Nat):Nat:=((a / 4) &&& 51)+(a &&& 51)
def jF:∀a,a<256->g1 a<256:=by decide+kernel
def AiW:∀a,a<256->∀r,r<2->((a / 2+128*r) &&& 85)=((a / 2) &&& 85):=by decide+kernel
def AiX:∀a,a<256->∀r,r<4->((a / 4+64*r) &&& 51)=((a / 4) &&& 51):=by decide+kernel
def jG:∀a,a<256->g2 a<256/\(g2 (g1 a)) % 16<=4/\g2 (g1 a) / 16<=4:=by decide+kernel
def AiY:∀a,a<256->∀r,r<5->((g2 (g1 a) / 16+16*r+g2 (g1 a)) &&& 15)=rU a:=by decide+kernel
def Kg:∀a,a<256->rU a<=8:=by decide+kernel
def QQ{a:Nat}(c:a<256):vS (m+1) (a+256*b)=g1 a+256*vS m b:=by unfold vS;rw[RT];have e:(a+256*b) / 2=(a / 2+128*(b % 2))+256*(b / 2):=zO;rw[e,I8 zO zQ,I8 c zQ,AiW a c _ zO];unfold g1;omega
def QR{a:Nat}(c:a<256):vT (m+1) (a+256*b)=g2 a+256*vT m b:=by unfold vT;rw[RT];have e:(a+256*b) / 4=(a / 4+64*(b % 4))+256*(b / 4):=zO;rw[e,I8 zO zQ,I8 c zQ,AiX a c _ zO];unfold g2;omega
def AhJ(m b:Nat)(a:b<256^m):vT m (vS m b) % 16<=4:=by cases m with|zero=>obtain rfl:b=0:=by{simp at a;omega};decide|succ m=>have e:b=b % 256+256*(b / 256):=zO;rw[e,QQ zO,QR (jF _ zO)];have:=(jG (b % 256) zO).2.1;omega
def fH{a:Nat}(c:a<256)(d:b<256^m):tC (m+1) (vT (m+1) (vS (m+1) (a+256*b)))=rU a+256*tC m (vT m (vS m b)):=by rw[QQ c,QR (jF a c)];have f:=AhJ m b d;have g:=jG a c;generalize vT m (vS m b)=x at*;unfold tC;rw[RT];have e:(g2 (g1 a)+256*x) / 16+(g2 (g1 a)+256*x)=(g2 (g1 a) / 16+16*(x % 16)+g2 (g1 a))+256*(x / 16+x):=zO;rw[e,I8 zO zQ,AiY a c _ zO]
def Vy(m w:Nat):JE (8+m) w=rU (w % 256)+JE m (w / 256):=by unfold JE rU;rw[nV,vM,M_,iO,k_];congr 1;{congr 1;refine pY λj a=>?_;rw[yG]at a;rw[show(256:Nat)=2^8 from rfl,iD];simp[a]};{congr 1;refine pY λj _=>?_;simp only[Function.comp];rw[show(256:Nat)=2^8 from rfl,iE,Nat.add_comm]}
def p8(w i:Nat):Nat:=rU (w / 256^i % 256)
def AhI(w:Nat)(d:w<18446744073709551616):tC 8 (vT 8 (vS 8 w))=p8 w 0+256*(p8 w 1+256*(p8 w 2+256*(p8 w 3+256*(p8 w 4+256*(p8 w 5+256*(p8 w 6+256*p8 w 7))))))/\
  JE 64 w=p8 w 0+(p8 w 1+(p8 w 2+(p8 w 3+(p8 w 4+(p8 w 5+(p8 w 6+p8 w 7)))))):=by have a:∀(m w i:Nat),w / 256^i<256^(m+1)->tC (m+1) (vT (m+1) (vS (m+1) (w / 256^i)))=p8 w i+256*tC m (vT m (vS m (w / 256^(i+1)))):=by{intro m w i h;have e:w / 256^i=w / 256^i % 256+256*(w / 256^(i+1)):=by{rw[sN,<-nX];omega};have g:w / 256^(i+1)<256^m:=by{rw[sN,<-nX,iF zQ];rw[sN]at h;exact h};(conv=>lhs;rw[e]);rw[fH zO g];rfl};have b:∀(m i:Nat),JE (8+m) (w / 256^i)=p8 w i+JE m (w / 256^(i+1)):=by{intro m i;rw[Vy,sN,<-nX];rfl};have f:w=w / 256^0:=zZ;have j:tC 0 (vT 0 (vS 0 (w / 256^8)))=0:=by{rw[Nat.div_eq_of_lt (by simpa using d)];decide};have c:∀i,i<=8->w / 256^i<256^(8-i):=by{intro i k;rw[iF (Nat.pow_pos zQ),<-Nat.pow_add,(zO:8-i+i=8)];simpa using d};constructor;{(conv=>lhs;rw[f]);rw[a 7 w 0 (c 0 zO),a 6 w 1 (c 1 zO),a 5 w 2 (c 2 zO),a 4 w 3 (c 3 zO),a 3 w 4 (c 4 zO),a 2 w 5 (c 5 zO),a 1 w 6 (c 6 zO),a 0 w 7 (c 7 zO),j];omega};{(conv=>lhs;rw[f]);rw[show(64:Nat)=8+56 from rfl,b 56 0,show(56:Nat)=8+48 from rfl,b 48 1,show(48:Nat)=8+40 from rfl,b 40 2,show(40:Nat)=8+32 from rfl,b 32 3,show(32:Nat)=8+24 from rfl,b 24 4,show(24:Nat)=8+16 from rfl,b 16 5,show(16:Nat)=8+8 from rfl,b 8 6,show(8:Nat)=8+0 from rfl,b 0 7];rfl}
def Ah2(w:Nat)(v:w<18446744073709551616)(H:Aa):BZ prog 209 #[.int .u64 (w:Int)] H (.int .i64 (JE 64 w:Int)):=by
 have⟨hs,F⟩:=AhI w v;have G:=Kg (w / 256^0 % 256) zO;have I:=Kg (w / 256^1 % 256) zO;have J:=Kg (w / 256^2 % 256) zO;have K:=Kg (w / 256^3 % 256) zO;have L:=Kg (w / 256^4 % 256) zO;have M:=Kg (w / 256^5 % 256) zO;have N:=Kg (w / 256^6 % 256) zO;have O:=Kg (w / 256^7 % 256) zO;change p8 w 0<=8 at G;change p8 w 1<=8 at I;change p8 w 2<=8 at J;change p8 w 3<=8 at K;change p8 w 4<=8 at L;change p8 w 5<=8 at M;change p8 w 6<=8 at N;change p8 w 7<=8 at O;have P:uP 85 8=6148914691236517205:=zQ;have Q:uP 51 8=3689348814741910323:=zQ;have R:uP 15 8=1085102592571150095:=zQ;have A:zI .u64 ((6148914691236517205:Nat):Int):=JY zQ;have B:zI .u64 ((3689348814741910323:Nat):Int):=JY zQ;have S:zI .u64 ((1085102592571150095:Nat):Int):=JY zQ;refine Aj.of_vc func209 rfl (call209 _) ?_;have r:((w / 2^1) &&& 6148914691236517205)+(w &&& 6148914691236517205)<18446744073709551616:=by{have:=sO (n:=w / 2^1) (m:=6148914691236517205);have:=sO (n:=w) (m:=6148914691236517205);omega};refine PQ (a:=w) (b:=1) zQ (Mw (a:=w / 2^1) (b:=6148914691236517205) (JY zO) A (Mw (a:=w) (b:=6148914691236517205) (JY v) A ?_));(conv=>whnf);rw[Na r];have T:((w / 2^1) &&& 6148914691236517205)+(w &&& 6148914691236517205)=vS 8 w:=by unfold vS;rw[P]
 rw[T]at r ⊢;generalize vS 8 w=c at*;have C:((c / 2^2) &&& 3689348814741910323)+(c &&& 3689348814741910323)<18446744073709551616:=by{have:=sO (n:=c / 2^2) (m:=3689348814741910323);have:=sO (n:=c) (m:=3689348814741910323);omega};refine PQ (a:=c) (b:=2) zQ (Mw (a:=c / 2^2) (b:=3689348814741910323) (JY zO) B (Mw (a:=c) (b:=3689348814741910323) (JY r) B ?_));(conv=>whnf);rw[Na C];have e2:((c / 2^2) &&& 3689348814741910323)+(c &&& 3689348814741910323)=vT 8 c:=by unfold vT;rw[Q]
 have s:((c / 2^2) &&& 3689348814741910323)+(c &&& 3689348814741910323)<=7378697629483820646:=by{have:=sO (n:=c / 2^2) (m:=3689348814741910323);have:=sO (n:=c) (m:=3689348814741910323);omega};rw[e2]at C s ⊢;generalize vT 8 c=e at*;refine PQ (a:=e) (b:=4) zQ ?_;(conv=>whnf);rw[Na (x:=e / 2^4) (y:=e) zO];refine Mw (a:=e / 2^4+e) (b:=1085102592571150095) (JY zO) S ?_;have U:((e / 2^4+e) &&& 1085102592571150095)=tC 8 e:=by unfold tC;rw[R]
 rw[U];generalize tC 8 e=d at*;generalize p8 w 0=W at*;generalize p8 w 1=V at*;generalize p8 w 2=D at*;generalize p8 w 3=t at*;generalize p8 w 4=p at*;generalize p8 w 5=k at*;generalize p8 w 6=h at*;generalize p8 w 7=f at*;have X:d<1152921504606846976:=zO;refine PQ (a:=d) (b:=8) zQ ?_;(conv=>whnf);rw[Na (x:=d) (y:=d / 2^8) zO];refine PQ (a:=d+d / 2^8) (b:=16) zQ ?_;(conv=>whnf);rw[Na (x:=d+d / 2^8) (y:=(d+d / 2^8) / 2^16) zO];obtain⟨y,g⟩:∃y,y=d+d / 2^8:=⟨_,rfl⟩;rw[<-g];obtain⟨z,i⟩:∃z,z=y+y / 2^16:=⟨_,rfl⟩;rw[<-i];refine PQ (a:=z) (b:=32) zQ ?_;(conv=>whnf);rw[Na (x:=z) (y:=z / 2^32) zO];obtain⟨u,l⟩:∃u,u=z+z / 2^32:=⟨_,rfl⟩;rw[<-l];(conv=>whnf);rw[AhV (n:=u) zO];refine Mw (a:=u) (b:=127) (BK zO) (BK zQ) ?_;(conv=>whnf);have o:(u &&& 127)=JE 64 w:=by{rw[show(127:Nat)=2^7-1 by decide,mF,F];have j:d / 2^8=V+256*(D+256*(t+256*(p+256*(k+256*(h+256*f))))):=zO;have q:y / 2^16=(D+t)+256*((t+p)+256*((p+k)+256*((k+h)+256*((h+f)+256*f)))):=by{rw[g,j,hs];clear l i g j hs;omega};have E:z / 2^32=(p+k+h+f)+256*((k+h+f)+256*((h+f)+256*f)):=by{rw[i,q,g,j,hs];clear l i g j q hs;omega};rw[l,E,i,q,g,j,hs];clear l i g j q E hs;omega};rw[o];exact⟨rfl,C_.refl _ _⟩
def DX(s:BitVec 256):Nat:=((AjH 256).filter λb=>s.getLsbD b).length
def Td(s:BitVec 256):DX s=JE 64 (wd s 0)+(JE 64 (wd s 1)+(JE 64 (wd s 2)+JE 64 (wd s 3))):=by have one:∀i m,((AjH (64+m)).filter λj=>s.getLsbD (64*i+j)).length=JE 64 (wd s i)+((AjH m).filter λj=>s.getLsbD (64*(i+1)+j)).length:=by{intro i m;rw[nV,vM,M_,iO,k_];congr 1;{unfold JE;congr 1;refine pY λj a=>?_;rw[yG]at a;rw[FE s i j a]};{congr 1;refine pY λj _=>?_;simp only[Function.comp];rw[(zO:64*i+(64+j)=64*(i+1)+j)]}};have b:DX s=((AjH (64+192)).filter λj=>s.getLsbD (64*0+j)).length:=by{unfold DX;simp only[Nat.mul_zero,K_,Nat.reduceAdd]};rw[b,one 0 192,show(192:Nat)=64+128 from rfl,one 1 128,show(128:Nat)=64+64 from rfl,one 2 64,show(64:Nat)=64+0 from rfl,one 3 0];first | done | rfl
def WP(m w:Nat):JE m w<=m:=by unfold JE;exact yV (uG _ _) zZ
def Lm(s:BitVec 256):Nat->Nat
 | 0=>0
 | i+1=>Lm s i+JE 64 (wd s i)
def Qm(s:BitVec 256):∀i,Lm s i<=64*i
 | 0=>N_ _
 | i+1=>by have:=Qm s i;have:=WP 64 (wd s i);simp only[Lm];omega
def Ak4(s:BitVec 256)(H:Aa):BZ prog 186 #[BL s] H (.int .i64 (DX s:Int)):=by
 refine Aj.of_vc func186 rfl (call186 _) (Cd (Ah s) rfl ?_);intro pb H1 l m c d;have e:C_ (H_ H) H H1:=d.mono λj n=>by unfold H_ at n;omega
 refine L_ (cs:=Ah s) Bh (c.cells λj v o=>by rw[K_];exact o) zA ?_;(conv=>whnf);refine Ay.mk [3,7] (λi:Nat=>[A_ (Lm s i:Int),A_ i]) (λi H2=>i<=4/\C_ (H_ H) H H2) (λi _=>4-i) ?_ ?_;{(conv=>whnf);exact⟨0,rfl,zO,e⟩};{rintro i H2 g ⟨t,a⟩;refine AD.m2 (λh=>?_) (λh=>?_);{have b:(Ah s)[i]?=zY (.int .u64 (wd s i)):=by{have:i=0\/i=1\/i=2\/i=3:=zO;rcases this with rfl | rfl | rfl | rfl<;>rfl};have p:=Qm s i;have q:=WP 64 (wd s i);refine lC (v:=.int .u64 (wd s i)) CB FP zO zO (by rw[zB,zG];simpa using b) ?_;refine Al (Ah2 (wd s i) (Kz s i) H2) λH3 f=>?_;(conv=>whnf);rw[U_ (x:=(Lm s i:Int)+(JE 64 (wd s i):Int)) zO];(conv=>whnf);rw[Q_ i zO];exact⟨rfl,i+1,by simp[Lm],⟨zO,a.trans (f.mono λk r=>Af a r)⟩,zO⟩};{obtain rfl:i=4:=zO;(conv=>whnf);refine⟨?_,a⟩;rw[Td];simp only[Lm];congr 2;omega}}
def Bu(s:BitVec 256)(n:Nat):Nat×Bool:=match(AjH 256).find? λb=>zT (n<=b)&&s.getLsbD b with
 | some b=>(b,zW)
 | none=>(0,zU)
def Et(s:BitVec 256)(n:Nat):(Bu s n).1<256:=by unfold Bu;split;{rename_i b h;have:=List.mem_of_find?_eq_some h;simpa using this};{decide}
def RU(s:BitVec 256)(n:Nat)(z:n<=256)(H:Aa):BZ prog 67 #[BL s,A_ n] H (.tuple #[.int .u8 ((Bu s n).1:Int),.bool (Bu s n).2]):=by refine Aj.of_vc func67 rfl (call67 _) (Cd (Ah s) rfl ?_);intro pb H1 f g i l;have J_:=(St.nil H).box f g i l;refine QZ ?_;rw[G_ zO];(conv=>whnf);refine Ay.mk [4,5,6] (λk:Nat=>[.int .u8 0,.bool zU,A_ k]) (λk H2=>n<=k/\k<=256/\(∀j,n<=j->j<k->s.getLsbD j=zU)/\St H H2 [pB 101 pb (Ah s)]) (λk _=>256-k) ?_ ?_;{(conv=>whnf);exact⟨n,rfl,N_ _,z,λj u A=>zO,J_⟩};{rintro k H2 w ⟨m,C,c,o⟩;refine AD.m2 (λh=>?_) (λh=>?_);{have d:k<256:=zO;refine L_ (cs:=Ah s) Bh ((o.blk 0 rfl).cells λj v B=>by rw[K_];exact B) zA ?_;(conv=>whnf);rw[w8 (x:=(k:Int)) zO zO];refine Al (Z8 s k d H2) λH3 p=>?_;have e:=o.call p;cases y:s.getLsbD k with|true=>{(conv=>whnf);rw[w8 (x:=(k:Int)) zO zO];(conv=>whnf);have q:((AjH 256).find? λb=>zT (n<=b)&&s.getLsbD b)=zY k:=by{rw[List.find?_range_eq_some];refine⟨by simp[m,y],by simpa using d,λj r=>?_⟩;by_cases a:n<=j;{simp[c j a r]};{simp[a]}};refine⟨?_,e.old⟩;unfold Bu;rw[q];first | done | rfl}|false=>(conv=>whnf);rw[Q_ k zO];refine⟨rfl,k+1,zZ,⟨zO,zO,λj u A=>?_,e⟩,zO⟩;by_cases t:j=k;{subst t;exact y};{exact c j u zO}};{obtain rfl:k=256:=zO;(conv=>whnf);have q:((AjH 256).find? λb=>zT (n<=b)&&s.getLsbD b)=zV:=by{rw[List.find?_range_eq_none];intro j r;by_cases a:n<=j;{simp[c j a (by simpa using r)]};{simp[a]}};refine⟨?_,o.old⟩;unfold Bu;rw[q];first | done | rfl}}
def EH(all:BitVec 256):List (BitVec 256)->Option (BitVec 256)
 | []=>zY all
 | c::cs=>if all &&& c=0#256 then EH (all ||| c) cs else zV
def La(all:BitVec 256)(cs ds:List (BitVec 256)):EH all (cs++ds)=(EH all cs).bind λx=>EH x ds:=by induction cs generalizing all with|nil=>rfl|cons c cs a=>simp only[List.cons_append,EH];split;{exact a _};{rfl}
def Nl{all:BitVec 256}{cs:List (BitVec 256)}{x c:BitVec 256}(h:EH all cs=zY x):EH all (cs++[c])=if x &&& c=0#256 then zY (x ||| c)else zV:=by rw[La,h];rfl
def IQ(n m:Nat)(row:List Int):Bool:=row.length==m&&row.all λq=>zT (0<=q)&&zT (q<(n:Int))
def BN(cells:List (BitVec 256))(next:List (List Int))(fl:Nat):Bool:=
 match EH 0#256 cells with
 | none=>zU
 | some all=>all==AmV 256&&zT (1<=next.length)&&zT (next.length<=65536)&&next.length==fl&&next.all (IQ next.length cells.length)
section
variable{α:Type}{l:List α}{k:Nat}
def Ac{x:α}(h:l[k]?=zY x):l.take (k+1)=l.take k++[x]:=by rw[List.take_add_one,h];rfl
def Ab(h:k<l.length):∃x,l[k]?=zY x:=⟨l[k],yI h⟩
end
def FK(next:List (List Int))(c d:Nat):Bool:=c==d|| next.all λrow=>row[c]?==row[d]?
def Ba(cells:List (BitVec 256))(b:Nat):Nat:=cells.findIdx λc=>c.getLsbD b
structure MS where
 cols:List Nat
 sets:List (BitVec 256)
 cell:List Nat
def Mc(next:List (List Int))(cols:List Nat)(f:Nat):Option Nat:=cols.findIdx? λc=>FK next c f
def I1(next:List (List Int))(cols:List Nat)(sets:List (BitVec 256))(f:Nat):List Nat×List (BitVec 256)×Nat:=
 match Mc next cols f with
 | some i=>(cols,sets,i)
 | none=>(cols++[f],sets++[0#256],cols.length)
def Pf(next:List (List Int))(cells:List (BitVec 256))(st:MS)(b:Nat)(s:BitVec 256):MS:=
 let r:=I1 next st.cols st.sets (Ba cells b)
 ⟨r.1,r.2.1.set r.2.2 (r.2.1.getD r.2.2 0#256 ||| s),st.cell++[r.2.2]⟩
def Bt(next:List (List Int))(cells:List (BitVec 256))(sp:Nat->BitVec 256):Nat->MS
 | 0=>⟨[],[],[]⟩
 | b+1=>Pf next cells (Bt next cells sp b) b (sp b)
def JQ{all:BitVec 256}{cs:List (BitVec 256)}{x:BitVec 256}(h:EH all cs=zY x)(b:Nat):x.getLsbD b=(all.getLsbD b|| cs.any λc=>c.getLsbD b):=by induction cs generalizing all with|nil=>simp only[EH,Option.some.injEq]at h;subst h;simp|cons c cs a=>simp only[EH]at h;split at h;{rw[a h,rF,List.any_cons,Bool.or_assoc]};{cases h}
section
variable{cells:List (BitVec 256)}
def BQ{next:List (List Int)}{fl:Nat}(h:BN cells next fl=zW)(g:b<256):Ba cells b<cells.length/\∀c,cells[Ba cells b]?=zY c->c.getLsbD b=zW:=by unfold BN at h;split at h;{cases h};{rename_i i a;simp only[O',beq_iff_eq]at h;have d:=JQ a b;rw[h.1.1.1.1,tV]at d;simp only[g,decide_true,BitVec.getLsbD_zero,Bool.false_or]at d;have e:Ba cells b<cells.length:=List.findIdx_lt_length.2 (by simpa using(oF.1 d.symm));refine⟨e,λc f=>?_⟩;have:=List.findIdx_getElem (w:=e);rw[yI e]at f;cases f;exact this}
def KX{k:Nat}{c:BitVec 256}(e:k<Ba cells b)(a:cells[k]?=zY c):c.getLsbD b=zU:=by have:=List.not_of_lt_findIdx e;have d:=(V_.1 a).1;rw[yI d]at a;cases a;simpa using this
def E0{next:List (List Int)}{fl:Nat}(h:BN cells next fl=zW):1<=next.length/\next.length<=65536/\next.length=fl/\∀row∈next,row.length=cells.length/\∀q∈row,0<=q/\q<(next.length:Int):=by unfold BN at h;split at h;{cases h};{simp only[O',beq_iff_eq,yD,zM,IQ]at h;exact⟨h.1.1.1.2,h.1.1.2,h.1.2,λrow a=>⟨(h.2 row a).1,λq b=>(h.2 row a).2 q b⟩⟩}
end
structure MOk(m b:Nat)(st:MS):Prop where
 len:st.cols.length=st.sets.length
 le:st.cols.length<=b
 cell:st.cell.length=b
 cols:∀c∈st.cols,c<m
 places:∀p∈st.cell,p<st.cols.length
def RO{next:List (List Int)}{a:List Nat}{sets:List (BitVec 256)}{f:Nat}(e:a.length=sets.length)(g:a.length<=b)(j:∀c∈a,c<m)(n:f<m):
  (I1 next a sets f).1.length=(I1 next a sets f).2.1.length/\(I1 next a sets f).1.length<=b+1/\(∀c∈(I1 next a sets f).1,c<m)/\(I1 next a sets f).2.2<(I1 next a sets f).1.length/\a.length<=(I1 next a sets f).1.length:=by unfold I1;split;{rename_i i k;have d:i<a.length:=by{have:=List.findIdx?_eq_some_iff_findIdx_eq.1 k;exact this.1};exact⟨e,Nat.le_succ_of_le g,j,d,N_ _⟩};{refine⟨by simp[e],by simpa using g,?_,zZ,zZ⟩;intro c l;rcases X'.1 l with h | h;{exact j c h};{rw[g_]at h;omega}}
def Hd{next:List (List Int)}{cells:List (BitVec 256)}{sp:Nat->BitVec 256}(e:∀b,b<256->Ba cells b<cells.length):∀b,b<=256->MOk cells.length b (Bt next cells sp b)
 | 0,_=>⟨rfl,N_ _,rfl,(λc h=>by cases h),(λp h=>by cases h)⟩
 | b+1,hb=>by
   have a:=Hd (next:=next) (sp:=sp) e b zO;have h:=RO (next:=next) a.len a.le a.cols (e b zO);unfold Bt Pf;refine⟨?_,h.2.1,?_,h.2.2.1,?_⟩
   ·simp only[yF];exact h.1
   ·simp[a.cell]
   ·intro p d;simp only[X',g_]at d;rcases d with d | rfl
    ·exact vN (a.places p d) h.2.2.2.2
    ·exact h.2.2.2.1
structure MapT(P:w_)(t kt et:x_)(d:TypeDesc)(z:v_):Prop where
 under:P.underlying t=zY (.map kt et)
 key:P.underlying kt=zY d
 zero:(P.info? et).bind (·.zero)=zY z
structure Ag0(d:TypeDesc){α:Type}(enc:α->v_):Prop where
 isKey:∀a,Go.MapKept.IsKey d (enc a)
 inj:∀a b,enc a=enc b->a=b
def Zab:Ag0 .string Value.string:=⟨λ_=>trivial,λa b h=>by cases h;rfl⟩
def lD(k:IntKind):Ag0 (.int k) (Value.int k):=⟨λ_=>rfl,λa b h=>by cases h;rfl⟩
def S5{α:Type}(enc:α->v_)(H:Aa)(b:Nat)(m:α->Option v_):Prop:=
 ∃es clock,H[b]?=zY (.map es clock)/\Go.MapKept.Stamped es clock/\(∀(i:Nat) (x:MapEntry),es[i]?=zY x->∃a,x.key=enc a/\m a=zY x.val)/\
  ∀a v,m a=zY v->∃(i:Nat) (x:MapEntry),es[i]?=zY x/\x.key=enc a/\x.val=v
def S5.agr{α:Type}{enc:α->v_}{m:α->Option v_}(h:S5 enc H b m)(k:C_ S H H')(c:S b):S5 enc H' b m:=by have⟨d,a,e,f⟩:=h;exact⟨d,a,(k b c).trans e,f⟩
def Yy{α:Type}(enc:α->v_)(H:Aa)(b:Nat)(a:α)(s:Nat):Prop:=
 ∃es clock,H[b]?=zY (.map es clock)/\∀(i:Nat) (x:MapEntry),es[i]?=zY x->(x.born=s↔x.key=enc a)
open Classical in
noncomputable def put{α:Type}(m:α->Option v_)(a:α)(v:Option v_):α->Option v_:=λb=>if b=a then v else m b
def Kj{α:Type}(m:α->Option v_)(a:α)(v:Option v_):put m a v a=v:=I_ rfl
def ML{α:Type}{m:α->Option v_}{a b:α}{v:Option v_}(h:b≠a):put m a v b=m b:=G_ h
def GE{a:Nat}(h:Go.MapKept.Stamped es a){j:Nat}{x y:MapEntry}(d:es[i]?=zY x)(f:es[j]?=zY y)(e:x.key=y.key):i=j:=by
 have g:=h.2.2;have b:(es.toList.map (·.key))[i]?=zY x.key:=by simp[d]
 have c:(es.toList.map (·.key))[j]?=zY x.key:=by simp[f,e]
 exact(iL (V_.1 b).1 g).1 (b.trans c.symm)
def Mr{a:Nat}(h:Go.MapKept.Stamped es a){j:Nat}{x y:MapEntry}(d:es[i]?=zY x)(f:es[j]?=zY y)(e:x.born=y.born):i=j:=by
 have g:=h.2.1;have b:(es.toList.map (·.born))[i]?=zY x.born:=by simp[d]
 have c:(es.toList.map (·.born))[j]?=zY x.born:=by simp[f,e]
 exact(iL (V_.1 b).1 g).1 (b.trans c.symm)
def U1{et:x_}(a:(P.info? et).bind (·.zero)=zY z)(w:y_):(zeroValue et).run P w= .ok z w:=by cases b:P.info? et with|none=>rw[b]at a;cases a|some i=>have c:i.zero=zY z:=by{simpa [b]using a};simp[zeroValue,typeInfo,b,c]
abbrev rW(w:y_)(b:Nat)(o:Obj):y_:={w with heap:=w.heap.setIfInBounds b o}
def Uh{o o':Obj}(h:w.heap[b]?=zY o):(rW w b o').heap[b]?=zY o'/\C_ (λk=>k≠b) w.heap (rW w b o').heap/\(rW w b o').heap.size=w.heap.size:=
 ⟨(Go.MapKept.heap_set h).1,λk a=>(Go.MapKept.heap_set h).2 k a,zZ⟩
section
variable{α:Type}{enc:α->v_}
def gO{m:α->Option v_}{a:α}{c:Nat}(hs:Go.MapKept.Stamped es c)(q:∀(i:Nat) (x:MapEntry),es[i]?=zY x->∃a,x.key=enc a/\m a=zY x.val)(r:∀a v,m a=zY v->∃(i:Nat) (x:MapEntry),es[i]?=zY x/\x.key=enc a/\x.val=v)(g:∀x∈es.toList,x.key≠enc a)
  (n:H'[b]?=zY (.map (es.push ⟨enc a,v,c⟩) (c+1))):S5 enc H' b (put m a (zY v))/\Yy enc H' b a c:=by have j:∀i x,(es.push ⟨enc a,v,c⟩)[i]?=zY x->(i<es.size/\es[i]?=zY x)\/(i=es.size/\x=⟨enc a,v,c⟩):=by{intro i x d;rw[oA]at d;by_cases l:i=es.size;{rw[I_ l]at d;exact .inr ⟨l,by cases d;rfl⟩};{rw[G_ l]at d;exact .inl ⟨(uS.1 d).1,d⟩}};refine⟨⟨_,_,n,Go.MapKept.stamped_push hs g,λi x d=>?_,λa' s k=>?_⟩,_,_,n,λi x d=>?_⟩;{rcases j i x d with⟨_,d⟩ | ⟨_,rfl⟩;{have⟨a',o,e2⟩:=q i x d;have:a'≠a:=λh=>g x (e_ (by simpa using d)) (by rw[o,h]);exact⟨a',o,by rw[ML this];exact e2⟩};{exact⟨a,rfl,Kj _ _ _⟩}};{by_cases p:a'=a;{subst p;rw[Kj]at k;cases k;exact⟨es.size,⟨enc a',v,c⟩,zZ,rfl,rfl⟩};{rw[ML p]at k;have⟨i,x,d,e⟩:=r a' s k;exact⟨i,x,by rw[oA,G_ (by have:=(uS.1 d).1;omega)];exact d,e⟩}};{rcases j i x d with⟨_,d⟩ | ⟨_,rfl⟩;{have f:x∈es.toList:=e_ (by simpa using d);have:=hs.1 x f;exact⟨λh=>zO,λh=>absurd h (g x f)⟩};{simp}}
def AjC{K:v_->Aa->Prop}(k:∀b H',b=H.size->H'.size=b+1->S5 enc H' b (λ_=>zV)->C_ (λk=>k<b) H H'->K (.map (zY b)) H'):BV P (Instr.makeMap t zV) H K:=by refine BV.mk λw a=>?_;subst a;exact⟨_,w.alloc (.map #[] 0),by simp[Instr.makeMap],⟨rfl,rfl,rfl⟩,k w.heap.size _ rfl (by rw[Hv];simp) ⟨#[],0,by rw[Hv];simp,Go.MapKept.stamped_empty 0,zZ,zZ⟩ (EV _ _)⟩
end
def Ae9{α:Type}(m:α->Option v_)(a:α):v_:=(m a).getD (.slice zV 0 0)
structure Qs{α β:Type}(enc:α->v_)(T:Ty β)(H:Aa)(lo:Nat)(e:x_)(mb:Nat)(m:α->Option v_)(xs:α->List β):Prop where
 map:S5 enc H mb m
 lt:mb<lo
 own:∀k,X_ T (λ_=>False) H lo e (Ae9 m k) (xs k)
 apart:∀k k' b,k≠k'->O_ (Ae9 m k) b->¬O_ (Ae9 m k') b
def fM(a b:ByteArray):(a.toList==b.toList)=zT (a.data.toList=b.data.toList):=by rw[ByteArray.toList_eq,ByteArray.toList_eq];by_cases h:a.data.toList=b.data.toList;{rw[m_ h,h];simp};{rw[j_ h];exact Bool.eq_false_iff.2 λc=>h (by simpa using c)}
def Uu{a b:ByteArray}(h:a.data.toList=b.data.toList):a=b:=by cases a;cases b;simp_all [Array.toList_inj]
def bU(a b:ByteArray):(a.toList==b.toList)=zW↔a=b:=by rw[fM,yD];exact⟨Uu,λh=>by rw[h]⟩
section
variable{α:Type}
def SlQ(T:Ty α)(S:Nat->Prop)(H:Aa)(e:x_)(v:v_)(xs:List α):Prop:=
 ∃cs,cs.length=xs.length*T.size/\T.reps S H cs xs/\((v= .slice zV 0 0/\xs=[])\/
  ∃b o cap l,v= .slice (zY ⟨b,o,zV⟩) xs.length cap/\R_ H b e l/\xs.length<=cap/\cap<=maxLen/\o+cap*T.size<=l.length/\∀j u,cs[j]?=zY u->l[o+j]?=zY u)
def SlQ.agr{T:Ty α}{S':Nat->Prop}{xs:List α}(h:SlQ T S H e v xs)(k:C_ S' H H')(c:∀b,O_ v b->S' b)(hs:∀b,S b->S' b):SlQ T S H' e v xs:=by have⟨d,f,g,a⟩:=h;refine⟨d,f,Ty.reps_frame (k.mono hs) g,?_⟩;rcases a with a | ⟨b,o,cap,l,rfl,i,r⟩;{exact .inl a};{exact .inr ⟨b,o,cap,l,rfl,i.agr k (c b ⟨_,_,_,rfl⟩),r⟩}
def SlQ.hull{T:Ty α}{xs:List α}(h:SlQ T S H e v xs):∃a cap,v= .slice a xs.length cap:=by obtain⟨c,d,f,⟨rfl,rfl⟩ | ⟨b,o,cap,l,rfl,r⟩⟩:=h;{exact⟨_,_,rfl⟩};{exact⟨_,_,rfl⟩}
def SlQ.lt{T:Ty α}{xs:List α}(h:SlQ T S H e v xs)(d:O_ v b):b<H.size:=by obtain⟨f,n',g,rfl⟩:=d;obtain⟨i,j,k,⟨a,c⟩ | ⟨b',o,cap,l,a,c,r⟩⟩:=h;{cases a};{injection a with a;injection a with a;injection a with a;subst a;exact c.lt}
def SlQ.ofO{T:Ty α}{xs:List α}(h:X_ T S H lo e v xs):SlQ T S H e v xs:=by obtain⟨d,⟨f,c⟩,g⟩:=h;refine⟨d,f,g,?_⟩;rcases c with⟨rfl,c⟩ | ⟨b,cap,l,rfl,o,i,k,m,p,n⟩;{exact .inl ⟨rfl,vJ c⟩};{refine .inr ⟨b,0,cap,l,rfl,i,k,m,zO,λj u a=>?_⟩;rw[<-n,tE]at a;split at a;{rw[K_];exact a};{cases a}}
def SlQ.view{T:Ty α}{S':Nat->Prop}{xs:List α}(h:SlQ T S H e (.slice a n cap) xs)(g:∀b,O_ (.slice a n cap) b->S' b)(hs:∀b,S b->S' b):n=xs.length/\b_ T S' H a cap xs:=by obtain⟨p,q,i,⟨c,d⟩ | ⟨b,o,f,l,c,d,j,k,r,m⟩⟩:=h;{injection c with e1 e2 e3;subst e1;subst e2;subst e3;subst d;exact⟨rfl,rfl,rfl⟩};{injection c with e1 e2 e3;subst e1;subst e2;subst e3;exact⟨rfl,b_.intro (g b ⟨_,_,_,rfl⟩) j k (d.cells m) (Ty.reps_mono hs i)⟩}
def fW{T:Ty α}{xs:List α}{t ty:Nat}{K:v_->Aa->Prop}(J:SlT P t e T.size by_ z){q:Nat}{ys:List α}{ds:List v_}
  (hs:SlQ T S H e v xs) (hS:∀k,S k->k<H.size/\¬O_ v k) (hd:Bn H q o ds) (R:T.reps S H ds ys) (U:m=ys.length) (h1:∀u∈ds,u.oneCell'=zW)
  (M:xs.length+ys.length<=maxLen) (hby:(xs.length+ys.length)*by_<=140737488355328)
  (h:∀L H',SlQ T S H' e L (xs++ys)->C_ (λk=>k<H.size/\¬O_ v k) H H'->H.size<=H'.size->(∀k,O_ L k->O_ v k\/H.size<=k)->K L H'):
  BV P (Builtin.append_ #[t,t] ty [v,.slice (zY ⟨q,o,zV⟩) m cap].toArray) H K:=by
 subst U;refine BV.mk λw hw=>?_;subst hw;have⟨f,V,y,W,hz⟩:=J.info;have i:Src P f.size t (.slice (zY ⟨q,o,zV⟩) ys.length cap) ys.length ds w:=by{rw[y];refine Src.ofSlice w J.under ⟨q,o,zV⟩ ys.length cap ds (Ty.reps_len R) (λj u D=>?_) h1;rw[Addr.add_mid,Hx];exact hd j u D};have G:ds.length=ys.length*T.size:=Ty.reps_len R;have⟨d,I,hr,X⟩:=hs;have a7:xs.length+ys.length<=9223372036854775807:=by simp only[maxLen]at M;omega
 have A:(d++ds).length=(xs++ys).length*T.size:=by rw[M_,M_,I,G,sR]
 have reps:∀{H':Aa},C_ (λk=>k<w.heap.size/\¬O_ v k) w.heap H'->T.reps S H' (d++ds) (xs++ys):=λk=>Ty.reps_append (Ty.reps_frame (k.mono hS) hr) (Ty.reps_frame (k.mono hS) R);have E:∀(n:Option Addr) (a:Nat),v= .slice n xs.length a->a<xs.length+ys.length->(Builtin.firstCells f.size xs.length (.slice n xs.length a)).run P w.drew= .ok d.toArray w.drew->
   ∃L Y,(Builtin.append_ #[t,t] ty [v,.slice (zY ⟨q,o,zV⟩) ys.length cap].toArray).run P w= .ok L Y/\p_ w Y/\K L Y.heap:=by
  intro n a Z N hold;subst Z;have B:=run_append_grow_src (P:=P) w t t ty e f z J.under V hz n xs.length a d hold _ ys.length ds i N zO (growslice_fits zO (by rw[W];exact hby));refine⟨_,_,B,⟨rfl,rfl,rfl⟩,?_⟩;have a0:=grownCap_ge w (xs.length+ys.length) a e;have a1:=grownCap_le_maxLen w (xs.length+ys.length) a e M;have p:C_ (λk=>k<w.heap.size/\¬O_ (.slice n xs.length a) k) w.heap (w.drew.alloc (.cells ((d++ds).toArray++Builtin.zeroCells z.cells (grownCap w (xs.length+ys.length) a e-(xs.length+ys.length))) e)).heap:=λk x=>EV w.heap _ k x.1;have O:R_ (w.drew.alloc (.cells ((d++ds).toArray++Builtin.zeroCells z.cells (grownCap w (xs.length+ys.length) a e-(xs.length+ys.length))) e)).heap w.heap.size e
    ((d++ds)++(Builtin.zeroCells z.cells (grownCap w (xs.length+ys.length) a e-(xs.length+ys.length))).toList):=by
   unfold R_;have:(w.drew.alloc (.cells ((d++ds).toArray++Builtin.zeroCells z.cells (grownCap w (xs.length+ys.length) a e-(xs.length+ys.length))) e)).heap=w.heap.push (.cells ((d++ds).toArray++Builtin.zeroCells z.cells (grownCap w (xs.length+ys.length) a e-(xs.length+ys.length))) e):=rfl;rw[this];simp
  refine h _ _ ⟨d++ds,A,reps p,.inr ⟨w.heap.size,0,_,_,by rw[M_],O,by rw[M_];exact a0,a1,?_,?_⟩⟩ p ?_ ?_
  ·have e2:(d++ds).length=(xs.length+ys.length)*T.size:=by rw[A,M_]
   have e3:∀g:Nat,(Builtin.zeroCells z.cells g).toList.length=g*T.size:=λg=>by rw[tG,size_zeroCells,J.zsz]
   rw[@M_ _ (d++ds) _,e2,e3,<-sR,K_];exact vO _ zO
  ·intro j u D;rw[K_,zR (V_.1 D).1];exact D
  ·show w.heap.size<=(w.heap.push _).size;simp
  ·rintro k ⟨o,n',c,x⟩;cases x;exact .inr (N_ _)
 rcases X with⟨rfl,rfl⟩ | ⟨b,s,a,l,rfl,Q,a9,a2,a3,F⟩;{have a4:d=[]:=vJ (by simpa using I);subst a4;by_cases U:ys.length=0;{obtain rfl:ys=[]:=vJ U;have hn:ds=[]:=vJ (by simpa using G);subst hn;refine⟨.slice zV 0 0,w,?_,p_.refl w,h _ _ ⟨[],zZ,rfl,.inl ⟨rfl,rfl⟩⟩ (C_.refl _ _) (N_ _) (λk x=>.inl x)⟩;have k1:=i.len;have k2:=i.cells;simp only[List.length_nil]at k1 k2;rcases i.kind with⟨e',x⟩ | x<;>simp[Builtin.append_,run_underlying J.under,run_underlying x,sizeOf,typeInfo,V,k1,k2]};{exact E zV 0 rfl (by simp;omega) (by simp[Builtin.firstCells])}};{by_cases r:xs.length+ys.length<=a;{have a8:xs.length*T.size+ds.length<=a*T.size:=by{rw[G,<-sR];exact vO _ r};have B:=run_append_room_src (P:=P) w t t ty e f J.under V b s xs.length a _ ys.length ds i r (λj hj=>by rw[Hx,Q.cell,y];simp;omega) (λj hj=>Jg Q);have C:s+xs.length*f.size+ds.length<=l.length:=by{rw[y];omega};have⟨a5,h2,h3,h4⟩:=Hi ds (s+xs.length*f.size) l w Q C;have p:C_ (λk=>k<w.heap.size/\¬O_ (.slice (zY ⟨b,s,zV⟩) xs.length a) k) w.heap (w.setCells b (s+xs.length*f.size) ds).heap:=h2.mono λk x a6=>by{subst a6;exact x.2 ⟨s,_,a,rfl⟩};refine⟨_,_,B,h4,h _ _ ⟨d++ds,A,reps p,.inr ⟨b,s,a,_,by rw[M_],a5,by rw[M_];exact r,a2,?_,?_⟩⟩ p zO ?_⟩;{rw[DW C];exact a3};{intro j u D;rw[Dd C,y];by_cases hj:j<d.length;{rw[zR hj]at D;rw[G_ zO];exact F j u D};{rw[zL zO]at D;have:=(V_.1 D).1;rw[I_ zO,(zO:s+j-(s+xs.length*T.size)=j-d.length)];exact D}};{rintro k ⟨o,n',c,x⟩;cases x;exact .inl ⟨s,xs.length,a,rfl⟩}};{refine E (zY ⟨b,s,zV⟩) a rfl zO ?_;have hc:Bn w.heap b s d:=Q.cells F;have:=run_firstCells_some (P:=P) w.drew f.size xs.length ⟨b,s,zV⟩ xs.length a d (by rw[y];exact I) (λj v Z=>by{rw[Addr.add_mid];exact Sg (w:=w.drew) (H:=w.heap) hc rfl j v Z});exact this}}
def AjY{T:Ty α}{xs:List α}{t:Nat}{F:IntKind}{S0:Nat->Prop}{x:α}(p:SlT P t e T.size by_ z)(h:SlQ T S H e (.slice a n cap) (x::xs))
  (k:∀a' f,SlQ T S H e (.slice a' xs.length f) xs->(∀b,O_ (.slice a' xs.length f) b->O_ (.slice a n cap) b)->K (.slice a' xs.length f)):AO P (Instr.sliceAt t (.slice a n cap) (zY (.int F 1)) zV zV) S0 H0 K:=by obtain⟨G,y,hs,_,_⟩:=p.info;obtain⟨O,A,I,⟨B,m⟩ | ⟨b,o,f,l,B,m,J,Q,R,L⟩⟩:=h;{cases m};{injection B with e1 e2 e3;subst e1;subst e2;subst e3;simp only[c_]at J A;obtain⟨c,r,rfl,M,C⟩:=I;have q:=T.len M;have g:K (.slice (if cap=1 then zY ⟨b,o,zV⟩else zY ⟨b,o+T.size,zV⟩) xs.length (cap-1)):=by{refine k _ _ ⟨r,by rw[M_,sR]at A;omega,C,.inr ?_⟩ ?_;{have U:cap*T.size=(cap-1)*T.size+T.size:=by{rw[<-sQ];congr 1;omega};by_cases d:cap=1;{rw[I_ d];have N:xs=[]:=vJ zO;subst N;have s:r=[]:=by{simpa [Ty.reps]using C};subst s;exact⟨b,o,cap-1,l,rfl,m,zZ,zO,by subst d;simp;omega,λj u v=>by simp at v⟩};{rw[G_ d];refine⟨b,o+T.size,cap-1,l,rfl,m,zO,zO,zO,λj u v=>?_⟩;have:=L (c.length+j) u (by rw[zL zO,Nat.add_sub_cancel_left];exact v);rw[q,<-oE]at this;exact this}};{rintro k ⟨V,n',W,g⟩;by_cases d:cap=1;{rw[I_ d]at g;cases g;exact⟨_,_,_,rfl⟩};{rw[G_ d]at g;cases g;exact⟨_,_,_,rfl⟩}}};refine AO.mk _ (λw _=>?_) g;have D:(⟨b,o,zV⟩:Addr).add (1*T.size)=⟨b,o+T.size,zV⟩:=by{rw[mE];exact Addr.add_mid _ _ _};have E:¬((xs.length:Int)+1<1):=zO;have i:(1:Int)<=(xs.length:Int)+1:=zO;by_cases d:cap=1;{subst d;simp[Instr.sliceAt,Instr.slice,run_underlying p.under,Instr.sliceBounds,Instr.sliceBound,asIntOf,sizeOf,typeInfo,y,hs,E,i]};{simp[Instr.sliceAt,Instr.slice,run_underlying p.under,Instr.sliceBounds,Instr.sliceBound,asIntOf,sizeOf,typeInfo,y,hs,d,E,i];simp[mE]at D;exact D}}
def pQ(T:Ty α)(e:x_)(a:Option Addr)(n cap:Nat)(xs:List α):Pc:=⟨λk=>O_ (.slice a n cap) k,λH=>SlQ T none_ H e (.slice a n cap) xs,λh hp=>hp.agr h (λ_ hb=>hb) (λ_ f=>f.elim)⟩
def B_.qview{T:Ty α}{xs:List α}(c:B_ B H0 H ps)(i:Nat)(d:ps[i]?=zY (pQ T e a n cap xs)):n=xs.length/\b_ T (H_ H) H a cap xs:=
 SlQ.view (c.at_ i d) (λb g=>(c.in_ i d g).2) (λ_ f=>f.elim)
def B_.toQ{T:Ty α}{xs:List α}(b:B_ B H0 H ps)(i:Nat)(c:ps[i]?=zY (pS T e a n cap xs)):B_ B H0 H (ps.set i (pQ T e a n cap xs)):=
 b.say i c _ (SlQ.ofO (b.at_ i c).1) λk d=>.inl d
def mV{T:Ty α}{xs:List α}{t ty q g:Nat}{ys:List α}{ds:List v_}{K:v_->Aa->Prop}(p:B_ B H0 H ps)(i:Nat)(s:SlT P t e T.size by_ z)(r:ps[i]?=zY (pQ T e a n cap xs))
  (v:Bn H q o ds) (w:T.reps none_ H ds ys) (x:m=ys.length) (y:∀u∈ds,u.oneCell'=zW) (j:xs.length+ys.length<=maxLen) (hby:(xs.length+ys.length)*by_<=140737488355328)
  (k:∀a' b H',B_ B H0 H' (ps.set i (pQ T e a' (xs.length+ys.length) b (xs++ys)))->C_ (λk=>k<H.size/\¬O_ (.slice a n cap) k) H H'->K (.slice a' (xs.length+ys.length) b) H'):
  BV P (Builtin.append_ #[t,t] ty [.slice a n cap,.slice (zY ⟨q,o,zV⟩) m g].toArray) H K:=by refine fW (T:=T) (S:=none_) s (p.at_ i r) (λk d=>d.elim) v w x y j hby ?_;intro C H' c f l h;obtain⟨a',b,rfl⟩:=c.hull;rw[M_]at c h ⊢;exact k a' b H' (p.upd i r (f.mono λk d=>⟨d.1,λA=>d.2 A⟩) _ c (λk d=>h k d) (λk d=>c.lt d) l) f
def mY{T:Ty α}{xs:List α}{t:Nat}{f:IntKind}{x:α}(c:B_ B H0 H ps)(i:Nat)(g:SlT P t e T.size by_ z)(d:ps[i]?=zY (pQ T e a n cap (x::xs)))
  (k:∀a' b,B_ B H0 H (ps.set i (pQ T e a' xs.length b xs))->K (.slice a' xs.length b)):AO P (Instr.sliceAt t (.slice a n cap) (zY (.int f 1)) zV zV) S H' K:=
 AjY (T:=T) g (c.at_ i d) λa' b h j=>k a' b (c.say i d _ h j)
end
section
variable{s d e:Nat}{K:v_->Aa->Prop}
def kG(bs:List Nat)(hs:P.underlying s=zY (.slice e))(c:P.underlying e=zY (.int .u8))(f:P.underlying d=zY .string)
  (g:∀(j x:Nat),bs[j]?=zY x->cell H b (o+j)=zY (.int .u8 (x:Int))) (h:n=bs.length) (k:K (.string ⟨(bs.map UInt8.ofNat).toArray⟩) H):BV P (convert s d (.slice (zY ⟨b,o,zV⟩) n cap)) H K:=by subst h;refine BV.mk λw l=>?_;subst l;have:=run_convert_bytes_arg (P:=P) w s e hs c b o bs.length cap (bs.map fun(n:Nat)=>(n:Int)) zZ (λi a=>by{rw[Hx,g i bs[i] (yI a)];simp[List.getD,a]}) d f;have m:strOfNums (bs.map fun(n:Nat)=>(n:Int))=⟨(bs.map UInt8.ofNat).toArray⟩:=by{unfold strOfNums;rw[List.map_map];congr 2};rw[m]at this;exact⟨_,w,this,p_.refl w,k⟩
def AjX(hs:P.underlying s=zY (.slice e))(a:P.underlying e=zY (.int .u8))(b:P.underlying d=zY .string)
  (k:K (.string ⟨#[]⟩) H):BV P (convert s d (.slice zV n cap)) H K:=by refine BV.mk λw c=>?_;subst c;exact⟨_,w,run_convert_bytes_nil (P:=P) w s e hs a n cap d b,p_.refl w,k⟩
end
def L0(ops:Array Oper):Nat->Nat->Nat->Bool
 | 0,_,_=>zU
 | f+1,j,i=>match ops[j]? with
   | none=>zU
   | some o=>o.after.toList.any λe=>Region.binds .any e&&(AlG e.on i|| L0 ops f e.on i)
def Zac(ops:Array Oper)(listed:Array Bool):Prop:=
 ∀(j:Nat) (o:Oper),ops[j]?=zY o->listed.getD j zU=zW->∀e∈o.after,Region.binds .any e=zW->listed.getD e.on zU=zW
section
variable{b:Array Oper}{a:Array Bool}
def Zac.chain(h:Zac b a):∀(f j:Nat),L0 b f j i=zW->(∀(o:Oper),b[j]?=zY o->∀e∈o.after,Region.binds .any e=zW->a.getD e.on zU=zW)->a.getD i zU=zW
 | 0,_,hn,_=>by simp[L0]at hn
 | f+1,j,hn,hd=>by
   unfold L0 at hn;split at hn
   ·cases hn
   ·rename_i o n;have⟨e,p,c⟩:=oF.1 hn;simp only[O',tJ]at c;have m:=hd o n e (by simpa using p) c.1;rcases c.2 with d | d
    ·rw[<-nY d];exact m
    ·exact h.chain f e.on d λq g r k l=>h e.on q g m r k l
def Zac.not_ready(h:Zac b a){j f:Nat}(g:L0 b f j i=zW)(k:a.getD i zU=zU):j∉Region.ready .any b a:=by
 intro l;obtain⟨_,o,m,c⟩:=mem_ready.1 l;have:=h.chain f j g λq d e n p=>by rw[m]at d;cases d;exact c e n p
 rw[k]at this;cases this
end
def Z4{l:Array Bool}{k:Nat}(h:(l.setIfInBounds i zW).getD k zU=zW):k=i\/l.getD k zU=zW:=by by_cases a:k=i;{exact .inl a};{rw[getD_set_ne zU (Ne.symm a)]at h;exact .inr h}
def Zac.put{b:Array Oper}{a:Array Bool}(h:Zac b a){j:Nat}(m:j∈Region.ready .any b a):Zac b (a.setIfInBounds j zW):=by intro k o g f e i l;rcases Z4 f with rfl | f;{obtain⟨_,n,c,d⟩:=mem_ready.1 m;rw[g]at c;cases c;exact getD_set_true (d e i l)};{exact getD_set_true (h k o g f e i l)}
def LE(P:w_)(ops:Array Oper)(Q:Exit->Act->y_->Prop)(S:y_->Prop)(Z:List Nat):Nat->Array Bool->Act->y_->Prop
 | 0,listed,a,w=>Region.ready .any ops listed=[]/\Q .normal a w
 | fuel+1,listed,a,w=>
   (Region.ready .any ops listed=[]->Q .normal a w)/\
   ∀i∈Region.ready .any ops listed,wpOp P ops Q i (λa' w'=>(Z.contains i=zU->S w')/\LE P ops Q S Z fuel (listed.setIfInBounds i zW) a' w') a w
def Jy{P:w_}{d:Array Oper}{Q:Exit->Act->y_->Prop}{S:y_->Prop}{Z:List Nat}:∀(b:Nat) (c:Array Bool) (a:Act) (w:y_),
  LE P d Q S Z b c a w->wpAny P .any d Q b c a w
 | 0,_,_,_,h=>h
 | b+1,_,_,_,h=>⟨h.1,λi e=>wpOp_mono (λa' f g=>Jy b _ a' f g.2) (h.2 i e)⟩
def Hl{S:y_->Prop}{f:Nat}{t:Oper}(L:g[i]?=zY t)
  (r:∀(j:Nat) (o:Oper) A b,g[j]?=zY o->o.op≠ .select A b)
  (U:∀c a w,Q (.panic c) (a.put t.dst v) w->Q (.panic c) a w) (V:Z.contains i=zU) (W:∀j,Z.contains j=zW->L0 g f j i=zW):
  ∀(l:Nat) (d:Array Bool) (a:Act) (w:y_),Zac g d->
   (∀j u,g[j]?=zY u->j≠i->d.getD j zW=zU->(∀e∈u.after,Region.binds .any e=zW->e.on≠i)->t.apart g u=zW)->
   i∈Region.ready .any g d->YieldsIf P g S t v a->S w->
   LE P g Q S Z l (d.setIfInBounds i zW) (a.put t.dst v) w->LE P g Q S Z (l+1) d a w:=by
 intro l;induction l with|zero=>intro d a w _ _ x I B H;refine⟨λh=>(by rw[h]at x;cases x),λj z=>?_⟩;by_cases m:j=i;{subst m;exact I.wpOp L B ⟨λ_=>B,H⟩};{have:=ready_mono z m;rw[H.1]at this;cases this}|succ l X=>{
 intro d a w C n x I B H;refine⟨λh=>(by rw[h]at x;cases x),λj z=>?_⟩;by_cases m:j=i;{subst m;exact I.wpOp L B ⟨λ_=>B,H⟩};{
 have J:=H.2 j (ready_mono z m);have⟨s,u,y,D⟩:=mem_ready.1 z;have p:d.getD i zU=zU:=by{have M:=(mem_ready.1 x).1;rcases sM i d.size with N | N;{simp[N]at M ⊢;exact M};{simp[nW N]at M}};have E:∀e∈u.after,Region.binds .any e=zW->e.on≠i:=λe Y hb O=>by{have J:=D e Y hb;rw[O,p]at J;cases J};have F:Z.contains j=zU:=by{cases hc:Z.contains j with|false=>rfl|true=>exact absurd z (C.not_ready (W j hc) p)}
 have h2:=wpOp_putIf y (n j u y m s E) (λA b=>r i t A b L) (λA b=>r j u A b y) U I J;have q:∀k ok,g[k]?=zY ok->k≠i->(d.setIfInBounds j zW).getD k zW=zU->
   (∀e∈ok.after,Region.binds .any e=zW->e.on≠i)->t.apart g ok=zW:=λk ok hk R p T=>by
  refine n k ok hk R ?_ T;by_cases G:j=k
  ·subst G;exact s
  ·rw[getD_set_ne zW G]at p;exact p
 refine wpOp_mono (λa' w' K=>⟨λ_=>K.2.1 F,X (d.setIfInBounds j zW) a' w' (C.put z) q (ready_mono x (Ne.symm m)) K.1 (K.2.1 F) ?_⟩) h2;rw[jY _ _ m];exact K.2.2}}
def Ur(P:w_)(S:Nat->Prop)(Z:List Nat)(H0:Aa)(all:List Oper)(i:Nat)(fr:Fr)(H:Aa)(next:Fr->Aa->Prop):Prop:=
 match all[i]? with
 | none=>False
 | some o=>match o.guard with
   | some _=>False
   | none=>match Z.contains i with
     | true=>wV P zU (λ_=>True) o fr H λv H'=>D1 o.dst fr v λfr'=>next fr' H'
     | false=>wV P zU (λ_=>True) o fr H λv H'=>C_ S H0 H'/\D1 o.dst fr v λfr'=>next fr' H'
def heldZ(P:w_)(S:Nat->Prop)(Z:List Nat)(H0:Aa)(all:List Oper)(s:Sch):Fr->Aa->(Fr->Aa->Prop)->Prop:=
 Sch.rec (motive:=λ_=>Fr->Aa->(Fr->Aa->Prop)->Prop) (λfr H K=>K fr H)
  (λi _ ih fr H K=>match all[i]? with
   | none=>False
   | some o=>match o.guard with
     | some _=>False
     | none=>match No o&&HX P o with
       | true=>PW P S o fr H λv=>D1 o.dst fr v λfr'=>ih fr' H K
       | false=>False)
  (λi _ ih fr H K=>Ur P S Z H0 all i fr H λfr' H'=>ih fr' H' K)
  (λi _ j _ ih ih' fr H K=>(Ur P S Z H0 all i fr H λfr' H'=>ih fr' H' K)/\Ur P S Z H0 all j fr H λfr' H'=>ih' fr' H' K) s
def dT(P:w_)(S:Nat->Prop)(Z:List Nat)(H0:Aa)(all:List Oper)(i:Nat)(s:Sch)(fr:Fr)(H:Aa)(K:Fr->Aa->Prop):heldZ P S Z H0 all (.q i s) fr H K=
  (match all[i]? with
   | none=>False
   | some o=>match o.guard with
     | some _=>False
     | none=>match No o&&HX P o with
       | true=>PW P S o fr H λv=>D1 o.dst fr v λa=>heldZ P S Z H0 all s a H K
       | false=>False):=rfl
def nL:Sch->Bool
 | .e=>zU
 | .q _ _=>zW
 | .f _ s=>nL s
 | .b _ s _ s'=>nL s|| nL s'
def Uz(Z:List Nat):Sch->Bool
 | .e=>zW
 | .q _ _=>zU
 | .f i s=>Z.contains i&&Uz Z s
 | .b i s j s'=>Z.contains i&&Z.contains j&&Uz Z s&&Uz Z s'
def EJ(ops:Array Oper)(Z:List Nat):Sch->Array Bool->Bool
 | .e,listed=>(Region.ready .any ops listed).isEmpty
 | .q i s,listed=>(Region.ready .any ops listed).contains i&&Region.free .any ops listed i&& !(Z.contains i)&&(Z.all λz=>L0 ops ops.size z i)&&EJ ops Z s (listed.setIfInBounds i zW)
 | .f i s,listed=>Region.ready .any ops listed==[i]&&(!(Z.contains i)|| Uz Z s)&&EJ ops Z s (listed.setIfInBounds i zW)
 | .b i s j s',listed=>Region.ready .any ops listed==[i,j]&&((!(Z.contains i)&& !(Z.contains j))|| (Uz Z s&&Uz Z s'))&&EJ ops Z s (listed.setIfInBounds i zW)&&EJ ops Z s' (listed.setIfInBounds j zW)
def Ks{a:Act}{next:Fr->Aa->Prop}
  (c:At fr a) (l:p_ w0 w) (h:Ur P S Z w0.heap all i fr w.heap next)
  (n:∀f a' e,At f a'->p_ w0 e->(Z.contains i=zU->xX w0 S e)->next f e.heap->N a' e):wpOp P all.toArray Q i N a w:=by unfold Ur at h;split at h;{exact h.elim};{rename_i o p;have m:all.toArray[i]?=zY o:=by{simpa using p};split at h;{exact h.elim};{rename_i q;have d:Region.wanted o (yielded all.toArray a.tmps)=zW:=by{simp[Region.wanted,q]};unfold wpOp;rw[m];dsimp only;rw[I_ d];split at h;{rename_i r;refine .inl (Oper.wp_mono ?_ (DT c h _));rintro a' e ⟨v,rfl,b,g⟩;rw[CH]at g;exact n _ _ _ (c.put o.dst v) (l.trans b) (λj=>by rw[r]at j;cases j) g};{refine .inl (Oper.wp_mono ?_ (DT c h _));rintro a' e ⟨v,rfl,b,k,g⟩;rw[CH]at g;exact n _ _ _ (c.put o.dst v) (l.trans b) (λ_=>⟨l.trans b,k⟩) g}}}
def Gx{P:w_}{S:Nat->Prop}{Z:List Nat}{w0:y_}{all:List Oper}{Q:Exit->Act->y_->Prop}(hs:Region.noSelect all.toArray=zW)
  (A:∀c a w,¬Q (.panic c) a w):∀(l:Sch) (d:Array Bool) (fr:Fr) (a:Act) (w:y_) (K:Fr->Aa->Prop),At fr a->p_ w0 w->(Uz Z l=zU->xX w0 S w)->Zac all.toArray d->
  (∀n a' m,At n a'->p_ w0 m->K n m.heap->Q .normal a' m)->EJ all.toArray Z l d=zW->l.even=zW->
  heldZ P S Z w0.heap all l fr w.heap K->LE P all.toArray Q (xX w0 S) Z l.len d a w
 | .e,d,fr,a,w,K,hat,he,_,_,hq,hB,_,h=>⟨by simpa [EJ]using hB,hq fr a w hat he h⟩
 | .q i s,d,fr,a,w,K,hat,he,x,hsh,hq,hB,hev,h=>by
   have x:=x rfl;simp only[EJ,O',vY,zM]at hB;obtain⟨⟨⟨⟨y,g⟩,N⟩,O⟩,p⟩:=hB;rw[dT]at h;split at h
   ·exact h.elim
   ·rename_i o R;have B:all.toArray[i]?=zY o:=by simpa using R
    have C:i∈Region.ready .any all.toArray d:=by simpa using y
    split at h
    ·exact h.elim
    ·rename_i T;have z:Region.wanted o (yielded all.toArray a.tmps)=zW:=by simp[Region.wanted,T]
     split at h
     ·have⟨v,U,r⟩:=FR h;rw[CH]at r;refine Hl (v:=v) (f:=all.toArray.size) B (Region.noSelect_spec hs) (λc a' m V=>(A _ _ _ V).elim) N (λj D=>O j (by simpa using D)) s.len d a w hsh (Region.free_spec B g) C
       (.inl ⟨z,λm J=>?_⟩) x ?_
      ·rw[hat.evalF];exact U m λk r=>(J.2 k r).trans (x.2 k r).symm
      ·exact Gx hs A s _ _ _ w K (hat.put o.dst v) he (λ_=>x) (hsh.put C) hq p hev r
     ·exact h.elim
 | .f i s,d,fr,a,w,K,hat,he,x,hsh,hq,hB,hev,h=>by
   simp only[EJ,O',tJ,vY,beq_iff_eq]at hB;obtain⟨⟨y,g⟩,p⟩:=hB;refine⟨(λE=>by rw[y]at E;cases E),λj D=>?_⟩;have L:=D;rw[y]at D;obtain rfl:j=i:=by simpa using D
   refine Ks hat he h λn a' m F G t H=>⟨t,Gx hs A s _ _ _ m K F G (λu=>?_) (hsh.put L) hq p hev H⟩;rcases g with g | g
   ·exact t g
   ·rw[g]at u;cases u
 | .b i s j s',d,fr,a,w,K,hat,he,x,hsh,hq,hB,hev,h=>by
   simp only[EJ,O',tJ,vY,beq_iff_eq]at hB;obtain⟨⟨⟨y,g⟩,p⟩,M⟩:=hB;simp only[Sch.even,O',beq_iff_eq]at hev;obtain⟨⟨W,e2⟩,X⟩:=hev;refine⟨(λE=>by rw[y]at E;cases E),λk r=>?_⟩;have I:=r;rw[y]at r;rcases xU.1 r with rfl | r
   ·refine Ks hat he h.1 λn a' m F G t H=>⟨t,Gx hs A s _ _ _ m K F G (λu=>?_) (hsh.put I) hq p W H⟩;rcases g with g | g
    ·exact t g.1
    ·rw[g.1]at u;cases u
   ·obtain rfl:k=j:=by simpa using r
    rw[X];refine Ks hat he h.2 λn a' m F G t H=>⟨t,Gx hs A s' _ _ _ m K F G (λu=>?_) (hsh.put I) hq M e2 H⟩;rcases g with g | g
    ·exact t g.2
    ·rw[g.2]at u;cases u
def Ap.heldZ{l:List Oper}{K:Fr->Aa->Prop}(S:Nat->Prop)(Z:List Nat)(b:Sch)(g:P.follows .mixedOrders=zW)
  (c:(Region.noSelect l.toArray&&(b.len==l.length)&&b.even&&EJ l.toArray Z b (AkM l.length zU))=zW)
  (h:YtfbghcpdinlmcaaGreatDoor.heldZ P S Z H l b fr H K):Ap P l fr H K:=by refine⟨?_⟩;intro id Q a w d i k m;subst i;simp only[O',beq_iff_eq]at c;refine wp_region_any g (Jy (S:=xX w S) (Z:=Z) _ _ _ _ ?_);have e:Zac l.toArray (AkM l.length zU):=λj o _ f=>by{rw[Array.getD_eq_getD_getElem?,Array.getElem?_replicate]at f;split at f<;>simp at f};have:=Gx (P:=P) (S:=S) (Z:=Z) (w0:=w) (Q:=Q) c.1.1.1 k b (AkM l.length zU) fr a {w with drawn:=w.drawn+1} K d ⟨rfl,rfl,rfl⟩ (λ_=>⟨⟨rfl,rfl,rfl⟩,C_.refl _ _⟩) e m c.2 c.1.2 h;rw[c.1.1.2]at this;simpa using this
structure KW(P:w_)(t kt et:x_)(z:v_):Prop where
 under:P.underlying t=zY (.map kt et)
 zero:(P.info? et).bind (·.zero)=zY z
structure Lc(P:w_)(kt:x_){α:Type}(Ok:α->Prop)(enc:α->v_):Prop where
 inj:∀a b,enc a=enc b->a=b
 check:∀(w:y_) (em:Bool) (a:α),Ok a->(Instr.checkKey em 10000 kt (enc a)).run P w= .ok () w
 find:∀(w:y_) (a:α),Ok a->∀es:List MapEntry,(∀e∈es,∃b,Ok b/\e.key=enc b)->
  ((Instr.findKey kt (enc a) es).run P w= .ok zV w/\∀e∈es,e.key≠enc a)\/∃j e,(Instr.findKey kt (enc a) es).run P w= .ok (zY (j,e.val)) w/\es[j]?=zY e/\e.key=enc a
 stays:∀(w:y_) (a:α),Ok a->(Instr.keyThatStays (enc a) (enc a)).run P w= .ok (enc a) w
def Lc.ofLaw{kt:x_}{α:Type}{Ok:α->Prop}{enc:α->v_}(h:WideMaps.KeyLaw P kt)(g:∀a b,enc a=enc b->a=b)(d:∀a,Ok a->∃l,keyOf P kt (enc a)=zY l):Lc P kt Ok enc:=
 ⟨g,λw i a c=>let⟨_,e⟩:=d a c;h.check w i e,λw a c j f=>let⟨_,e⟩:=d a c;h.find w e j λx k=>by
   have⟨b,m,e⟩:=f x k;rw[e];exact d b m,
  λw a c=>let⟨_,e⟩:=d a c;h.stays w e⟩
section
variable{α:Type}
def LH(Ok:α->Prop)(enc:α->v_)(H:Aa)(b:Nat)(m:α->Option v_):Prop:=S5 enc H b m/\∀a v,m a=zY v->Ok a
def Ai6(Ok:α->Prop)(enc:α->v_)(H:Aa)(K:Aa->Prop)(b:Nat)(m:α->Option v_):Prop:=
 ∀H',LH Ok enc H' b m->C_ (λk=>k≠b) H H'->H'.size=H.size->K H'
def LH.agr{Ok:α->Prop}{enc:α->v_}{m:α->Option v_}(h:LH Ok enc H b m)(k:C_ S H H')(a:S b):LH Ok enc H' b m:=⟨h.1.agr k a,h.2⟩
def kL{Ok:α->Prop}{m:α->Option v_}{a:α}(h:∀a v,m a=zY v->Ok a)(e:Ok a)(v:v_):∀b u,put m a (zY v) b=zY u->Ok b:=λb u d=>by
 by_cases c:b=a
 ·rw[c];exact e
 ·rw[ML c]at d;exact h b u d
def Lu{Ok:α->Prop}{enc:α->v_}{kt:x_}{m:α->Option v_}{a:α}(o:Lc P kt Ok enc)(r:Ok a)(g:∀a v,m a=zY v->Ok a)(c:∀(i:Nat) (x:MapEntry),es[i]?=zY x->∃a,x.key=enc a/\m a=zY x.val)(s:∀a v,m a=zY v->∃(i:Nat) (x:MapEntry),es[i]?=zY x/\x.key=enc a/\x.val=v)(w:y_):
  ((Instr.findKey kt (enc a) es.toList).run P w= .ok zV w/\m a=zV/\∀x∈es.toList,x.key≠enc a)\/∃j e,(Instr.findKey kt (enc a) es.toList).run P w= .ok (zY (j,e.val)) w/\es[j]?=zY e/\e.key=enc a/\m a=zY e.val:=by have d:∀x∈es.toList,∃b,Ok b/\x.key=enc b:=λx h=>by{have⟨i,t⟩:=xI h;have⟨b,k,e2⟩:=c i x (by simpa using t);exact⟨b,g b _ e2,k⟩};rcases o.find w a r es.toList d with⟨l,f⟩ | ⟨j,e,l,f,p⟩;{refine .inl ⟨l,?_,f⟩;cases n:m a with|none=>rfl|some v=>obtain⟨i,x,h,u,_⟩:=s a v n;exact absurd u (f x (e_ (by simpa using h)))};{have q:es[j]?=zY e:=by{simpa using f};refine .inr ⟨j,e,l,q,p,?_⟩;have⟨a',k,e2⟩:=c j e q;rw[o.inj a a' (p.symm.trans k)];exact e2}
def AgW{Ok:α->Prop}{enc:α->v_}{kt et:x_}{m:α->Option v_}{a:α}(d:KW P t kt et z)(f:Lc P kt Ok enc)(g:Ok a)(h:LH Ok enc H b m)(o:S b)(k:K ((m a).getD z)):AO P (Instr.lookup t (.map (zY b)) (enc a) zU) S H K:=by obtain⟨⟨x,i,p,y,q,r⟩,l⟩:=h;refine AO.mk _ (λw s=>?_) k;have c:=(s b o).trans p;rcases Lu f g l q r w with⟨n,e2,u⟩ | ⟨j,e,n,e2,u,v⟩;{simp[Instr.lookup,run_underlying d.under,Go.MapKept.run_getObj_map c,f.check w _ a g,n,U1 d.zero,e2]};{simp[Instr.lookup,run_underlying d.under,Go.MapKept.run_getObj_map c,f.check w _ a g,n,v]}
def TM{Ok:α->Prop}{enc:α->v_}{kt et:x_}{m:α->Option v_}{a:α}(d:KW P t kt et z)(f:Lc P kt Ok enc)(g:Ok a)(h:LH Ok enc H b m)(o:S b)(k:K (.tuple #[(m a).getD z,.bool (m a).isSome])):AO P (Instr.lookup t (.map (zY b)) (enc a) zW) S H K:=by obtain⟨⟨x,i,p,y,q,r⟩,l⟩:=h;refine AO.mk _ (λw s=>?_) k;have c:=(s b o).trans p;rcases Lu f g l q r w with⟨n,e2,u⟩ | ⟨j,e,n,e2,u,v⟩;{simp[Instr.lookup,run_underlying d.under,Go.MapKept.run_getObj_map c,f.check w _ a g,n,U1 d.zero,e2]};{simp[Instr.lookup,run_underlying d.under,Go.MapKept.run_getObj_map c,f.check w _ a g,n,v]}
def TN{enc:α->v_}{m:α->Option v_}{a:α}(n:∀a b,enc a=enc b->a=b){d:Nat}(hs:Go.MapKept.Stamped es d)(z:∀(i:Nat) (x:MapEntry),es[i]?=zY x->∃a,x.key=enc a/\m a=zY x.val)(A:∀a v,m a=zY v->∃(i:Nat) (x:MapEntry),es[i]?=zY x/\x.key=enc a/\x.val=v){j:Nat}{e:MapEntry}(l:es[j]?=zY e)(s:e.key=enc a){f:MapEntry->MapEntry}
  (g:(f e).key=enc a) (o:(f e).val=v) (p:∀x,(f x).born=x.born) 
  (y:H'[b]?=zY (.map (es.modify j f) d)):S5 enc H' b (put m a (zY v))/\Yy enc H' b a e.born:=by have q:∀i x,(es.modify j f)[i]?=zY x->(i≠j/\es[i]?=zY x)\/(i=j/\x=f e):=by{intro i x c;rw[qA]at c;by_cases u:j=i;{subst u;rw[I_ rfl,l]at c;exact .inr ⟨rfl,by cases c;rfl⟩};{rw[G_ u]at c;exact .inl ⟨Ne.symm u,c⟩}};refine⟨⟨_,_,y,Go.MapKept.stamped_modify hs _ _ (λx _=>p x) (λx _ c=>?_),λi x c=>?_,λa' B t=>?_⟩,_,_,y,λi x c=>?_⟩;{rw[l]at c;cases c;rw[g,s]};{rcases q i x c with⟨k,c⟩ | ⟨_,rfl⟩;{have⟨a',r,e2⟩:=z i x c;have:a'≠a:=λh=>k (GE hs c l (by rw[r,h,s]));exact⟨a',r,by rw[ML this];exact e2⟩};{exact⟨a,g,by rw[Kj,o]⟩}};{by_cases w:a'=a;{subst w;rw[Kj]at t;cases t;exact⟨j,f e,by rw[qA,I_ rfl,l]<;>rfl,g,o⟩};{rw[ML w]at t;have⟨i,x,c,r,e2⟩:=A a' B t;refine⟨i,x,?_,r,e2⟩;rw[qA,G_ ?_];{exact c};{rintro rfl;rw[l]at c;cases c;exact w (n _ _ (r.symm.trans s))}}};{rcases q i x c with⟨k,c⟩ | ⟨_,rfl⟩;{exact⟨λh=>absurd (Mr hs c l h) k,λh=>absurd (GE hs c l (h.trans s.symm)) k⟩};{exact⟨λ_=>g,λ_=>p e⟩}}
def AjE{Ok:α->Prop}{enc:α->v_}{kt et:x_}{m:α->Option v_}{a:α}(y:KW P t kt et z)(l:Lc P kt Ok enc)(g:Ok a)(h:LH Ok enc H b m){K:Aa->Prop}(k:Ai6 Ok enc H K b (put m a (zY v))):Dm P (Instr.mapUpdate t (.map (zY b)) (enc a) v) H K:=by obtain⟨⟨n,c,i,A,p,q⟩,d⟩:=h;refine Dm.mk λw B=>?_;subst B;rcases Lu l g d p q w with⟨r,e2,o⟩ | ⟨j,e,r,e2,o,C⟩;{have⟨s,u,x⟩:=Uh (o':=.map (n.push ⟨enc a,v,c⟩) (c+1)) i;exact⟨rW w b (.map (n.push ⟨enc a,v,c⟩) (c+1)),by simp[Instr.mapUpdate,run_underlying y.under,Go.MapKept.run_getObj_map i,l.check w _ a g,r,Go.MapKept.run_setObj_map _ i],⟨rfl,rfl,rfl⟩,k _ ⟨(gO A p q o s).1,kL d g v⟩ u x⟩};{have⟨s,u,x⟩:=Uh (o':=.map (n.modify j λe=>{e with key:=enc a,val:=v}) c) i;exact⟨rW w b (.map (n.modify j λe=>{e with key:=enc a,val:=v}) c),by simp[Instr.mapUpdate,run_underlying y.under,Go.MapKept.run_getObj_map i,l.check w _ a g,r,Go.MapKept.run_setObj_map _ i,e2,o,l.stays w a g],⟨rfl,rfl,rfl⟩,k _ ⟨(TN l.inj A p q e2 o (f:=λe=>{e with key:=enc a,val:=v}) rfl rfl (λ_=>rfl) s).1,kL d g v⟩ u x⟩}
def Vs{Ok:α->Prop}{enc:α->v_}{K:v_->Aa->Prop}(k:∀b H',b=H.size->H'.size=b+1->LH Ok enc H' b (λ_=>zV)->C_ (λk=>k<b) H H'->K (.map (zY b)) H'):BV P (Instr.makeMap t zV) H K:=
 AjC λb H' c d e f=>k b H' c d ⟨e,λa v h=>by cases h⟩ f
def LG(Ok:α->Prop)(enc:α->v_)(H:Aa)(b r:Nat)(m:α->Option v_)(D:α->Prop)(last:Option α)(n:Nat):Prop:=
 (∃es clock seen,H[b]?=zY (.map es clock)/\Go.MapKept.Stamped es clock/\(∀(i:Nat) (x:MapEntry),es[i]?=zY x->∃a,x.key=enc a/\m a=zY x.val)/\
  (∀a v,m a=zY v->∃(i:Nat) (x:MapEntry),es[i]?=zY x/\x.key=enc a/\x.val=v)/\H[r]?=zY (.mapIter (zY b) clock seen clock)/\
  (∀(i:Nat) (x:MapEntry) (a:α),es[i]?=zY x->x.key=enc a->(seen.contains x.born=zW↔D a))/\n=(leftOf es seen).size/\
  ∀a,last=zY a->∃(e:MapEntry) (s0:Array Nat),e∈es.toList/\e.key=enc a/\seen=s0.push e.born)/\(∀a v,m a=zY v->Ok a)
def LG.agr{Ok:α->Prop}{enc:α->v_}{r:Nat}{m:α->Option v_}{D:α->Prop}{last:Option α}(h:LG Ok enc H b r m D last n)(k:C_ S H H')(d:S b)(e:S r):LG Ok enc H' b r m D last n:=by obtain⟨⟨f,a,c,g,i,j,l,o,p⟩,q⟩:=h;exact⟨⟨f,a,c,(k b d).trans g,i,j,l,(k r e).trans o,p⟩,q⟩
end
def X8(es:Array MapEntry)(a:Array Nat){e:MapEntry}(d:e∈(leftOf es a).toList):(leftOf es (a.push e.born)).size<(leftOf es a).size:=by
 have b:leftOf es (a.push e.born)=(leftOf es a).filter λx=> !(x.born==e.born):=by{unfold leftOf;rw[Array.filter_filter];congr 1;funext x;rw[jZ];cases b:a.contains x.born<;>cases c:x.born==e.born<;>simp_all};have c:((leftOf es a).filter λx=> !(x.born==e.born)).size=((leftOf es a).toList.filter λx=> !(x.born==e.born)).length:=by rw[<-iA,tG]
 rw[b,c,<-tG];exact List.length_filter_lt_length_iff_exists.2 ⟨e,d,zZ⟩
section
variable{α:Type}
def AgY{Ok:α->Prop}{enc:α->v_}{kt et:x_}{m:α->Option v_}(g:KW P t kt et z)(h:LH Ok enc H b m){K:v_->Aa->Prop}
  (k:∀r n H',r=H.size->H'.size=r+1->LG Ok enc H' b r m (λ_=>False) zV n->C_ (λk=>k<H.size) H H'->K (Y_ r) H'):BV P (Instr.range t (.map (zY b))) H K:=by obtain⟨⟨f,c,d,j,l,o⟩,e⟩:=h;refine BV.mk λw p=>?_;subst p;have q:b<w.heap.size:=(uS.1 d).1;refine⟨_,w.alloc (.mapIter (zY b) c #[] c),by simp[Instr.range,run_underlying g.under,Go.MapKept.run_getObj_map d],⟨rfl,rfl,rfl⟩,k w.heap.size (leftOf f #[]).size _ rfl (by rw[Hv];simp) ⟨⟨f,c, #[],?_,j,l,o,by rw[Hv];simp,λi x a s u=>zZ,rfl,λa h=>by cases h⟩,e⟩ (EV _ _)⟩;rw[Hv,oA,G_ zO];exact d
def AjD{Ok:α->Prop}{enc:α->v_}{r:Nat}{m:α->Option v_}{D:α->Prop}{last:Option α}{ty:x_}(T:∀a b,enc a=enc b->a=b)(h:LG Ok enc H b r m D last n){K:v_->Aa->Prop}(U:(∀a,(m a).isSome=zW->D a)->K (.tuple #[.bool zU]) H)
  (V:∀a v H' n',m a=zY v->¬D a->n'<n->LG Ok enc H' b r m (λx=>D x\/x=a) (zY a) n'->C_ (λk=>k≠r) H H'->H'.size=H.size->K (.tuple #[.bool zW,enc a,v]) H'):BV P (Instr.next (Y_ r) zU ty) H K:=by obtain⟨⟨q,c,d,G,C,Q,R,E,I,W,h8⟩,J⟩:=h;refine BV.mk λw X=>?_;subst X;have L:b≠r:=by{rintro rfl;rw[G]at E;cases E};have u:∀x,x∈(leftOf q d).toList↔x∈q.toList/\d.contains x.born=zU:=λx=>by{unfold leftOf;rw[iA,yH,vY]};rcases run_next_at (P:=P) w ty r b c c d q c E G C.1 (N_ _)with⟨Y,e2⟩ | ⟨e,S,F,y,e2⟩;{refine⟨_,w,e2,p_.refl w,U λa Z=>?_⟩;have⟨v,hv⟩:=qD.1 Z;obtain⟨i,x,p,s,-⟩:=R a v hv;refine(I i x a p s).1 ?_;cases hs:d.contains x.born with|true=>rfl|false=>have:=(u x).2 ⟨e_ (i:=i) (by simpa using p),hs⟩;have h0:(leftOf q d).toList=[]:=vJ (by rw[tG];exact Y);rw[h0]at this;cases this};{have⟨z,A⟩:=(u e).1 S;have⟨j,hj⟩:=xI z;have g:q[j]?=zY e:=by{simpa using hj};have⟨a,l,M⟩:=Q j e g;have N:¬D a:=λhd=>by{rw[(I j e a g l).2 hd]at A;cases A};have B:F.heap=w.heap:=by{rcases y with rfl | rfl<;>rfl};have o:p_ w F:=by{rcases y with rfl | rfl<;>exact⟨rfl,rfl,rfl⟩};have O:r<w.heap.size:=(uS.1 E).1;have f:(Go.ChangeMaps.setBlock F r (.mapIter (zY b) c (d.push e.born) c)).heap=w.heap.setIfInBounds r (.mapIter (zY b) c (d.push e.born) c):=by{show F.heap.setIfInBounds r _=_;rw[B]};refine⟨_,_,e2,⟨o.os,o.tape,o.output⟩,?_⟩;rw[l];refine V a e.val _ _ M N (W ▸ X8 q d S) ⟨⟨q,c,d.push e.born,?_,C,Q,R,?_,λi x a' p s=>?_,rfl,λa' t=>?_⟩,J⟩ ?_ ?_;{rw[f,jX (Ne.symm L)];exact G};{rw[f,Array.getElem?_setIfInBounds_self_of_lt O]};{rw[jZ,tJ,I i x a' p s,beq_iff_eq];refine or_congr Iff.rfl ⟨λhb=>?_,λt=>?_⟩;{obtain rfl:=Mr C p g hb;rw[g]at p;cases p;exact T _ _ (s.symm.trans l)};{subst t;obtain rfl:=GE C p g (s.trans l.symm);rw[g]at p;cases p;rfl}};{cases t;exact⟨e,d,z,l,rfl⟩};{rw[f];exact λk s=>jX (Ne.symm s)};{rw[f];simp}}
def Aj9{Ok:α->Prop}{enc:α->v_}{r:Nat}{m:α->Option v_}{D:α->Prop}{a:α}(h:LG Ok enc H b r m D (zY a) n)(I:∀a b,enc a=enc b->a=b)(u:m a=zY v){K:v_->Aa->Prop}(k:K (.tuple #[enc a,v]) H):BV P (Instr.entry (Y_ r)) H K:=by
 obtain⟨⟨o,c,p,y,q,J,z,A,L,M,B⟩,C⟩:=h;obtain⟨e,E,s,t,rfl⟩:=B a rfl;refine BV.mk λw F=>?_;subst F;have⟨i,x,f,g,l⟩:=z a v u;have⟨j,G⟩:=xI s;have d:o[j]?=zY e:=by simpa using G
 obtain rfl:=GE q f d (g.trans t.symm);rw[d]at f;cases f;refine⟨_,w,run_entry_at w r b c E o c e A y s q.2.1,p_.refl w,?_⟩;rw[t,l];exact k
def uZ(Ok:α->Prop)(enc:α->v_)(b:Nat)(m:α->Option v_):Pc:=⟨λk=>k=b,λH=>LH Ok enc H b m,λh hp=>hp.agr h rfl⟩
def rT(Ok:α->Prop)(enc:α->v_)(b r:Nat)(m:α->Option v_)(D:α->Prop)(last:Option α)(n:Nat):Pc:=⟨λk=>k=b\/k=r,λH=>LG Ok enc H b r m D last n,λh hp=>hp.agr h (.inl rfl) (.inr rfl)⟩
def B_.mapW{Ok:α->Prop}{enc:α->v_}{m:α->Option v_}(a:B_ B H0 H ps)(i:Nat)(c:ps[i]?=zY (uZ Ok enc b m)):LH Ok enc H b m:=a.at_ i c
def B_.iterW{Ok:α->Prop}{enc:α->v_}{r:Nat}{m:α->Option v_}{D:α->Prop}{last:Option α}(a:B_ B H0 H ps)(i:Nat)(c:ps[i]?=zY (rT Ok enc b r m D last n)):LG Ok enc H b r m D last n:=a.at_ i c
def B_.mapNewW{Ok:α->Prop}{enc:α->v_}(c:B_ B H0 H ps)(d:b=H.size)(hs:H'.size=b+1)(e:LH Ok enc H' b (λ_=>zV))(f:C_ (λk=>k<b) H H'):B_ B H0 H' (ps++[uZ Ok enc b λ_=>zV]):=by subst d;exact c.add (f.mono λk a=>a) _ e λk a=>by have:k=H.size:=a;omega
def Vt{Ok:α->Prop}{enc:α->v_}{m m':α->Option v_}{kt et:x_}{a:α}{K:Aa->Prop}(d:B_ B H0 H ps)(i:Nat)(l:KW P t kt et z)(c:Lc P kt Ok enc)(n:Ok a)(e:ps[i]?=zY (uZ Ok enc b m))(o:put m a (zY v)=m')
  (k:∀H',B_ B H0 H' (ps.set i (uZ Ok enc b m'))->K H'):Dm P (Instr.mapUpdate t (.map (zY b)) (enc a) v) H K:=by refine AjE l c n (d.mapW i e) ?_;intro H' f g h;subst o;exact k H' (d.upd i e (g.mono λk c j=>c.2 j) _ f (λk c=>.inl c) (λk c=>by rw[h];exact(d.in_ i e c).2) zO)
def cI{Ok:α->Prop}{enc:α->v_}{m:α->Option v_}{kt et:x_}{K:v_->Aa->Prop}(c:B_ B H0 H ps)(i:Nat)(e:KW P t kt et z)(d:ps[i]?=zY (uZ Ok enc b m))
  (k:∀r n H',B_ B H0 H' (ps.set i (rT Ok enc b r m (λ_=>False) zV n))->K (Y_ r) H'):BV P (Instr.range t (.map (zY b))) H K:=by refine AgY e (c.mapW i d) λr n H' f hs g h=>?_;subst f;have j:=(c.in_ i d (k:=b) rfl).2;refine k _ n H' (c.upd i d (h.mono λk a=>a.1) _ g (λk a=>?_) (λk a=>?_) zO);{rcases a with a | a;{exact .inl a};{exact .inr zO}};{rcases a with rfl | rfl<;>omega}
def AgX{Ok:α->Prop}{enc:α->v_}{r:Nat}{m:α->Option v_}{D:α->Prop}{last:Option α}{ty:x_}{K:v_->Aa->Prop}(d:B_ B H0 H ps)(i:Nat)(g:∀a b,enc a=enc b->a=b)(e:ps[i]?=zY (rT Ok enc b r m D last n))(h:(∀a,(m a).isSome=zW->D a)->K (.tuple #[.bool zU]) H)
  (j:∀a v H' n',m a=zY v->¬D a->n'<n->B_ B H0 H' (ps.set i (rT Ok enc b r m (λx=>D x\/x=a) (zY a) n'))->K (.tuple #[.bool zW,enc a,v]) H'):BV P (Instr.next (Y_ r) zU ty) H K:=by refine AjD g (d.iterW i e) h λa v H' n' l o p q s t=>j a v H' n' l o p (d.upd i e (s.mono λk c f=>c.2 (.inr f)) _ q (λk c=>.inl c) (λk c=>by rw[t];exact(d.in_ i e c).2) zO)
def I9{T:Ty α}{xs:List α}{t ty q g:Nat}{ys:List α}{ds:List v_}{K:v_->Aa->Prop}(r:B_ B H0 H ps)(i:Nat)(v:SlT P t e T.size by_ z)(s:ps[i]?=zY (pS T e a n cap xs))
  (w:Bn H q o ds) (x:T.reps none_ H ds ys) (y:m=ys.length) (A:∀u∈ds,u.oneCell'=zW) (l:xs.length+ys.length<=maxLen) (hby:(xs.length+ys.length)*by_<=140737488355328)
  (k:∀a' c H',B_ B H0 H' (ps.set i (pS T e a' (xs.length+ys.length) c (xs++ys)))->C_ (λk=>k<H.size/\¬O_ (.slice a n cap) k) H H'->K (.slice a' (xs.length+ys.length) c) H'):
  BV P (Builtin.append_ #[t,t] ty [.slice a n cap,.slice (zY ⟨q,o,zV⟩) m g].toArray) H K:=by refine BU (T:=T) (S:=none_) (lo:=0) v (r.at_ i s).1 (q_ _) (λk b=>b.elim) w x y A l hby ?_;intro D H' d f p j;obtain⟨a',c,rfl⟩:=d.hull;rw[M_]at d j ⊢;refine k a' c H' (r.upd i s (f.mono λk b=>⟨b.1,λC=>b.2 (.inl C)⟩) _ ⟨d,λk b=>b.elim⟩ (λk b=>?_) (λk b=>?_) p) f;{rcases b with b | b;{rcases j k b with h | h;{exact .inl (.inl h)};{exact .inr h}};{exact b.elim}};{rcases b with b | b;{exact(d.lt b).2};{exact b.elim}}
end
structure I7 where
 ok:Aa->v_->Prop
 fr:∀{S:Nat->Prop} {H H':Aa} {v:v_},C_ S H H'->(∀k,O_ v k->S k)->ok H v->ok H' v
 lt:∀{H:Aa} {v:v_} {k:Nat},ok H v->O_ v k->k<H.size
def HS{α:Type}(T:Ty α)(e:x_)(xs:List α):I7:=⟨λH v=>X_ T none_ H 0 e v xs,λh hb hv=>hv.agr h hb (λ_ f=>f.elim),λh hk=>(h.lt hk).2⟩
def Sv(ss:Nat->I7)(j:Nat)(s:I7):Nat->I7:=λi=>if i=j then s else ss i
def IT(ss:Nat->I7)(j:Nat)(s:I7):Sv ss j s j=s:=I_ rfl
variable{ss:Nat->I7}
def KQ{j:Nat}{s:I7}(h:i≠j):Sv ss j s i=ss i:=G_ h
def pF(te:x_)(b:Nat)(vs:List v_)(ss:Nat->I7):Pc where
 foot k:=k=b\/∃(i:Nat) (v:v_),vs[i]?=zY v/\O_ v k
 ok H:=R_ H b te vs/\(∀(i:Nat) (v:v_),vs[i]?=zY v->(ss i).ok H v)/\(∀(i j:Nat) (v w:v_) (k:Nat),i≠j->vs[i]?=zY v->vs[j]?=zY w->O_ v k->¬O_ w k)/\∀(i:Nat) (v:v_),vs[i]?=zY v->¬O_ v b
 fr h hp:=⟨hp.1.agr h (.inl rfl),λi v hv=>(ss i).fr h (λk hk=>.inr ⟨i,v,hv,hk⟩) (hp.2.1 i v hv),hp.2.2⟩
def Ii{k:Nat}:¬O_ (.slice zV 0 0) k:=λ⟨_,_,_,h⟩=>by cases h
def B_.fldNew(e:B_ B H0 H ps)(i:Nat)(f:ps[i]?=zY (pB te b (Ai4 n (.slice zV 0 0))))(hs:∀j H,(ss j).ok H (.slice zV 0 0)):B_ B H0 H (ps.set i (pF te b (Ai4 n (.slice zV 0 0)) ss)):=by have d:∀(j:Nat) (v:v_),(Ai4 n (Value.slice zV 0 0))[j]?=zY v->v= .slice zV 0 0:=λj v c=>by{exact List.eq_of_mem_replicate (e_ c)};refine e.upd i f (C_.refl _ _) (pF te b (Ai4 n (.slice zV 0 0)) ss) ⟨e.blk i f,λj v c=>by rw[d j v c];exact hs j H,λi j v w k _ c g a=>?_,λj v c a=>?_⟩ (λk a=>?_) (λk a=>?_) (N_ _);{rw[d i v c]at a;exact absurd a Ii};{rw[d j v c]at a;exact Ii a};{rcases a with a | ⟨j,v,c,a⟩;{exact .inl a};{rw[d j v c]at a;exact absurd a Ii}};{rcases a with a | ⟨j,v,c,a⟩;{exact(e.in_ i f a).2};{rw[d j v c]at a;exact absurd a Ii}}
def B_.fblk{vs:List v_}(a:B_ B H0 H ps)(i:Nat)(c:ps[i]?=zY (pF te b vs ss)):R_ H b te vs:=(a.at_ i c).1
def B_.fview{α:Type}{T:Ty α}{vs:List v_}{xs:List α}{j:Nat}(c:B_ B H0 H ps)(i:Nat)(d:ps[i]?=zY (pF te b vs ss))(g:vs[j]?=zY v)(hs:ss j=HS T e xs):∃a cap,v= .slice a xs.length cap/\b_ T (H_ H) H a cap xs:=by have h:=(c.at_ i d).2.1 j v g;rw[hs]at h;obtain⟨a,cap,l,m,-⟩:=X_.view (S':=H_ H) (h:X_ T none_ H 0 e v xs) (λk n=>(c.in_ i d (.inr ⟨j,v,g,n⟩)).2) (λ_ f=>f.elim);exact⟨a,cap,l,m⟩
def lQ(te:x_)(b:Nat)(vs:List v_)(ss:Nat->I7)(j:Nat)(s:I7)(v':v_):Pc where
 foot k:=k=b\/O_ v' k\/∃(i:Nat) (v:v_),i≠j/\vs[i]?=zY v/\O_ v k
 ok H:=R_ H b te vs/\j<vs.length/\s.ok H v'/\(∀(i:Nat) (v:v_),i≠j->vs[i]?=zY v->(ss i).ok H v)/\(∀(i l:Nat) (v w:v_) (k:Nat),i≠j->l≠j->i≠l->vs[i]?=zY v->vs[l]?=zY w->O_ v k->¬O_ w k)/\
  (∀(i:Nat) (v:v_) (k:Nat),i≠j->vs[i]?=zY v->O_ v k->¬O_ v' k)/\(∀(i:Nat) (v:v_),i≠j->vs[i]?=zY v->¬O_ v b)/\¬O_ v' b
 fr h hp:=⟨hp.1.agr h (.inl rfl),hp.2.1,s.fr h (λk hk=>.inr (.inl hk)) hp.2.2.1,λi v hi hv=>(ss i).fr h (λk hk=>.inr (.inr ⟨i,v,hi,hv,hk⟩)) (hp.2.2.2.1 i v hi hv),hp.2.2.2.2⟩
def qJ{α:Type}{T:Ty α}{vs:List v_}{xs:List α}{j:Nat}{G ty q y:Nat}{ys:List α}{ds:List v_}{K:v_->Aa->Prop}(D:B_ B H0 H ps)(i:Nat)(Q:SlT P G e T.size by_ z)(E:ps[i]?=zY (pF te b vs ss))(f:vs[j]?=zY v)(hs:ss j=HS T e xs)
  (R:Bn H q o ds) (U:T.reps none_ H ds ys) (V:m=ys.length) (W:∀u∈ds,u.oneCell'=zW) (I:xs.length+ys.length<=maxLen) (hby:(xs.length+ys.length)*by_<=140737488355328)
  (k:∀x H',B_ B H0 H' (ps.set i (lQ te b vs ss j (HS T e (xs++ys)) x))->C_ (λk=>k<H.size/\¬O_ v k) H H'->x.oneCell'=zW->K x H'):
  BV P (Builtin.append_ #[G,G] ty [v,.slice (zY ⟨q,o,zV⟩) m y].toArray) H K:=by have⟨A,g,p,C⟩:=D.at_ i E;have n:=g j v f;rw[hs]at n;have J:=(V_.1 f).1;have L:b<H.size:=(D.in_ i E (.inl rfl)).2;have r:∀(l:Nat) (w:v_),vs[l]?=zY w->∀k,O_ w k->k<H.size:=λl w c k a=>(D.in_ i E (.inr ⟨l,w,c,a⟩)).2;refine BU (T:=T) (S:=none_) (lo:=0) Q (n:X_ T none_ H 0 e v xs) (q_ _) (λk a=>a.elim) R U V W I hby ?_;intro x H' s d M t;refine k x H' (D.upd i E (d.mono λk a=>⟨a.1,λC=>a.2 (.inr ⟨j,v,f,C⟩)⟩) (lQ te b vs ss j (HS T e (xs++ys)) x) ⟨A.agr d ⟨L,C j v f⟩,J,s,λl w F c=>(ss l).fr d (λk a=>⟨r l w c k a,p l j w v k F c f a⟩) (g l w c),λl X w Y k _ _ N=>p l X w Y k N,λl w k F c a O=>?_,λl w _ c=>C l w c,λa=>?_⟩ (λk a=>?_) (λk a=>?_) M) d s.one;{rcases t k O with h | h;{exact p l j w v k F c f a h};{have:=r l w c k a;omega}};{rcases t b a with h | h;{exact C j v f h};{omega}};{rcases a with a | a | ⟨l,w,-,c,a⟩;{exact .inl (.inl a)};{rcases t k a with h | h;{exact .inl (.inr ⟨j,v,f,h⟩)};{exact .inr h}};{exact .inl (.inr ⟨l,w,c,a⟩)}};{rcases a with a | a | ⟨l,w,F,c,a⟩;{have:k=b:=a;omega};{exact(s.lt a).2};{have:=r l w c k a;omega}}
def gF{vs:List v_}{j:Nat}{s:I7}{K:Aa->Prop}(p:B_ B H0 H ps)(i:Nat)(O:Cf P t)(q:ps[i]?=zY (lQ te b vs ss j s v))(Q:o=j)(R:v.oneCell'=zW)
  (k:∀H',B_ B H0 H' (ps.set i (pF te b (vs.set j v) (Sv ss j s)))->K H'):Dm P (Instr.storeAt t (.pointer (zY ⟨b,o,zV⟩)) v) H K:=by subst Q;have⟨r,u,D,x,E,f,N,y⟩:=p.at_ i q;refine tQ O r u R ?_;intro H' F h G;have n:∀(l:Nat) (w:v_),(vs.set o v)[l]?=zY w->(l=o/\w=v)\/(l≠o/\vs[l]?=zY w):=λl w a=>by{by_cases d:l=o;{subst d;rw[yP u]at a;cases a;exact .inl ⟨rfl,rfl⟩};{rw[xC (Ne.symm d)]at a;exact .inr ⟨d,a⟩}};refine k H' (p.upd i q (h.mono λk c e=>c.2 (.inl e)) (pF te b (vs.set o v) (Sv ss o s)) ⟨F,λl w a=>?_,λl I w J L z a M c m=>?_,λl w a=>?_⟩ (λk c=>?_) (λk c=>?_) zO);{rcases n l w a with⟨rfl,rfl⟩ | ⟨d,a⟩;{rw[IT];exact s.fr h (λk c e=>y (e ▸ c)) D};{rw[KQ d];exact(ss l).fr h (λk c e=>N l w d a (e ▸ c)) (x l w d a)}};{rcases n l w a with⟨rfl,rfl⟩ | ⟨d,A⟩<;>rcases n I J M with⟨rfl,rfl⟩ | ⟨C,g⟩;{exact z rfl};{exact f I J L C g m c};{exact f l w L d A c m};{exact E l I w J L d C z A g c m}};{rcases n l w a with⟨rfl,rfl⟩ | ⟨d,a⟩;{exact y};{exact N l w d a}};{refine .inl ?_;rcases c with c | ⟨l,w,a,c⟩;{exact .inl c};{rcases n l w a with⟨rfl,rfl⟩ | ⟨d,a⟩;{exact .inr (.inl c)};{exact .inr (.inr ⟨l,w,d,a,c⟩)}}};{rw[G];rcases c with c | ⟨l,w,a,c⟩;{exact(p.in_ i q (.inl c)).2};{rcases n l w a with⟨rfl,rfl⟩ | ⟨d,a⟩;{exact(p.in_ i q (.inr (.inl c))).2};{exact(p.in_ i q (.inr (.inr ⟨l,w,d,a,c⟩))).2}}}
end Go.Proofs.YtfbghcpdinlmcaaGreatDoor
