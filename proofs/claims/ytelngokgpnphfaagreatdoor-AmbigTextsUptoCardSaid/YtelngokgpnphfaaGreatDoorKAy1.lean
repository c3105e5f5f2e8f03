import Derived.OrdersHeld
import Derived.Deep.Quiet
import Derived.StillTail
import Derived.Tactics
import Derived.NoCompiler
import Derived.WalkKit
import Derived.Deep.MidRow
import Derived.Deep.AppendSrc
import Derived.DeepKeys
import Derived.Test.YtelngokgpnphfaaGreatDoorProg
import Derived.Laws.Pointers
import Derived.MapKept
import Derived.Laws.BytesArg
import Derived.Laws.Cover1
import Derived.DeepKeys3
import Derived.Maps.RangeRun
set_option maxHeartbeats 0
open Array renaming replicate -> ApF, ext' -> ApS, map -> ApY
open BitVec renaming ofInt -> AqI, twoPow -> AqU, allOnes -> ArC
open Int renaming reducePow -> Aq6
open List renaming replicate -> AnS, range -> Ap6, rec -> ApX
open Nat renaming noConfusion -> An2, reduceSub -> Aq5, beq -> AqB, reducePow -> ArF
set_option maxRecDepth 100000
open Go renaming Value -> v_, World -> y_, Program -> w_, Operand -> z_, TypeId -> x_
open Option renaming some -> zY, none -> zV
open Bool renaming true -> zW, false -> zU
open Decidable renaming decide -> zT
set_option linter.unusedVariables false
set_option linter.unusedSimpArgs false
set_option linter.defProp false
def zA:=trivial
theorem zO{p:Prop}(h:p:=by omega):p:=h
theorem zQ{p:Prop}(h:p:=by decide):p:=h
theorem zX{p:Prop}(h:p:=by kernel_rfl):p:=h
theorem zZ{p:Prop}(h:p:=by simp):p:=h
abbrev O_:=@List.length_append
abbrev d_:=@List.mem_of_getElem?
abbrev uO:=@List.eq_nil_of_length_eq_zero
abbrev xU:=@List.pairwise_iff_getElem
abbrev yQ:=@List.getElem?_set_self
abbrev V_:=@List.mem_singleton
abbrev yX:=@List.getElem?_set_ne
abbrev xA:=@List.getD_eq_getElem?_getD
abbrev zL:=@List.getElem?_append_right
abbrev b_:=@List.length_cons
abbrev yB:=@List.getElem?_append_left
abbrev yT:=@List.length_set
abbrev xB:=@List.getElem?_of_mem
abbrev yP:=@List.ext_getElem?
abbrev uC:=@List.getElem?_take
abbrev zC:=@List.getElem?_eq_none
abbrev c_:=@List.length_singleton
abbrev zS:=@List.append_assoc
abbrev wU:=@List.getElem?_replicate
abbrev zM:=@List.mem_cons
abbrev k_:=@List.mem_append
abbrev xV:=@List.getElem?_set
abbrev wF:=@List.map_cons
abbrev oV:=@List.take_length_add_append
abbrev rG:=@List.drop_length_add_append
abbrev wI:=@List.length_take
abbrev sI:=@List.getElem?_cons_succ
abbrev tP:=@List.pairwise_singleton
abbrev yU:=@List.append_nil
abbrev gO:=@List.set_getElem_self
abbrev wJ:=@List.getElem?_range
abbrev vL:=@List.pairwise_cons
abbrev Y':=@List.getElem?_map
abbrev gP:=@List.getElem?_inj
abbrev gQ:=@List.getElem_set
abbrev oW:=@List.any_eq_true
abbrev vM:=@Array.getElem?_eq_some_iff
abbrev qL:=@Array.getElem?_modify
abbrev qM:=@Array.toArray_toList
abbrev uD:=@Array.getElem?_eq_getElem
abbrev sJ:=@Array.length_toList
abbrev sK:=@Array.toList_map
abbrev oX:=@Array.getElem?_push
abbrev mX:=@Array.getElem?_eq_none
abbrev gR:=@Array.getElem?_setIfInBounds_ne
abbrev gS:=@Array.setIfInBounds_comm
abbrev gT:=@Array.contains_push
abbrev gU:=@Array.toList_filter
abbrev tQ:=@BitVec.eq_of_getLsbD_eq
abbrev rH:=@BitVec.getLsbD_or
abbrev tR:=@BitVec.getLsbD_allOnes
abbrev gV:=@BitVec.getLsbD_twoPow
abbrev oY:=@BitVec.ofInt_natCast
abbrev qN:=@BitVec.toNat_ofNat
abbrev X':=@Bool.and_eq_true
abbrev vT:=@Bool.false_eq_true
abbrev vH:=@Bool.not_eq_true'
abbrev vU:=@Bool.or_eq_true
abbrev vD:=@Bool.true_and
abbrev gW:=@Int.natCast_inj
abbrev T_:=@List.getElem?_eq_some_iff
abbrev zJ:=@List.getElem?_eq_getElem
abbrev mY:=@Nat.one_mul
abbrev gX:=@Nat.div_le_self
abbrev vV:=@Nat.mul_le_mul
abbrev rI:=@Nat.add_assoc
abbrev rJ:=@Option.isSome_iff_exists
abbrev wA:=@Option.bind_some
abbrev gY:=@Array.getElem?_toList
abbrev gZ:=@BitVec.toNat_xor
abbrev g':=@BitVec.toNat_not
abbrev O':=@Int.toNat_natCast
abbrev xR:=@Int.eq_ofNat_of_zero_le
abbrev vE:=@List.toList_toArray
abbrev wY:=@List.filter_cons_of_pos
abbrev vN:=@List.filter_cons_of_neg
abbrev yO:=@List.mem_append_left
abbrev uE:=@List.size_toArray
abbrev tC:=@List.pairwise_append
abbrev sL:=@List.length_replicate
abbrev yH:=@List.mem_cons_of_mem
abbrev xI:=@List.mem_cons_self
abbrev vO:=@List.set_set
abbrev tS:=@List.all_append
abbrev i_:=@List.length_nil
abbrev tD:=@List.set_append_right
abbrev fC:=@List.set_append_left
abbrev e_:=@List.length_map
abbrev yR:=@List.mem_range
abbrev fE:=@List.mapM_cons
abbrev uP:=@Nat.lt_succ_self
abbrev wZ:=@Nat.sub_self
abbrev fF:=@Nat.lt_or_eq_of_le
abbrev fG:=@Nat.le_of_lt_succ
abbrev oZ:=@Nat.le_add_right
abbrev rK:=@Bool.or_false
abbrev rL:=@Bool.and_false
abbrev vP:=@Bool.false_and
abbrev yC:=@List.all_eq_true
abbrev fH:=@List.take_left'
abbrev zP:=@List.mem_filter
abbrev M_:=@Nat.le_refl
abbrev wV:=@Nat.lt_of_lt_of_le
abbrev tT:=@Nat.testBit_lt_two_pow
abbrev wO:=@Nat.mul_le_mul_right
abbrev uF:=@Nat.mod_eq_of_lt
abbrev tU:=@Nat.or_lt_two_pow
abbrev uG:=@Nat.pow_le_pow_right
abbrev qO:=@Nat.ne_of_beq_eq_false
abbrev K_:=@Nat.zero_add
abbrev rM:=@Nat.min_eq_left
abbrev sM:=@Nat.succ_mul
abbrev sN:=@Nat.add_mul
abbrev p_:=@Nat.zero_le
abbrev mZ:=@Nat.eq_of_beq_eq_true
abbrev fI:=@Nat.and_two_pow_sub_one_eq_mod
abbrev lA:=@Nat.eq_of_testBit_eq
abbrev lB:=@Nat.lt_or_gt_of_ne
abbrev nA:=@Nat.lt_or_ge
abbrev yS:=@Nat.le_trans
abbrev zI:=@Nat.mul_one
abbrev lC:=@Nat.testBit_or
abbrev nB:=@Nat.mod_lt
abbrev fJ:=@Nat.testBit_two_pow
abbrev fK:=@List.getElem?_eq_none_iff
abbrev uQ:=@List.map_nil
abbrev wB:=@List.getElem?_cons_zero
abbrev tE:=@List.take_zero
abbrev fL:=@List.filterMap_append
abbrev fM:=@List.mem_of_mem_take
abbrev sO:=@List.findIdx?_append
abbrev fN:=@List.replicate_succ
abbrev uR:=@List.map_congr_left
abbrev fO:=@List.map_replicate
abbrev lD:=@List.map_map
abbrev yD:=@List.mem_map
abbrev qP:=@List.nodup_append
abbrev vW:=@List.prefix_refl
abbrev fP:=@List.count_cons
abbrev rN:=@List.nil_append
abbrev fQ:=@List.nodup_nil
abbrev tG:=@Nat.le_of_eq
abbrev sQ:=@Option.getD_some
abbrev wP:=@Option.map_some
abbrev wQ:=@BitVec.getLsbD_and
abbrev rP:=@BitVec.getLsbD_not
abbrev sR:=@Bool.eq_iff_iff
abbrev vC:=@List.findIdx?_eq_some_iff_getElem
abbrev uS:=@List.findIdx?_cons
abbrev uH:=@List.mem_flatMap
abbrev tW:=@List.filter_cons
abbrev vI:=@List.filter_append
abbrev tH:=@List.flatMap_append
abbrev xW:=@List.range_succ
abbrev qQ:=@List.sum_cons
abbrev vX:=@List.length_filter_le
abbrev nC:=@List.take_append_of_le_length
abbrev qR:=@List.mem_filterMap
abbrev lE:=@List.prefix_append
abbrev fR:=@List.eq_of_mem_replicate
abbrev lF:=@Bool.or_true
abbrev nE:=@Int.natCast_mul
abbrev Ycc:=@Int.toNat_of_nonneg
abbrev tX:=@List.append_sublist_append_left
abbrev uI:=@List.nil_sublist
abbrev tJ:=@List.not_mem_nil
abbrev sS:=@List.take_add_one
abbrev vY:=@Nat.mul_le_mul_left
abbrev lG:=@Nat.pow_succ
abbrev xC:=@Nat.mul_add
abbrev nG:=@Int.negSucc_lt_zero
abbrev M':=@List.take_length
abbrev xX:=@List.mem_append_right
abbrev xO:=@List.foldl_append
abbrev wW:=@List.foldl_cons
abbrev uJ:=@List.take_of_length_le
abbrev rQ:=@List.set_cons_succ
abbrev rR:=@List.length_filterMap_le
abbrev nH:=@List.cons_append
abbrev uT:=@List.take_append_drop
abbrev yV:=@List.map_append
abbrev lH:=@List.length_take_le
abbrev tK:=@List.foldl_nil
abbrev vQ:=@List.flatMap_cons
abbrev lI:=@List.all_eq_false
abbrev fS:=@List.drop_eq_getElem_cons
abbrev lJ:=@List.sum_append
abbrev fT:=@List.length_pos_of_mem
abbrev fU:=@List.findIdx_cons
abbrev nI:=@List.filter_nil
abbrev sT:=@Nat.lt_trichotomy
abbrev tY:=@Int.le_refl
abbrev lK:=@List.count_append
abbrev fV:=@List.count_singleton_self
abbrev fW:=@List.findIdx?_eq_none_iff
abbrev fX:=@List.pairwise_flatMap
abbrev fY:=@List.getElem_of_mem
abbrev fZ:=@List.ne_nil_of_mem
abbrev rS:=@List.length_range
abbrev f_:=@Nat.le_mul_of_pos_left
abbrev lL:=@Nat.le_of_lt
abbrev eA:=@Option.map_none
abbrev xJ:=@List.perm_append_singleton
abbrev xD:=@List.sublist_cons_self
abbrev nJ:=@List.eq_replicate_iff
abbrev nK:=@List.filterMap_cons
abbrev eB:=@List.mem_map_of_mem
abbrev eC:=@List.filterMap_nil
abbrev eD:=@Nat.sub_add_cancel
abbrev eE:=@Option.map_eq_some_iff
abbrev I_:=@if_neg
abbrev J_:=@if_pos
abbrev N_(b:Nat):Option Go.Addr:=zY ⟨b,0,zV⟩
abbrev U_(b:Nat):Go.Value:=.pointer (zY ⟨b,0,zV⟩)
abbrev A_:Int->Go.Value:=Go.Value.int .i64
open Go.Proofs.Tryz
section
variable{p:Prop}
def n_[h:Decidable p](k:¬p):zT p=zU:=decide_eq_false k
def r_[h:Decidable p](k:p):zT p=zW:=decide_eq_true k
def g_[h:Decidable p](k:¬p:=by omega):zT p=zU:=decide_eq_false k
def t_[h:Decidable p](k:p:=by omega):zT p=zW:=decide_eq_true k
def qT[h:Decidable p]:(zT p=zU)=¬p:=propext decide_eq_false_iff_not
def z'[h:Decidable p]:(zT p=zW)=p:=decide_eq_true_eq
end
namespace Go.Proofs.YtelngokgpnphfaaGreatDoor
variable{P:w_}{f:FuncId}{S B:Nat->Prop}{m:Sem v_}{K:v_->Prop}{e t kt:x_}{x y:z_}{v z:v_}{w w0:y_}{b o n lo cap by_ i sz j:Nat}{Q:Exit->Act->y_->Prop}{N:Act->y_->Prop}{c:Code}{l cs:List v_}{k d:IntKind}{vs:Array (Nat×v_)}{a:Option Addr}{bs:Array v_}{la lb:List Lit}{r:Bool}{q h:Int}{s:ByteArray}{es:Array MapEntry}{g:Array Oper}{Z:List Nat}
abbrev Aa:=Array Obj
abbrev Fr:=List v_
structure l_(w w':y_):Prop where
 os:w'.os=w.os
 tape:w'.tape=w.tape
 output:w'.output=w.output
def l_.refl(w:y_):l_ w w:=⟨rfl,rfl,rfl⟩
def l_.trans{a b c:y_}(h:l_ a b)(k:l_ b c):l_ a c:=⟨k.os.trans h.os,k.tape.trans h.tape,k.output.trans h.output⟩
def Ai(P:w_)(f:FuncId)(args:Array v_)(H:Aa)(R:v_->Aa->Prop):Prop:=∀w:y_,w.heap=H->(callFunc f args).run P w= .ok (.enter f args) w/\
  Calls P f args w λe w'=>∃v,e= .returned v/\l_ w w'/\R v w'.heap
variable{H H0 H':Aa}{R R':v_->Aa->Prop}
def Ai.mono{a:Array v_}(h:Ai P f a H R) (c:∀v H',R v H'->R' v H'):Ai P f a H R':=λw b=>
 ⟨(h w b).1,(h w b).2.mono λ_ _ ⟨v,d,e,r⟩=>⟨v,d,e,c _ _ r⟩⟩
def D_(S:Nat->Prop)(H H':Aa):Prop:=∀k,S k->H'[k]?=H[k]?
def D_.refl(S:Nat->Prop)(H:Aa):D_ S H H:=λ_ _=>rfl
def D_.trans{a b c:Aa}(h:D_ S a b)(k:D_ S b c):D_ S a c:=λi d=>(k i d).trans (h i d)
def D_.mono{S':Nat->Prop}{a b:Aa}(h:D_ S a b)(hs:∀k,S' k->S k):D_ S' a b:=λi c=>h i (hs i c)
structure AH(P:w_)(m:Sem v_)(S:Nat->Prop)(H:Aa)(K:v_->Prop):Prop where
 in_::
 out_:∃v,(∀w:y_,D_ S H w.heap->m.run P w= .ok v w)/\K v
structure B0(P:w_)(m:Sem v_)(H:Aa)(K:v_->Aa->Prop):Prop where
 in_::
 out_:∀w:y_,w.heap=H->∃v w',m.run P w= .ok v w'/\l_ w w'/\K v w'.heap
structure Co(P:w_)(m:Sem Unit)(H:Aa)(K:Aa->Prop):Prop where
 in_::
 out_:∀w:y_,w.heap=H->∃w',m.run P w= .ok () w'/\l_ w w'/\K w'.heap
structure Ae(P:w_)(f:FuncId)(args:Array v_)(H:Aa)(K:v_->Aa->Prop):Prop where
 in_::
 out_:Ai P f args H K
structure LI(P:w_)(f:FuncId)(args:Array v_)(S:Nat->Prop)(H:Aa)(K:v_->Prop):Prop where
 in_::
 out_:∃v,(∀H',D_ S H H'->Ai P f args H' λv' H''=>v'=v/\D_ S H' H'')/\K v
def AH.mk(v:v_)(h:∀w:y_,D_ S H w.heap->m.run P w= .ok v w) (k:K v):AH P m S H K:=by exact⟨⟨v,h,k⟩⟩
def B0.mk{K:v_->Aa->Prop}(h:∀w:y_,w.heap=H->∃v a,m.run P w= .ok v a/\l_ w a/\K v a.heap):B0 P m H K:=by exact⟨h⟩
def Co.mk{m:Sem Unit}{K:Aa->Prop}(h:∀w:y_,w.heap=H->∃a,m.run P w= .ok () a/\l_ w a/\K a.heap):Co P m H K:=by exact⟨h⟩
def Ae.mk{a:Array v_}{K:v_->Aa->Prop}(h:Ai P f a H R) (k:∀v H',R v H'->K v H'):Ae P f a H K:=by exact⟨h.mono k⟩
def LI.mk{a:Array v_}(v:v_)(h:∀H',D_ S H H'->Ai P f a H' λb H''=>b=v/\D_ S H' H'') (k:K v):LI P f a S H K:=by exact⟨⟨v,h,k⟩⟩
def AB(b:Bool)(p q:Prop):Prop:=match b with | true=>p | false=>q
def AB.mk{b:Bool}{p q:Prop}(h:b=zW->p)(k:b=zU->q):AB b p q:=by cases b;exact k rfl;exact h rfl
def AB.m2{d p q:Prop}[h:Decidable d](k:d->p)(l:¬d->q):AB (zT d) p q:=AB.mk (λe=>k (of_decide_eq_true e)) (λe=>l (of_decide_eq_false e))
section
variable{R:Type}
noncomputable def yJ(l:Fr):Nat->(v_->R)->R:=ApX (motive:=λ_=>Nat->(v_->R)->R) (λ_ K=>K undef) (λv _ ih n K=>Nat.casesOn n (K v) λm=>ih m K) l
noncomputable def xL(l:Fr):Nat->v_->(Fr->R)->R:=ApX (motive:=λ_=>Nat->v_->(Fr->R)->R) (λ_ _ K=>K []) (λx l ih n v K=>Nat.casesOn n (K (v::l)) λm=>ih m v λl'=>K (x::l')) l
noncomputable def zH(fr:Fr)(x:z_)(K:v_->R):R:=match x with
 | .tmp t=>yJ fr t K
 | .const v=>K v
 | .global g=>K (U_ g)
 | .func f=>K (.func (.func f) #[] #[])
noncomputable def Jl(fr:Fr)(l:List z_):(List v_->R)->R:=ApX (motive:=λ_=>(List v_->R)->R) (λK=>K []) (λx _ ih K=>zH fr x λv=>ih λvs=>K (v::vs)) l
noncomputable def Di(dst:Option Tmp)(fr:Fr)(v:v_)(K:Fr->R):R:=match dst with
 | none=>K fr
 | some d=>xL fr d v K
end
def rd(fr:Fr)(i:Nat):v_:=fr.getD i undef
def yI(fr:Fr):z_->v_ | .tmp t=>rd fr t | .const v=>v | .global g=>U_ g | .func f=>.func (.func f) #[] #[]
def E6{R:Type}(K:v_->R):∀(fr:Fr) (i:Nat),yJ fr i K=K (rd fr i)| [],_=>rfl | _::_,0=>rfl | _::l,n+1=>by show yJ l n K=_;rw[E6 K l n];simp[rd]
def GE{R:Type}:∀(fr:Fr) (i:Nat) (v:v_) (K:Fr->R),xL fr i v K=K (fr.set i v)| [],_,_,_=>rfl | _::_,0,_,_=>rfl | x::l,n+1,v,K=>by show xL l n v (λa=>K (x::a))=_;rw[GE l n v];rfl
def Ki{R:Type}(fr:Fr)(x:z_)(K:v_->R):zH fr x K=K (yI fr x):=by cases x<;>first | rfl | exact E6 K fr _
def La{R:Type}(fr:Fr):∀(l:List z_) (K:List v_->R),Jl fr l K=K (l.map (yI fr))| [],_=>rfl | x::l,K=>by show zH fr x (λv=>Jl fr l λvs=>K (v::vs))=_;simp only[Ki,La fr l,wF]
def Cx{R:Type}(a:Option Tmp)(fr:Fr)(v:v_)(K:Fr->R):Di a fr v K=K (match a with | none=>fr | some d=>fr.set d v):=by cases a with|none=>rfl|some d=>exact GE fr d v K
structure At(fr:Fr)(a:Act):Prop where
 tmps:a.tmps.toList=fr
 defers:a.defers=[]
variable{fr:Fr}
def At.eval{a:Act}(h:At fr a)(x:z_):a.eval x=yI fr x:=by cases x with|tmp t=>obtain⟨rfl,_⟩:=h;simp[Act.eval,yI,rd]|const v=>rfl|global g=>rfl|func f=>rfl
def At.evalF{a:Act}(h:At fr a):a.eval=yI fr:=funext h.eval
def At.put{a:Act}(h:At fr a)(b:Option Tmp)(v:v_):At (match b with | none=>fr | some d=>fr.set d v) (a.put b v):=by obtain⟨rfl,c⟩:=h;cases b with|none=>exact⟨rfl,c⟩|some d=>exact⟨by simp[Act.put],c⟩
def uM:IntKind->IntKind->Bool | .i8,.i8 | .i16,.i16 | .i32,.i32 | .i64,.i64 | .u8,.u8 | .u16,.u16 | .u32,.u32 | .u64,.u64=>zW | _,_=>zU
def Am2{a b:IntKind}(h:uM a b=zW):a=b:=by cases a<;>cases b<;>first | rfl | simp[uM]at h
def SG:BinOp->v_->v_->Option v_
 | .add,.int k a,.int k' b=>match uM k k' with | true=>zY (.int k (k.wrap (a+b))) | false=>zV
 | .sub,.int k a,.int k' b=>match uM k k' with | true=>zY (.int k (k.wrap (a-b))) | false=>zV
 | .mul,.int k a,.int k' b=>match uM k k' with | true=>zY (.int k (k.wrap (a*b))) | false=>zV
 | .eql,.int k a,.int k' b=>match uM k k' with | true=>zY (.bool (a==b)) | false=>zV
 | .neq,.int k a,.int k' b=>match uM k k' with | true=>zY (.bool (a != b)) | false=>zV
 | .lss,.int k a,.int k' b=>match uM k k' with | true=>zY (.bool (zT (a<b))) | false=>zV
 | .leq,.int k a,.int k' b=>match uM k k' with | true=>zY (.bool (zT (a<=b))) | false=>zV
 | .gtr,.int k a,.int k' b=>match uM k k' with | true=>zY (.bool (zT (b<a))) | false=>zV
 | .geq,.int k a,.int k' b=>match uM k k' with | true=>zY (.bool (zT (b<=a))) | false=>zV
 | .eql,.string a,.string b=>zY (.bool (a.toList==b.toList))
 | .neq,.string a,.string b=>zY (.bool (!(a.toList==b.toList)))
 | _,_,_=>zV
def C2(op:BinOp)(t:x_)(x y:z_)(k c:IntKind)(a b:Int)(w:y_):(eqGuard op t x y (.int k a) (.int c b)).run P w= .ok () w:=by cases op<;>simp[eqGuard]
def Mp(op:BinOp)(t:x_)(x y:z_)(a b:ByteArray)(w:y_):(eqGuard op t x y (.string a) (.string b)).run P w= .ok () w:=by cases op<;>simp[eqGuard]
def UD{op:BinOp}{a b:v_}(h:SG op a b=zY v)(w:y_):(do eqGuard op t x y a b;binOp op t a b:Sem v_).run P w= .ok v w:=by
 unfold SG at h;split at h;all_goals try (split at h)
 all_goals first
  | (cases h;done)
  | (rename_i c;obtain rfl:=Am2 c;cases h;simp[C2,binOp,Op.intArith,Op.intCmp];done)
  | (cases h;simp[Mp,binOp,Op.stringOp];done)
def XG:UnOp->v_->Option v_ | .not,.bool b=>zY (.bool (!b))| .neg,.int k n=>zY (.int k (k.wrap (0-n)))| _,_=>zV
def XH{op:UnOp}{a:v_}(h:XG op a=zY v)(w:y_):(Op.unary op a).run P w= .ok v w:=by unfold XG at h;split at h<;>cases h<;>simp[Op.unary,Op.intArith]
noncomputable def ZK{R:Type}(fr:Fr)(x:Option z_)(K:Option v_->R):R:=match x with
 | none=>K zV
 | some x=>zH fr x λv=>K (zY v)
def Yo{R:Type}(fr:Fr)(x:Option z_)(K:Option v_->R):ZK fr x K=K (x.map (yI fr)):=by cases x<;>simp[ZK,Ki]
noncomputable def oM{R:Type}(fr:Fr)(l:List (Nat×z_)):(List (Nat×v_)->R)->R:=ApX (motive:=λ_=>(List (Nat×v_)->R)->R) (λK=>K []) (λp _ ih K=>zH fr p.2 λv=>ih λvs=>K ((p.1,v)::vs)) l
def ST{R:Type}(fr:Fr):∀(l:List (Nat×z_)) (K:List (Nat×v_)->R),oM fr l K=K (l.map fun(i,x)=>(i,yI fr x))| [],_=>rfl | (i,x)::l,K=>by show zH fr x (λv=>oM fr l λvs=>K ((i,v)::vs))=_;simp only[Ki,ST fr l,wF]
def Tz:Option TypeDesc->List v_->Option v_ | some (.slice _),[.slice _ n _]=>zY (.int .i64 n)| some .string,[.string s]=>zY (.int .i64 s.size)| _,_=>zV
def Vr{ty:x_}{vs:List v_}(h:Tz (P.underlying t) vs=zY v)(w:y_):(Builtin.len_ #[t] ty vs.toArray).run P w= .ok v w:=by unfold Tz at h;split at h<;>cases h<;>rename_i hu<;>simp[Builtin.len_,run_underlying hu,goInt]
def PM:Option TypeDesc->Option TypeDesc->v_->Option v_ | some _,zY (.int k),.int _ n=>zY (.int k (k.wrap n))| some _,zY .string,.string s=>zY (.string s)| _,_,_=>zV
def SL{s d:x_}{x:v_}(h:PM (P.underlying s) (P.underlying d) x=zY v)(w:y_):(convert s d x).run P w= .ok v w:=by unfold PM at h;split at h<;>cases h<;>rename_i a b;{simp[convert,run_underlying a,run_underlying b,Conv.intToInt]};simp[convert,run_underlying a,run_underlying b]
def Rg(P:w_)(S:Nat->Prop)(o:Oper)(fr:Fr)(H:Aa)(K:v_->Prop):Prop:=match o.op with
 | .move x=>zH fr x K
 | .assign x=>zH fr x K
 | .pick c a b=>zH fr c λvc=>match vc with
   | .bool b'=>AB b' (zH fr a K) (zH fr b K)
   | _=>False
 | .binOp op t x y _=>zH fr x λa=>zH fr y λb=>match SG op a b with
   | some v=>K v
   | none=>AH P (do eqGuard op t x y a b;binOp op t a b) S H K
 | .unOp op _ x=>zH fr x λa=>match XG op a with
   | some v=>K v
   | none=>AH P (Op.unary op a) S H K
 | .convert s d x=>zH fr x λa=>match PM (P.underlying s) (P.underlying d) a with
   | some v=>K v
   | none=>AH P (convert s d a) S H K
 | .extract x i=>zH fr x λa=>match a with
   | .tuple vs=>match vs.toList[i]? with
     | some v=>K v
     | none=>False
   | _=>False
 | .nilCheck x=>zH fr x λa=>match a with
   | .pointer (zY p)=>K (.pointer (zY p))
   | _=>False
 | .makeInterface t x=>zH fr x λa=>match P.underlying t with
   | some (.interface _)=>False
   | some _=>K (.iface t a)
   | none=>False
 | .makeFunc fn first cap=>Jl fr first.toList λvs=>Jl fr cap.toList λus=>K (.func fn vs.toArray us.toArray)
 | .load t a=>zH fr a λp=>AH P (Instr.loadAt t p) S H K
 | .index t x i=>zH fr x λa=>zH fr i λj=>AH P (Instr.index t a j) S H K
 | .indexAddr t x i=>zH fr x λa=>zH fr i λj=>AH P (Instr.indexAt t a j) S H K
 | .fieldAddr s x f=>zH fr x λa=>AH P (Instr.fieldAt s a f) S H K
 | .field t x f=>zH fr x λa=>AH P (Instr.field t a f) S H K
 | .slice t x lo hi mx=>zH fr x λa=>ZK fr lo λl=>ZK fr hi λh=>ZK fr mx λm=>AH P (Instr.sliceAt t a l h m) S H K
 | .lookup t x i ok=>zH fr x λa=>zH fr i λj=>AH P (Instr.lookup t a j ok) S H K
 | .build t ps=>oM fr ps.toList λvs=>AH P (Instr.build t vs.toArray) S H K
 | .typeAssert x t a ok=>zH fr x λv=>AH P (Instr.typeAssert v t a ok) S H K
 | .call {callee:=.builtin .len,args,argTypes}=>Jl fr args.toList λvs=>
   match argTypes.toList with
   | [t]=>match Tz (P.underlying t) vs with
     | some v=>K v
     | none=>AH P (Builtin.len_ argTypes o.type vs.toArray) S H K
   | _=>AH P (Builtin.len_ argTypes o.type vs.toArray) S H K
 | .call {callee:=.builtin .cap,args,argTypes}=>Jl fr args.toList λvs=>AH P (Builtin.cap_ argTypes o.type vs.toArray) S H K
 | .call {callee:=.builtin .min,args,argTypes}=>Jl fr args.toList λvs=>AH P (Builtin.min_ argTypes o.type vs.toArray) S H K
 | .call {callee:=.builtin .max,args,argTypes}=>Jl fr args.toList λvs=>AH P (Builtin.max_ argTypes o.type vs.toArray) S H K
 | _=>False
def On(o:Oper):Bool:=match o.op with
 | .move _ | .assign _ | .pick .. | .binOp .. | .unOp .. | .convert .. | .extract .. | .nilCheck _ | .makeInterface .. | .makeFunc .. | .load .. | .index ..
 | .indexAddr .. | .fieldAddr .. | .field .. | .slice .. | .lookup .. | .build .. | .typeAssert .. =>zW
 | .call {callee:=.builtin .len, .. } | .call {callee:=.builtin .cap, .. } | .call {callee:=.builtin .min, .. } | .call {callee:=.builtin .max, .. }=>zW
 | _=>zU
def AH.out(h:AH P m S H K):∃v,(∀w:y_,D_ S H w.heap->m.run P w= .ok v w)/\K v:=by exact h.out_
def BS{w':y_}(h:m.run P w= .ok v w'):(do pure (Next.value (<-m)):Sem Next).run P w= .ok (.value v) w':=by simp[h]
def Af5{m:Sem Unit}{w':y_}(h:m.run P w= .ok () w'):(do m;pure Next.skip:Sem Next).run P w= .ok .skip w':=by simp[h]
def FC{o:Oper}(h:Rg P S o fr H K):∃v,(∀w:y_,D_ S H w.heap->(execOp (yI fr) o).run P w= .ok (.value v) w)/\K v:=by
 unfold Rg at h;split at h<;>rename_i ho<;>simp only[Ki,La,Yo,ST]at h;all_goals simp only[execOp,ho]
 case h_1=>exact⟨_,λw _=>zZ,h⟩
 case h_2=>exact⟨_,λw _=>zZ,h⟩
 (case h_3=>split at h;{rename_i b g;cases b;{exact⟨_,λw _=>by simp[g,asBool],h⟩};exact⟨_,λw _=>by simp[g,asBool],h⟩};exact h.elim);(case h_4=>split at h;{rename_i v a;exact⟨v,λw _=>BS (UD a w),h⟩};have⟨v,a,k⟩:=h.out;exact⟨v,λw c=>BS (a w c),k⟩);(case h_5=>split at h;{rename_i v a;exact⟨v,λw _=>BS (XH a w),h⟩};have⟨v,a,k⟩:=h.out;exact⟨v,λw c=>BS (a w c),k⟩);(case h_6=>split at h;{rename_i v a;exact⟨v,λw _=>BS (SL a w),h⟩};have⟨v,a,k⟩:=h.out;exact⟨v,λw c=>BS (a w c),k⟩);(case h_7=>split at h;{split at h;{rename_i vs f _ v a;refine⟨v,λw _=>BS ?_,h⟩;simp at a;simp[Instr.extract,f,a]};exact h.elim};exact h.elim);(case h_8=>split at h;{rename_i p i;exact⟨_,λw _=>by simp[i],h⟩};exact h.elim);(case h_9=>split at h;{exact h.elim};{rename_i d j l;refine⟨_,λw _=>BS ?_,h⟩;cases d<;>first | (exact(j _ rfl).elim) | simp[Instr.makeInterface,run_underlying l]};exact h.elim);(case h_10=>refine⟨_,λw _=>BS ?_,h⟩;simp only[<-sK,qM];simp[Instr.makeFunc])
 all_goals try
  have⟨v,a,k⟩:=h.out;exact⟨v,λw c=>BS (a w c),k⟩
 (case h_18=>have⟨v,a,k⟩:=h.out;simp only[<-sK,qM]at a;exact⟨v,λw c=>BS (a w c),k⟩);all_goals simp only[<-sK,qM]at h
 (case h_20=>
 split at h;rename_i t n;split at h;{rename_i v a;refine⟨v,λw _=>BS (m:=Builtin.len_ _ _ _) ?_,h⟩;have e:∀{A:Array x_},A.toList=[t]->A= #[t]:=λh=>ApS (by simpa using h);obtain rfl:=e n;have q:=Vr (ty:=o.type) a w;rwa [qM]at q};rotate_left
 all_goals have⟨v,a,k⟩:=h.out;exact⟨v,λw c=>BS (m:=Builtin.len_ _ _ _) (a w c),k⟩);(case h_21=>have⟨v,a,k⟩:=h.out;exact⟨v,λw c=>BS (m:=Builtin.cap_ _ _ _) (a w c),k⟩);(case h_22=>have⟨v,a,k⟩:=h.out;exact⟨v,λw c=>BS (m:=Builtin.min_ _ _ _) (a w c),k⟩);(case h_23=>have⟨v,a,k⟩:=h.out;exact⟨v,λw c=>BS (m:=Builtin.max_ _ _ _) (a w c),k⟩);all_goals exact h.elim
structure L0(P:w_)(t:x_)(x:v_)(name:String)(args:Array v_)(H:Aa)(K:v_->Aa->Prop):Prop where
 in_::
 out_:∃f as1,(∀w:y_,w.heap=H->(callMethod (.iface t x) name args).run P w= .ok (.enter f as1) w)/\Ai P f as1 H K
def XU(P:w_)(q:Bool)(S:Nat->Prop)(f:v_)(args:List v_)(H:Aa)(K:v_->Aa->Prop):Prop:=match f with
 | .func (.func g) first cap=>match q with
   | true=>LI P g (first.toList++args++cap.toList).toArray S H λv=>K v H
   | false=>Ae P g (first.toList++args++cap.toList).toArray H K
 | _=>False
def mL(P:w_)(o:Oper)(fr:Fr)(H:Aa)(K:v_->Aa->Prop):Prop:=match o.op with
 | .alloc t=>B0 P (Instr.alloc t zW (.tuple #[])) H K
 | .box t x=>zH fr x λv=>B0 P (Instr.box t v) H K
 | .buildSlice t n ps=>oM fr ps.toList λvs=>B0 P (Instr.buildSlice t n vs.toArray) H K
 | .store t a x=>zH fr a λp=>zH fr x λv=>Co P (Instr.storeAt t p v) H λH'=>K undef H'
 | .makeMap t r=>ZK fr r λv=>B0 P (Instr.makeMap t v) H K
 | .makeSlice t l c=>zH fr l λn=>zH fr c λm=>B0 P (Instr.makeSlice t n m) H K
 | .mapUpdate t m k x=>zH fr m λr=>zH fr k λj=>zH fr x λv=>Co P (Instr.mapUpdate t r j v) H λH'=>K undef H'
 | .insert t m k x=>zH fr m λr=>zH fr k λj=>zH fr x λv=>Co P (Instr.mapUpdate t r j v) H λH'=>K undef H'
 | .mapEntry t m k=>zH fr m λr=>zH fr k λj=>B0 P (Instr.mapEntry t r j) H K
 | .entryStore t m s x=>zH fr m λr=>zH fr s λj=>zH fr x λv=>Co P (Instr.entryStore t r j v) H λH'=>K undef H'
 | .range t x=>zH fr x λv=>B0 P (Instr.range t v) H K
 | .next it s=>zH fr it λv=>B0 P (Instr.next v s o.type) H K
 | .entry it=>zH fr it λv=>B0 P (Instr.entry v) H K
 | .convert s d x=>zH fr x λv=>B0 P (convert s d v) H K
 | .call {callee:=.builtin .append,args,argTypes}=>Jl fr args.toList λvs=>B0 P (Builtin.append_ argTypes o.type vs.toArray) H K
 | .call {callee:=.builtin .copy,args,argTypes}=>Jl fr args.toList λvs=>B0 P (Builtin.copy_ argTypes o.type vs.toArray) H K
 | .call {callee:=.builtin .delete,args,argTypes}=>Jl fr args.toList λvs=>B0 P (Builtin.delete_ argTypes o.type vs.toArray) H K
 | .call {callee:=.builtin .clear,args,argTypes}=>Jl fr args.toList λvs=>B0 P (Builtin.clear_ argTypes o.type vs.toArray) H K
 | .call {callee:=.invoke r name,args, .. }=>zH fr r λv=>Jl fr args.toList λvs=>match v with
   | .iface t x=>L0 P t x name vs.toArray H K
   | _=>False
 | .call {callee:=.value f,args, .. }=>zH fr f λg=>Jl fr args.toList λvs=>XU P zU (λ_=>True) g vs H K
 | _=>False
def HX(P:w_)(o:Oper):Bool:=match o.op with
 | .convert s d _=>match P.underlying s,P.underlying d with
   | some (.slice _),_=>zU
   | some .string,zY (.slice _)=>zU
   | _,_=>zW
 | _=>zW
def wR(P:w_)(q:Bool)(S:Nat->Prop)(o:Oper)(fr:Fr)(H:Aa)(K:v_->Aa->Prop):Prop:=match On o&&HX P o with
 | true=>Rg P S o fr H λv=>K v H
 | false=>match q with
   | true=>match o.op with
     | .call {callee:=.value f,args, .. }=>zH fr f λg=>Jl fr args.toList λvs=>XU P zW S g vs H K
     | _=>False
   | false=>mL P o fr H K
def B0.out{K:v_->Aa->Prop}(h:B0 P m H K):∀w:y_,w.heap=H->∃v a,m.run P w= .ok v a/\l_ w a/\K v a.heap:=by exact h.out_
def Co.out{m:Sem Unit}{K:Aa->Prop}(h:Co P m H K):∀w:y_,w.heap=H->∃a,m.run P w= .ok () a/\l_ w a/\K a.heap:=by exact h.out_
def Ae.out{a:Array v_}{K:v_->Aa->Prop}(h:Ae P f a H K):Ai P f a H K:=by exact h.out_
def LI.out{a:Array v_}(h:LI P f a S H K):∃v,(∀H',D_ S H H'->Ai P f a H' λb H''=>b=v/\D_ S H' H'')/\K v:=by exact h.out_
section
variable{x:v_}{a:String}{b:Array v_}{K:v_->Aa->Prop}
def L0.out(h:L0 P t x a b H K):∃f c,(∀w:y_,w.heap=H->(callMethod (.iface t x) a b).run P w= .ok (.enter f c) w)/\Ai P f c H K:=by exact h.out_
def L0.mk(f:FuncId)(c:Array v_)(d:∀w:y_,(callMethod (.iface t x) a b).run P w= .ok (.enter f c) w) (h:Ai P f c H R) (k:∀v H',R v H'->K v H'):L0 P t x a b H K:=by exact⟨⟨f,c,λw _=>d w,h.mono k⟩⟩
end
def Ws(P:w_)(o:Oper)(a:Act)(w:y_)(K:v_->Aa->Prop):Prop:=∀Q:Exit->Act->y_->Prop,o.wp P a w (λa' w'=>∃v,a'=a.put o.dst v/\l_ w w'/\K v w'.heap) Q
section
variable{o:Oper}{a:Act}
def Qr{w':y_}{K:v_->Aa->Prop}(h:(execOp a.eval o).run P w= .ok (.value v) w') (b:l_ w w') (k:K v w'.heap):Ws P o a w K:=by intro Q;unfold Oper.wp;rw[h];exact⟨v,rfl,b,k⟩
def eY{w':y_}{K:v_->Aa->Prop}(h:(execOp a.eval o).run P w= .ok .skip w') (b:l_ w w') (k:K undef w'.heap):Ws P o a w K:=by intro Q;unfold Oper.wp;rw[h];exact⟨undef,rfl,b,k⟩
def Qq{K:v_->Aa->Prop}{b:Array v_}(h:(execOp a.eval o).run P w=(callFunc f b).run P w) (k:Ai P f b w.heap K):Ws P o a w K:=by intro Q;unfold Oper.wp;rw[h,(k w rfl).1];refine(k w rfl).2.mono ?_;rintro e g ⟨v,rfl,c,d⟩;exact⟨v,rfl,c,d⟩
def WJ{K:v_->Aa->Prop}(j:At fr a)(h:mL P o fr w.heap K):Ws P o a w K:=by
 have i:=j.evalF;unfold mL at h;split at h<;>rename_i ho<;>try simp only[Ki,La,Yo,ST,<-sK,qM]at h
 all_goals try (
  have⟨v,n,k,d,l⟩:=h.out w rfl;exact Qr (by rw[i];simp only[execOp,ho];exact BS k) d l)
 all_goals try (
  have⟨n,k,d,l⟩:=h.out w rfl;exact eY (by rw[i];simp only[execOp,ho];exact Af5 k) d l)
 (case h_19=>split at h;{rename_i t x p;have⟨f,q,r,m⟩:=h.out;refine Qq ?_ m;rw[i];simp only[execOp,ho,resolve,p];rw[(m w rfl).1,<-r w rfl];have s:∀A:Array v_,(#[Value.iface t x]++A)[0]?=zY (Value.iface t x):=λA=>by{simp[Array.getElem?_append]};rename_i b c _;have e2:(ApY (yI fr) b).extract 0 b.size=ApY (yI fr) b:=by{rw[(zZ:b.size=(ApY (yI fr) b).size)];exact Array.extract_size};simp[invoke,s,e2]};exact h.elim);(case h_20=>
 unfold XU at h;rename_i y b c;split at h;{
 rename_i g first cap u
 refine Qq ?_ h.out;rw[i];have e:(first.toList++(ApY (yI fr) b).toList++cap.toList).toArray=first++ApY (yI fr) b++cap:=ApS zZ
 rw[e];simp only[execOp,ho,resolve,u,Deferred.ofValue];simp[invoke]};exact h.elim);all_goals exact h.elim
def DA{K:v_->Aa->Prop}(b:At fr a)(h:wR P zU (λ_=>True) o fr w.heap K):Ws P o a w K:=by unfold wR at h;split at h;{have⟨v,c,d⟩:=FC h;exact Qr (by rw[b.evalF];exact c w (D_.refl _ _)) (l_.refl w) d};exact WJ b h
end
def xQ(w0:y_)(S:Nat->Prop)(w:y_):Prop:=l_ w0 w/\D_ S w0.heap w.heap
def eX{o:Oper}{a:Act}{K:v_->Aa->Prop}(d:At fr a)(h:wR P zW S o fr w0.heap K):∃v,(∀w,xQ w0 S w->o.quietAt P a (xQ w0 S) w v)/\K v w0.heap:=by
 unfold wR at h;split at h;{have⟨v,l,k⟩:=FC h;refine⟨v,λw i=>?_,k⟩;unfold Oper.quietAt;rw[d.evalF,l w i.2];exact⟨rfl,rfl⟩};dsimp only at h;split at h;{
 rename_i f b c m;simp only[Ki,La,<-sK]at h;unfold XU at h;split at h;{
 rename_i g first cap n
 have⟨v,p,k⟩:=h.out;refine⟨v,λw i=>?_,k⟩;have⟨q,r⟩:=p w.heap i.2 w rfl;have s:(execOp a.eval o).run P w=(callFunc g (first.toList++(ApY (yI fr) b).toList++cap.toList).toArray).run P w:=by{
 rw[d.evalF];have e:(first.toList++(ApY (yI fr) b).toList++cap.toList).toArray=first++ApY (yI fr) b++cap:=ApS zZ
 rw[e];simp only[execOp,m,resolve,n,Deferred.ofValue];simp[invoke]};unfold Oper.quietAt;rw[s,q];refine⟨rfl,r.mono ?_⟩;rintro e u ⟨x,rfl,j,rfl,t⟩;exact⟨rfl,i.1.trans j,i.2.trans t⟩};exact h.elim};exact h.elim
def xY(K:Fr->Aa->Prop)(fr:Fr)(H:Aa):Prop:=K fr H
def Tq(P:w_)(q:Bool)(S:Nat->Prop)(o:Oper)(want:Bool)(t:Nat)(fr:Fr)(H:Aa)(K:Fr->Aa->Prop):Prop:=yJ fr t λv=>match v with
  | .bool b=>AB b
    (xL fr t (.bool zW) λfr1=>match want with
     | true=>wR P q S o fr1 H λv H'=>Di o.dst fr1 v λfr'=>xY K fr' H'
     | false=>Di o.dst fr1 undef λfr'=>xY K fr' H)
    (xL fr t (.bool zU) λfr1=>match want with
     | false=>wR P q S o fr1 H λv H'=>Di o.dst fr1 v λfr'=>xY K fr' H'
     | true=>Di o.dst fr1 undef λfr'=>xY K fr' H)
  | .tuple _=>Di o.dst fr undef λfr'=>xY K fr' H
  | _=>False
def MV(P:w_)(q:Bool)(S:Nat->Prop)(all:List Oper)(l:List Oper):Fr->Aa->(Fr->Aa->Prop)->Prop:=ApX (motive:=λ_=>Fr->Aa->(Fr->Aa->Prop)->Prop) (λfr H K=>K fr H) (λo _ ih fr H K=>
  match o.guard with
  | none=>wR P q S o fr H λv H'=>Di o.dst fr v λfr'=>ih fr' H' K
  | some (j,want)=>match(all[j]?).bind (·.dst)with
    | none=>False
    | some t=>Tq P q S o want t fr H λfr' H'=>ih fr' H' K) l
def RO(P:w_)(q:Bool)(S:Nat->Prop)(all rest:List Oper)(o:Oper)(fr:Fr)(H:Aa)(K:Fr->Aa->Prop):MV P q S all (o::rest) fr H K=(match o.guard with | none=>wR P q S o fr H λv H'=>Di o.dst fr v λa=>MV P q S all rest a H' K | some (j,want)=>match(all[j]?).bind (·.dst)with | none=>False | some t=>Tq P q S o want t fr H λa H'=>MV P q S all rest a H' K):=rfl
def EZ{t:Nat}(h:rd fr t=v)(b:v≠undef):fr.set t v=fr:=by unfold rd at h;rcases nA t fr.length with a | a;{rw[xA,zJ a]at h;subst h;exact gO a};rw[xA,zC a]at h;exact absurd h.symm b
def JQ{c:List Oper}{a:Act}(e:At fr a){t:Nat}(f:(c[j]?).bind (·.dst)=zY t){b:Bool}(d:rd fr t= .bool b):yielded c.toArray a.tmps j=zY b:=by
 obtain⟨rfl,_⟩:=e;unfold yielded;have:((c.toArray[j]?).bind (·.dst))=zY t:=by simpa using f
 rw[this];unfold rd at d;rw[xA]at d;simp only[wA];cases h:a.tmps[t]? with|none=>simp[h,undef]at d|some v=>simp[h]at d;simp[d]
def JR{b:List Oper}{a:Act}(d:At fr a){t:Nat}(e:(b[j]?).bind (·.dst)=zY t){vs:Array v_}(c:rd fr t= .tuple vs):yielded b.toArray a.tmps j=zV:=by
 obtain⟨rfl,_⟩:=d;unfold yielded;have:((b.toArray[j]?).bind (·.dst))=zY t:=by simpa using e
 rw[this];unfold rd at c;rw[xA]at c;simp only[wA];cases h:a.tmps[t]? with|none=>rfl|some v=>simp[h]at c;simp[c]
def Mk{P:w_}{all:List Oper}{Q:Exit->Act->y_->Prop}:∀(l:List Oper) (fr:Fr) (a:Act) (w:y_) (K:Fr->Aa->Prop),At fr a->
  (∀d a' g,At d a'->l_ w g->K d g.heap->Q .normal a' g)->
  MV P zU (λ_=>True) all l fr w.heap K->wpList P all.toArray Q l a w
 | [],fr,a,w,K,hat,hq,h=>hq fr a w hat (l_.refl w) h
 | o::l,fr,a,w,K,hat,hq,h=>by
   have go:∀(c:Bool),(c=zW->Ws P o a w λv H'=>Di o.dst fr v λd=>MV P zU (λ_=>True) all l d H' K)->
     (c=zU->Di o.dst fr undef λd=>MV P zU (λ_=>True) all l d w.heap K)->
     Region.wanted o (yielded all.toArray a.tmps)=c->wpList P all.toArray Q (o::l) a w:=by
    intro c n p u;unfold wpList;rw[u];cases c with
    | true=>
      refine .inl (Oper.wp_mono ?_ (n rfl _));rintro a' g ⟨v,rfl,f,r⟩;rw[Cx]at r;exact Mk l _ _ _ K (hat.put o.dst v) (λd a' q n p i=>hq d a' q n (f.trans p) i) r
    | false=>
      have i:=p rfl;rw[Cx]at i;exact Mk l _ _ _ K (hat.put o.dst undef) hq i
   rw[RO]at h;split at h
   ·rename_i e;exact go zW (λ_=>DA hat h) (λh=>by cases h) (by simp[Region.wanted,e])
   ·rename_i j c e;split at h
    ·exact h.elim
    ·rename_i t s;unfold Tq at h;simp only[xY]at h;rw[E6]at h;split at h
     ·rename_i b k;have m:=JQ hat s k;have hs:fr.set t (.bool b)=fr:=EZ k (by simp[undef]);cases b<;>cases c<;>simp only[AB,GE,hs]at h
      ·exact go zW (λ_=>DA hat h) (λh=>by cases h) (by simp[Region.wanted,e,m])
      ·exact go zU (λh=>by cases h) (λ_=>h) (by simp[Region.wanted,e,m])
      ·exact go zU (λh=>by cases h) (λ_=>h) (by simp[Region.wanted,e,m])
      ·exact go zW (λ_=>DA hat h) (λh=>by cases h) (by simp[Region.wanted,e,m])
     ·rename_i vs k;exact go zU (λh=>by cases h) (λ_=>h) (by simp[Region.wanted,e,JR hat s k])
     ·exact h.elim
def AjT{id:Nat}{l:List Oper}{a:Act}{K:Fr->Aa->Prop}(c:At fr a)(e:∀b a' d,At b a'->l_ w d->K b d.heap->Q .normal a' d)(h:MV P zU (λ_=>True) l l fr w.heap K):(Code.region id l.toArray zU).wp P Q a w:=wp_region_lit (Mk l fr a w K c e h)
def J8{P:w_}{S:Nat->Prop}{all:List Oper}{w0:y_}:∀(l:List Oper) (fr:Fr) (a:Act) (K:Fr->Aa->Prop) (Q:Act->Prop),At fr a->
  (∀d a',At d a'->K d w0.heap->Q a')->
  MV P zW S all l fr w0.heap K->wpQuiet P all.toArray (xQ w0 S) Q l a
 | [],fr,a,K,Q,hat,hq,h=>hq fr a hat h
 | o::l,fr,a,K,Q,hat,hq,h=>by
   have go:∀(c:Bool),(c=zW->wR P zW S o fr w0.heap λv H'=>Di o.dst fr v λd=>MV P zW S all l d H' K)->
     (c=zU->Di o.dst fr undef λd=>MV P zW S all l d w0.heap K)->
     Region.wanted o (yielded all.toArray a.tmps)=c->wpQuiet P all.toArray (xQ w0 S) Q (o::l) a:=by
    intro c n p q;unfold wpQuiet;rw[q];cases c with
    | true=>
      have⟨v,r,i⟩:=eX hat (n rfl);rw[Cx]at i;exact⟨v,r,J8 l _ _ K Q (hat.put o.dst v) hq i⟩
    | false=>
      have k:=p rfl;rw[Cx]at k;exact J8 l _ _ K Q (hat.put o.dst undef) hq k
   rw[RO]at h;split at h
   ·rename_i e;exact go zW (λ_=>h) (λh=>by cases h) (by simp[Region.wanted,e])
   ·rename_i j c e;split at h
    ·exact h.elim
    ·rename_i t m;unfold Tq at h;simp only[xY]at h;rw[E6]at h;split at h
     ·rename_i b f;have g:=JQ hat m f;have hs:fr.set t (.bool b)=fr:=EZ f (by simp[undef]);cases b<;>cases c<;>simp only[AB,GE,hs]at h
      ·exact go zW (λ_=>h) (λh=>by cases h) (by simp[Region.wanted,e,g])
      ·exact go zU (λh=>by cases h) (λ_=>h) (by simp[Region.wanted,e,g])
      ·exact go zU (λh=>by cases h) (λ_=>h) (by simp[Region.wanted,e,g])
      ·exact go zW (λ_=>h) (λh=>by cases h) (by simp[Region.wanted,e,g])
     ·rename_i vs f;exact go zU (λh=>by cases h) (λ_=>h) (by simp[Region.wanted,e,JR hat m f])
     ·exact h.elim
structure Ap(P:w_)(l:List Oper)(fr:Fr)(H:Aa)(K:Fr->Aa->Prop):Prop where
 in_::
 out_:∀(id:Nat) (Q:Exit->Act->y_->Prop) (a:Act) (w:y_),At fr a->w.heap=H->(∀c a w,¬Q (.panic c) a w)->
  (∀fr' a' w',At fr' a'->l_ w w'->K fr' w'.heap->Q .normal a' w')->(Code.region id l.toArray zW).wp P Q a w
def Ap.quiet{l:List Oper}{K:Fr->Aa->Prop}(S:Nat->Prop)(f:P.follows .mixedOrders=zW)(g:Region.lexB .any l.toArray=zW) (h:MV P zW S l l fr H λb _=>∀H',D_ S H H'->K b H'):Ap P l fr H K:=by refine⟨?_⟩;intro id Q a w e i _ j;subst i;refine wp_region_quiet (C:=xQ w S) f g ⟨⟨rfl,rfl,rfl⟩,D_.refl _ _⟩ ?_;exact J8 l fr a _ _ e (λb a' c k m d=>j b a' m c d.1 (k _ d.2)) h
def AgC(h:D_ (λ_=>True) H H'):H'=H:=Array.ext_getElem? λi=>h i trivial
def Ap.lex{l:List Oper}{K:Fr->Aa->Prop}(f:P.follows .mixedOrders=zW)(g:Region.lexB .any l.toArray=zW) (h:MV P zW (λ_=>True) l l fr H K):Ap P l fr H K:=by refine⟨?_⟩;intro id Q a w d i _ j;subst i;refine wp_region_quiet (C:=xQ w λ_=>True) f g ⟨⟨rfl,rfl,rfl⟩,D_.refl _ _⟩ ?_;exact J8 l fr a K _ d (λe a' b k m c=>j e a' m b c.1 (by rw[AgC c.2];exact k)) h
def QX(P:w_)(ops:Array Oper)(Q:Exit->Act->y_->Prop)(S:y_->Prop)(z:Nat):Nat->Array Bool->Act->y_->Prop | 0,listed,a,w=>Region.ready .any ops listed=[]/\Q .normal a w | fuel+1,listed,a,w=>(Region.ready .any ops listed=[]->Q .normal a w)/\ ∀i∈Region.ready .any ops listed,wpOp P ops Q i (λa' w'=>(i≠z->S w')/\QX P ops Q S z fuel (listed.setIfInBounds i zW) a' w') a w
def QY{P:w_}{d:Array Oper}{Q:Exit->Act->y_->Prop}{S:y_->Prop}{z:Nat}:∀(b:Nat) (c:Array Bool) (a:Act) (w:y_),QX P d Q S z b c a w->wpAny P .any d Q b c a w | 0,_,_,_,h=>h | b+1,_,_,_,h=>⟨h.1,λi e=>wpOp_mono (λa' f g=>QY b _ a' f g.2) (h.2 i e)⟩
def Uu{f:Array Oper}{S:y_->Prop}{z:Nat}{x:Oper}(K:f[i]?=zY x)(r:∀(j:Nat) (o:Oper) B b,f[j]?=zY o->o.op≠ .select B b)(X:∀c a w,Q (.panic c) (a.put x.dst v) w->Q (.panic c) a w) (Y:i≠z) (Z:∀V,f[z]?=zY V->∃e∈V.after,Region.binds .any e=zW/\e.on=i):∀(g:Nat) (d:Array Bool) (a:Act) (w:y_),(∀j s,f[j]?=zY s->j≠i->d.getD j zW=zU->(∀e∈s.after,Region.binds .any e=zW->e.on≠i)->x.apart f s=zW)->i∈Region.ready .any f d->YieldsIf P f S x v a->S w->QX P f Q S z g (d.setIfInBounds i zW) (a.put x.dst v) w->QX P f Q S z (g+1) d a w:=by
 intro g;induction g with|zero=>intro d a w _ y G C H;refine⟨λh=>(by rw[h]at y;cases y),λj I=>?_⟩;by_cases l:j=i;{subst l;exact G.wpOp K C ⟨λ_=>C,H⟩};have:=ready_mono I l;rw[H.1]at this;cases this|succ g ih=>{
 intro d a w m y G C H;refine⟨λh=>(by rw[h]at y;cases y),λj I=>?_⟩;by_cases l:j=i;{subst l;exact G.wpOp K C ⟨λ_=>C,H⟩};have A:=H.2 j (ready_mono I l);have⟨t,s,n,D⟩:=mem_ready.1 I;have u:∀e∈s.after,Region.binds .any e=zW->e.on≠i:=λe L M N=>by{have A:=D e L M;have W:=(mem_ready.1 y).1;rw[N]at A;rcases nA i d.size with O | O;{simp[O]at W A;rw[W]at A;cases A};simp[mX O]at A};have p:j≠z:=by{intro p;subst p;have⟨e,L,M,R⟩:=Z s n;exact u e L M R};have h2:=wpOp_putIf n (m j s n l t u) (λB b=>r i x B b K) (λB b=>r j s B b n) X G A
 have q:∀k ok,f[k]?=zY ok->k≠i->(d.setIfInBounds j zW).getD k zW=zU->
   (∀e∈ok.after,Region.binds .any e=zW->e.on≠i)->x.apart f ok=zW:=λk ok hk T E U=>by
  refine m k ok hk T ?_ U;by_cases F:j=k
  ·subst F;exact t
  ·rw[getD_set_ne zW F]at E;exact E
 refine wpOp_mono (λa' w' J=>⟨λ_=>J.2.1 p,ih (d.setIfInBounds j zW) a' w' q (ready_mono y (Ne.symm l)) J.1 (J.2.1 p) ?_⟩) h2;rw[gS _ _ l];exact J.2.2}
inductive Sch where
 | e
 | q (i:Nat) (s:Sch)
 | f (i:Nat) (s:Sch)
 | b (i:Nat) (s:Sch) (j:Nat) (s':Sch)
def sq:List Nat->Sch->Sch | [],s=>s | i::l,s=>.q i (sq l s)
def Wc(P:w_)(S:Nat->Prop)(z:Nat)(H0:Aa)(all:List Oper)(i:Nat)(fr:Fr)(H:Aa)(next:Fr->Aa->Prop):Prop:=match all[i]? with
 | none=>False
 | some o=>match o.guard with
   | some _=>False
   | none=>match AqB i z with
     | true=>wR P zU (λ_=>True) o fr H λv H'=>Di o.dst fr v λfr'=>next fr' H'
     | false=>wR P zU (λ_=>True) o fr H λv H'=>D_ S H0 H'/\Di o.dst fr v λfr'=>next fr' H'
def Vl(P:w_)(S:Nat->Prop)(z:Nat)(H0:Aa)(all:List Oper)(s:Sch):Fr->Aa->(Fr->Aa->Prop)->Prop:=Sch.rec (motive:=λ_=>Fr->Aa->(Fr->Aa->Prop)->Prop) (λfr H K=>K fr H)
  (λi _ ih fr H K=>match all[i]? with
   | none=>False
   | some o=>match o.guard with
     | some _=>False
     | none=>match On o&&HX P o with
       | true=>Rg P S o fr H λv=>Di o.dst fr v λfr'=>ih fr' H K
       | false=>False)
  (λi _ ih fr H K=>Wc P S z H0 all i fr H λfr' H'=>ih fr' H' K)
  (λi _ j _ ih ih' fr H K=>(Wc P S z H0 all i fr H λfr' H'=>ih fr' H' K)/\Wc P S z H0 all j fr H λfr' H'=>ih' fr' H' K) s
def AhQ(P:w_)(S:Nat->Prop)(z:Nat)(H0:Aa)(all:List Oper)(i:Nat)(s:Sch)(fr:Fr)(H:Aa)(K:Fr->Aa->Prop):Vl P S z H0 all (.q i s) fr H K=(match all[i]? with | none=>False | some o=>match o.guard with | some _=>False | none=>match On o&&HX P o with | true=>Rg P S o fr H λv=>Di o.dst fr v λa=>Vl P S z H0 all s a H K | false=>False):=rfl
def Ks(ops:Array Oper)(z:Nat):Sch->Array Bool->Bool | .e,listed=>(Region.ready .any ops listed).isEmpty | .q i s,listed=>(Region.ready .any ops listed).contains i&&Region.free .any ops listed i&& !(AqB i z)&&(zT (ops.size<=z)|| Region.waitsFor .any ops z i)&&Ks ops z s (listed.setIfInBounds i zW)| .f i s,listed=>Region.ready .any ops listed==[i]&&(!(AqB i z)|| (match s with | .e=>zW | _=>zU))&&Ks ops z s (listed.setIfInBounds i zW)| .b i s j s',listed=>Region.ready .any ops listed==[i,j]&& !(AqB i z)&& !(AqB j z)&&Ks ops z s (listed.setIfInBounds i zW)&&Ks ops z s' (listed.setIfInBounds j zW)
def Sch.len:Sch->Nat | .e=>0 | .q _ s=>s.len+1 | .f _ s=>s.len+1 | .b _ s _ _=>s.len+1
def Sch.even:Sch->Bool | .e=>zW | .q _ s=>s.even | .f _ s=>s.even | .b _ s _ s'=>s.even&&s'.even&&s.len==s'.len
def KH{z:Nat}{all:List Oper}{a:Act}{next:Fr->Aa->Prop}(c:At fr a) (k:l_ w0 w) (h:Wc P S z w0.heap all i fr w.heap next)(n:∀f a' e,At f a'->l_ w0 e->(i≠z->xQ w0 S e)->next f e.heap->N a' e):wpOp P all.toArray Q i N a w:=by
 unfold Wc at h;split at h;{exact h.elim};rename_i o p;have l:all.toArray[i]?=zY o:=by simpa using p
 split at h;{exact h.elim};rename_i q;have d:Region.wanted o (yielded all.toArray a.tmps)=zW:=by simp[Region.wanted,q]
 unfold wpOp;rw[l];dsimp only;rw[J_ d];split at h;{rename_i r;refine .inl (Oper.wp_mono ?_ (DA c h _));rintro a' e ⟨v,rfl,b,g⟩;rw[Cx]at g;exact n _ _ _ (c.put o.dst v) (k.trans b) (λm=>absurd (mZ r) m) g};refine .inl (Oper.wp_mono ?_ (DA c h _));rintro a' e ⟨v,rfl,b,j,g⟩;rw[Cx]at g;exact n _ _ _ (c.put o.dst v) (k.trans b) (λ_=>⟨k.trans b,j⟩) g
def FZ{P:w_}{S:Nat->Prop}{z:Nat}{w0:y_}{all:List Oper}{Q:Exit->Act->y_->Prop}(hs:Region.noSelect all.toArray=zW)
  (C:∀c a w,¬Q (.panic c) a w):∀(l:Sch) (d:Array Bool) (fr:Fr) (a:Act) (w:y_) (K:Fr->Aa->Prop),At fr a->(l= .e->l_ w0 w)->(l≠ .e->xQ w0 S w)->
  (∀m a' g,At m a'->l_ w0 g->K m g.heap->Q .normal a' g)->Ks all.toArray z l d=zW->l.even=zW->
  Vl P S z w0.heap all l fr w.heap K->QX P all.toArray Q (xQ w0 S) z l.len d a w
 | .e,d,fr,a,w,K,hat,J,_,hq,hB,_,h=>⟨by simpa [Ks]using hB,hq fr a w hat (J rfl) h⟩
 | .q i s,d,fr,a,w,K,hat,_,p,hq,hB,hev,h=>by
   have p:=p zZ;simp only[Ks,X',vU,z',vH]at hB;obtain⟨⟨⟨⟨y,t⟩,L⟩,D⟩,n⟩:=hB;rw[AhQ]at h;split at h
   ·exact h.elim
   ·rename_i o W;have E:all.toArray[i]?=zY o:=by simpa using W
    split at h
    ·exact h.elim
    ·rename_i X;have A:Region.wanted o (yielded all.toArray a.tmps)=zW:=by simp[Region.wanted,X]
     split at h
     ·have⟨v,Y,r⟩:=FC h;rw[Cx]at r;refine Uu (v:=v) E (Region.noSelect_spec hs) (λc a' g Z=>(C _ _ _ Z).elim) (qO L) ?_ s.len d a w (Region.free_spec E t) (by simpa using y)
       (.inl ⟨A,λg M=>?_⟩) p ?_
      ·intro oz B;rcases D with D | D
       ·rw[mX D]at B;cases B
       ·have⟨oj,N,e,J,hb,O⟩:=Region.waitsFor_spec D;have:oj=oz:=Option.some.inj (N.symm.trans B);subst this;exact⟨e,J,hb,O⟩
      ·rw[hat.evalF];exact Y g λk r=>(M.2 k r).trans (p.2 k r).symm
      ·exact FZ hs C s _ _ _ w K (hat.put o.dst v) (λ_=>p.1) (λ_=>p) hq n hev r
     ·exact h.elim
 | .f i s,d,fr,a,w,K,hat,_,p,hq,hB,hev,h=>by
   have u:=p zZ;simp only[Ks,X',vU,vH,beq_iff_eq]at hB;obtain⟨⟨y,t⟩,n⟩:=hB;refine⟨(λF=>by rw[y]at F;cases F),λj V=>?_⟩;rw[y]at V;obtain rfl:j=i:=by simpa using V
   refine KH hat u.1 h λm a' g G H x I=>⟨x,FZ hs C s _ _ _ g K G (λ_=>H) (λR=>x λT=>?_) hq n hev I⟩;rcases t with t | t
   ·exact qO t T
   ·cases s<;>first | exact R rfl | cases t
 | .b i s j s',d,fr,a,w,K,hat,_,p,hq,hB,hev,h=>by
   have u:=p zZ;simp only[Ks,X',vH,beq_iff_eq]at hB;obtain⟨⟨⟨⟨y,t⟩,L⟩,n⟩,U⟩:=hB;simp only[Sch.even,X',beq_iff_eq]at hev;obtain⟨⟨e1,e2⟩,e3⟩:=hev;refine⟨(λF=>by rw[y]at F;cases F),λk r=>?_⟩;rw[y]at r;rcases zM.1 r with rfl | r
   ·exact KH hat u.1 h.1 λm a' g G H x I=>⟨x,FZ hs C s _ _ _ g K G (λ_=>H) (λ_=>x (qO t)) hq n e1 I⟩
   ·obtain rfl:k=j:=by simpa using r
    rw[e3];exact KH hat u.1 h.2 λm a' g G H x I=>⟨x,FZ hs C s' _ _ _ g K G (λ_=>H) (λ_=>x (qO L)) hq U e2 I⟩
section
variable{l:List Oper}{K:Fr->Aa->Prop}
def Ap.held(S:Nat->Prop)(z:Nat)(b:Sch)(e:P.follows .mixedOrders=zW)(c:(Region.noSelect l.toArray&&(b.len==l.length)&&b.even&&Ks l.toArray z b (ApF l.length zU))=zW)(h:Vl P S z H l b fr H K):Ap P l fr H K:=by refine⟨?_⟩;intro id Q a w d f g i;subst f;simp only[X',beq_iff_eq]at c;refine wp_region_any e (QY (S:=xQ w S) (z:=z) _ _ _ _ ?_);have:=FZ (P:=P) (S:=S) (z:=z) (w0:=w) (Q:=Q) c.1.1.1 g b (ApF l.length zU) fr a {w with drawn:=w.drawn+1} K d (λ_=>⟨rfl,rfl,rfl⟩) (λ_=>⟨⟨rfl,rfl,rfl⟩,D_.refl _ _⟩) i c.2 c.1.2 h;rw[c.1.1.2]at this;simpa using this
def Ap.tail(z:Nat)(a:Sch)(b:P.follows .mixedOrders=zW)(c:(Region.noSelect l.toArray&&(a.len==l.length)&&a.even&&Ks l.toArray z a (ApF l.length zU))=zW)(h:Vl P (λ_=>True) z H l a fr H K):Ap P l fr H K:=Ap.held _ z a b c h
def Ap.out(h:Ap P l fr H K):∀(id:Nat) (Q:Exit->Act->y_->Prop) (a:Act) (w:y_),At fr a->w.heap=H->(∀c a w,¬Q (.panic c) a w)->(∀b a' d,At b a'->l_ w d->K b d.heap->Q .normal a' d)->(Code.region id l.toArray zW).wp P Q a w:=by exact h.out_
end
def Iu(w0:y_)(Q:Exit->Fr->Aa->Prop):Exit->Act->y_->Prop | .panic _,_,_=>False | .outgrown,_,_=>False | e,a,w=>∃fr,At fr a/\l_ w0 w/\Q e fr w.heap
def R9(X:List (Nat×(Fr->Aa->Prop)))(id:Nat)(fr:Fr)(H:Aa):Prop:=match X with
 | []=>False
 | (j,k)::X=>match AqB j id with
   | true=>k fr H
   | false=>R9 X id fr H
def Qx(kn:Fr->Aa->Prop)(X:List (Nat×(Fr->Aa->Prop)))(kr:Fr->Aa->Prop)(e:Exit)(fr:Fr)(H:Aa):Prop:=match e with
 | .normal=>kn fr H
 | .exit id=>R9 X id fr H
 | .ret=>kr fr H
 | _=>False
structure A0(P:w_)(c:Code)(fr:Fr)(H:Aa)(X:List (Nat×(Fr->Aa->Prop)))(kr:Fr->Aa->Prop):Prop where
 in_::
 out_:∀(a:Act) (w:y_),At fr a->w.heap=H->(Code.loop c).wp P (Iu w (Qx (λ_ _=>False) X kr)) a w
def LY:Code->Bool | .ret | .exit _ | .goto _=>zU | .seq a b=>LY a&&LY b | .cond _ a b=>LY a|| LY b | _=>zW
def Jn(id:Nat):Code->Nat
 | .exit j=>match AqB j id with
   | true=>1
   | false=>0
 | .seq a b=>Jn id a+Jn id b
 | .cond _ a b=>Jn id a+Jn id b
 | .block _ c=>Jn id c
 | .loop c=>Jn id c
 | _=>0
def N9:Code->Bool | .seq _ b=>N9 b | .cond _ a b=>LY a&&LY b | .block id (.loop c)=>Nat.blt 1 (Jn id c)| .block id c=>(LY c&&Nat.blt 0 (Jn id c))|| Nat.blt 1 (Jn id c)|| N9 c | _=>zU
structure A7(P:w_)(x y:Code)(fr:Fr)(H:Aa)(kn:Fr->Aa->Prop)(X:List (Nat×(Fr->Aa->Prop)))(kr:Fr->Aa->Prop):Prop where
 in_::
 out_:∀(a:Act) (w:y_),At fr a->w.heap=H->(Code.seq x y).wp P (Iu w (Qx kn X kr)) a w
def vc(P:w_)(c:Code):Fr->Aa->(Fr->Aa->Prop)->List (Nat×(Fr->Aa->Prop))->(Fr->Aa->Prop)->Prop:=Code.rec (motive:=λ_=>Fr->Aa->(Fr->Aa->Prop)->List (Nat×(Fr->Aa->Prop))->(Fr->Aa->Prop)->Prop)
  (λfr H kn _ _=>kn fr H)
  (λ_ ops draw fr H kn _ _=>match draw with
   | false=>MV P zU (λ_=>True) ops.toList ops.toList fr H kn
   | true=>Ap P ops.toList fr H kn)
  (λa b iha ihb fr H kn X kr=>match N9 a with
   | true=>A7 P a b fr H kn X kr
   | false=>iha fr H (λfr' H'=>ihb fr' H' kn X kr) X kr)
  (λc _ _ ihx ihy fr H kn X kr=>match c with
   | .tmp t=>yJ fr t λv=>match v with
     | .bool b=>AB b (xL fr t (.bool zW) λfr1=>ihx fr1 H kn X kr) (xL fr t (.bool zU) λfr1=>ihy fr1 H kn X kr)
     | _=>False
   | .const (.bool b)=>AB b (ihx fr H kn X kr) (ihy fr H kn X kr)
   | _=>False)
  (λid _ ih fr H kn X kr=>ih fr H kn ((id,kn)::X) kr)
  (λc _ fr H _ X kr=>A0 P c fr H X kr)
  (λ_ _ _ _ _ _ _ _ _ _ _=>False)
  (λid fr H _ X _=>R9 X id fr H)
  (λ_ _ _ _ _ _ _=>False)
  (λ_ _ _ _ _ _=>False)
  (λ_ _ _ _ _ _=>False)
  (λfr H _ _ kr=>kr fr H)
  (λ_ _ _ _ _ _=>False) c
section
variable(P:w_)(a b:Code)(fr:Fr)(H:Aa)(kn:Fr->Aa->Prop)(X:List (Nat×(Fr->Aa->Prop)))(kr:Fr->Aa->Prop)
def cH(id:Nat)(a:Array Oper)(b:Bool):vc P (.region id a b) fr H kn X kr=(match b with | false=>MV P zU (λ_=>True) a.toList a.toList fr H kn | true=>Ap P a.toList fr H kn):=rfl
def AmZ:vc P (.seq a b) fr H kn X kr=(match N9 a with | true=>A7 P a b fr H kn X kr | false=>vc P a fr H (λc H'=>vc P b c H' kn X kr) X kr):=rfl
def AjP(c:z_):vc P (.cond c a b) fr H kn X kr=(match c with
   | .tmp t=>yJ fr t λv=>match v with
     | .bool x=>AB x (xL fr t (.bool zW) λd=>vc P a d H kn X kr) (xL fr t (.bool zU) λd=>vc P b d H kn X kr)
     | _=>False
   | .const (.bool x)=>AB x (vc P a fr H kn X kr) (vc P b fr H kn X kr)
   | _=>False):=rfl
def AfZ(id:Nat):vc P (.block id a) fr H kn X kr=vc P a fr H kn ((id,kn)::X) kr:=rfl
end
variable{X:List (Nat×(Fr->Aa->Prop))}{kr kn:Fr->Aa->Prop}
def A0.out(h:A0 P c fr H X kr):∀(a:Act) (w:y_),At fr a->w.heap=H->(Code.loop c).wp P (Iu w (Qx (λ_ _=>False) X kr)) a w:=by exact h.out_
def A7.out{x y:Code}(h:A7 P x y fr H kn X kr):∀(a:Act) (w:y_),At fr a->w.heap=H->(Code.seq x y).wp P (Iu w (Qx kn X kr)) a w:=by exact h.out_
def Iu.env{c:y_}{Q:Exit->Fr->Aa->Prop}(b:l_ w0 c):∀{e:Exit} {a:Act} {w:y_},Iu c Q e a w->Iu w0 Q e a w | .normal,_,_,⟨fr,h1,h2,h3⟩ | .exit _,_,_,⟨fr,h1,h2,h3⟩ | .goto _,_,_,⟨fr,h1,h2,h3⟩ | .ret,_,_,⟨fr,h1,h2,h3⟩=>⟨fr,h1,b.trans h2,h3⟩
variable{Q':Exit->Fr->Aa->Prop}
def Iu.mono{Q:Exit->Fr->Aa->Prop}(b:∀e fr H,Q e fr H->Q' e fr H):∀{e:Exit} {a:Act} {w:y_},Iu w0 Q e a w->Iu w0 Q' e a w | .normal,_,_,⟨fr,h1,h2,h3⟩ | .exit _,_,_,⟨fr,h1,h2,h3⟩ | .goto _,_,_,⟨fr,h1,h2,h3⟩ | .ret,_,_,⟨fr,h1,h2,h3⟩=>⟨fr,h1,h2,b _ _ _ h3⟩
def QD{x y:Code}{d:Fr->Aa->Prop}{a:Act}(g:x.wp P (Iu w (Qx d X kr)) a w)(i:∀fr a' b,At fr a'->l_ w b->d fr b.heap->y.wp P (Iu b (Qx kn X kr)) a' b):(Code.seq x y).wp P (Iu w (Qx kn X kr)) a w:=by refine wp_seq (Code.wp_mono ?_ g);intro e a' b h;cases e with|normal=>have⟨fr,j,f,k⟩:=h;exact Code.wp_mono (λe a w h=>Iu.env f h) (i fr a' b j f k)|exit id=>exact h|goto l=>exact h|ret=>exact h|panic c=>exact h|outgrown=>exact h
def Cw{P:w_}:∀(c:Code) (fr:Fr) (kn:Fr->Aa->Prop) (X:List (Nat×(Fr->Aa->Prop))) (kr:Fr->Aa->Prop) (a:Act) (w:y_),At fr a->
  vc P c fr w.heap kn X kr->c.wp P (Iu w (Qx kn X kr)) a w
 | .skip,fr,kn,X,kr,a,w,hat,h=>wp_skip ⟨fr,hat,l_.refl w,h⟩
 | .region id ops draw,fr,kn,X,kr,a,w,hat,h=>by
   rw[cH]at h;cases draw with
   | false=>
     have:=AjT (P:=P) (id:=id) (l:=ops.toList) (Q:=Iu w (Qx kn X kr)) hat (λd a' k g j f=>⟨d,g,j,f⟩) h;simpa using this
   | true=>
     have:=h.out id (Iu w (Qx kn X kr)) a w hat rfl (λ_ _ _ h=>h) (λd a' k g j f=>⟨d,g,j,f⟩);simpa using this
 | .seq x y,fr,kn,X,kr,a,w,hat,h=>by
   rw[AmZ]at h;split at h
   ·exact h.out a w hat rfl
   ·exact QD (Cw x fr _ X kr a w hat h) λd a' k g _ f=>Cw y d kn X kr a' k g f
 | .cond c x y,fr,kn,X,kr,a,w,hat,h=>by
   rw[AjP]at h;split at h
   ·rename_i t;rw[E6]at h;split at h
    ·rename_i b n;have hs:fr.set t (.bool b)=fr:=EZ n (by simp[undef]);have o:a.eval (.tmp t)= .bool b:=by rw[hat.eval];exact n
     cases b<;>simp only[AB,GE,hs]at h
     ·exact wp_cond_false o (Cw y fr kn X kr a w hat h)
     ·exact wp_cond_true o (Cw x fr kn X kr a w hat h)
    ·exact h.elim
   ·rename_i b;cases b<;>simp only[AB]at h
    ·exact wp_cond_false rfl (Cw y fr kn X kr a w hat h)
    ·exact wp_cond_true rfl (Cw x fr kn X kr a w hat h)
   ·exact h.elim
 | .block id c,fr,kn,X,kr,a,w,hat,h=>by
   rw[AfZ]at h;refine wp_block (Code.wp_mono ?_ (Cw c fr kn _ kr a w hat h));intro e a' k h;cases e with
   | exit m=>
     have⟨d,g,j,f⟩:=h;simp only[Qx,R9]at f;simp only[Exit.inBlock];split at f
     ·rename_i i;have:=mZ i;rw[J_ this.symm];exact⟨d,g,j,f⟩
     ·rename_i i;have:id≠m:=qO i;rw[I_ (Ne.symm this)];exact⟨d,g,j,f⟩
   | normal=>exact h
   | goto l=>exact h
   | ret=>exact h
   | panic c=>exact h
   | outgrown=>exact h
 | .loop c,fr,kn,X,kr,a,w,hat,h=>Code.wp_mono (λe a w=>Iu.mono λe fr H p=>by
   cases e<;>first | exact p | exact p.elim) (h.out a w hat rfl)
 | .exit id,fr,kn,X,kr,a,w,hat,h=>wp_exit ⟨fr,hat,l_.refl w,h⟩
 | .ret,fr,kn,X,kr,a,w,hat,h=>wp_ret ⟨fr,hat,l_.refl w,h⟩
 | .rangeFunc ..,_,_,_,_,_,_,_,h=>h.elim
 | .scope _,_,_,_,_,_,_,_,h=>h.elim
 | .label _,_,_,_,_,_,_,_,h=>h.elim
 | .goto _,_,_,_,_,_,_,_,h=>h.elim
 | .refuse _,_,_,_,_,_,_,_,h=>h.elim
noncomputable def TW{R:Type}(fr:Fr)(ts:List Nat):(List v_->R)->R:=ApX (motive:=λ_=>(List v_->R)->R) (λK=>K []) (λt _ ih K=>yJ fr t λv=>ih λvs=>K (v::vs)) ts
noncomputable def XK{R:Type}(fr:Fr)(ts:List Nat)(vs:List v_)(K:Fr->R):R:=ApX (motive:=λ_=>List v_->Fr->R) (λ_ fr=>K fr) (λt _ ih vs fr=>List.casesOn vs (K fr) λv vs=>xL fr t v λfr'=>ih vs fr') ts vs fr
noncomputable def Jx{R:Type}(f:Nat->v_)(fr:Fr)(ts:List Nat)(K:Fr->R):R:=ApX (motive:=λ_=>Fr->R) (λfr=>K fr) (λt _ ih fr=>xL fr t (f t) λfr'=>ih fr') ts fr
def oG(fr:Fr):List Nat->List v_->Fr | t::ts,v::vs=>oG (fr.set t v) ts vs | _,_=>fr
def Ht(f:Nat->v_)(fr:Fr):List Nat->Fr | []=>fr | t::ts=>Ht f (fr.set t (f t)) ts
def Ij{R:Type}(fr:Fr):∀(a:List Nat) (K:List v_->R),TW fr a K=K (a.map (rd fr))| [],_=>rfl | t::a,K=>by show yJ fr t (λv=>TW fr a λvs=>K (v::vs))=_;simp only[E6,Ij fr a,wF]
def Lz{R:Type}:∀(a:List Nat) (vs:List v_) (fr:Fr) (K:Fr->R),XK fr a vs K=K (oG fr a vs)| [],vs,fr,K=>by cases vs<;>rfl | _::_,[],_,_=>rfl | t::a,v::vs,fr,K=>by show xL fr t v (λb=>XK b a vs K)=_;simp only[GE,oG];exact Lz a vs _ K
def Dr{R:Type}(f:Nat->v_):∀(a:List Nat) (fr:Fr) (K:Fr->R),Jx f fr a K=K (Ht f fr a)| [],_,_=>rfl | t::a,fr,K=>by show xL fr t (f t) (λb=>Jx f b a K)=_;simp only[GE,Ht];exact Dr f a _ K
def N7(f:Nat->v_):∀(a:List Nat) (fr:Fr) (i:Nat),(Ht f fr a)[i]?=if i∈a/\i<fr.length then zY (f i)else fr[i]?
 | [],fr,i=>by simp[Ht]
 | t::a,fr,i=>by
   simp only[Ht,N7 f a,yT,zM,xV];by_cases d:i∈a<;>by_cases c:i<fr.length<;>by_cases b:t=i
   all_goals simp[d,c,b]
   all_goals first | (subst b;simp[c];done) | (rw[I_ (by omega)];done) | (have:¬i=t:=λh=>b h.symm;simp[this];done) | skip
def MJ(f:Nat->v_):∀(a:List Nat) (fr:Fr),(Ht f fr a).length=fr.length | [],_=>rfl | t::a,fr=>by simp only[Ht,MJ f a,yT]
def DX{b:List Nat}{a:Fr}(h:Ht (λ_=>undef) a b=Ht (λ_=>undef) fr b):Ht (rd a) fr b=a:=by
 have e:a.length=fr.length:=by have:=congrArg List.length h;simpa [MJ]using this
 apply yP;intro i;rw[N7];have c:=congrArg (λl:List v_=>l[i]?) h;simp only[N7,e]at c;by_cases d:i∈b/\i<fr.length;{rw[J_ d];simp[rd,zJ (e ▸ d.2)]};rw[I_ d]at c ⊢;rw[I_ d]at c;exact c.symm
def Jb:∀(a:List Nat) (fr:Fr),oG fr a (a.map (rd fr))=fr
 | [],_=>rfl
 | t::a,fr=>by
   have hs:fr.set t (rd fr t)=fr:=by
    unfold rd;rcases nA t fr.length with b | b
    ·rw[xA,zJ b];exact gO b
    ·exact List.set_eq_of_length_le b
   simp only[wF,oG,hs];exact Jb a fr
def LF(ws:List Nat)(fr fr':Fr)(p:Prop):Prop:=Jx (λ_=>undef) fr' ws λa=>Jx (λ_=>undef) fr ws λb=>a=b/\p
def O9(J:Nat->Act->y_->Prop)(g:∀n a w,J n a w->c.wp P (Exit.then (λa' i=>∃n',n'<n/\J n' a' i) Q) a w):∀n a w,J n a w->(Code.loop c).wp P Q a w:=by intro t u w0 v b k o;have p:∀n a w,J n a w->∃e a' i,Q e a' i/\Arrives P (lone (b.at a (.code c:: .inLoop c::k)) o w) b k o e a' i:=by{intro n;induction n using Nat.strongRecOn with|_ n ih=>intro a w y;have⟨e,j,m,f,d⟩:=g n a w y b (.inLoop c::k) o;cases e;(case normal=>have⟨n',q,r⟩:=f;have⟨z,A,B,s,h⟩:=ih n' q j m r;exact⟨z,A,B,s,.of_steps (Steps.trans d (.one step_inLoop)) h⟩);(case' exit id=>skip);(case' goto l=>skip);(case' panic C=>skip);all_goals exact⟨_,j,m,f,.pass (x:=.inLoop c) rfl (λ_ _=>.inl zZ) d⟩};have⟨e,a',i,f,d⟩:=p t u w0 v;exact⟨e,a',i,f,.of_steps (.one step_loop) d⟩
def Sq:List Oper->List Nat->List Nat | [],acc=>acc | o::l,acc=>match o.dst with | some d=>d::Sq l acc | none=>Sq l acc
def JP:Code->List Nat->List Nat | .region _ ops _,acc=>Sq ops.toList acc | .seq a b,acc=>JP a (JP b acc)| .cond _ a b,acc=>JP a (JP b acc)| .block _ c,acc=>JP c acc | .loop c,acc=>JP c acc | .scope c,acc=>JP c acc | _,acc=>acc
def A0.mk{α:Type}(j:List Nat)(enc:α->List v_)(I:α->Aa->Prop)(m:α->Aa->Nat)(K:TW fr j λvs=>∃x,vs=enc x/\I x H)(E:∀(x:α) (H1:Aa) (k:Nat->v_),I x H1->Jx k fr (JP c []) λr=>XK r j (enc x) λf=> vc P c f H1 (λd H'=>LF (JP c []) fr d (TW d j λvs=>∃y,vs=enc y/\I y H'/\m y H'<m x H1)) X kr):A0 P c fr H X kr:=by generalize JP c []=F at E;refine⟨?_⟩;intro a w s L;subst L;have o:=K;rw[Ij]at o;have⟨M,t,u⟩:=o;let J (n:Nat) (a':Act) (w':y_):Prop:=∃d x,At d a'/\l_ w w'/\Ht (λ_=>undef) d F=Ht (λ_=>undef) fr F/\j.map (rd d)=enc x/\I x w'.heap/\m x w'.heap=n;refine O9 J ?_ _ a w ⟨fr,M,s,l_.refl w,rfl,t,u,rfl⟩;rintro n N G ⟨f,O,p,b,v,z,A,rfl⟩;have h:=E O G.heap (rd f) A;rw[Dr,Lz,DX v,<-z,Jb j f]at h;refine Code.wp_mono ?_ (Cw c f _ X kr N G p h);intro e T Q g;cases e with|normal=>have⟨B,q,i,g⟩:=g;simp only[Qx,LF,Dr,Ij]at g;have⟨C,y,R,D,S⟩:=g;exact⟨m y Q.heap,S,B,y,q,b.trans i,C,R,D,rfl⟩|exit id=>exact Iu.env b g|goto l=>exact Iu.env b g|ret=>exact Iu.env b g|panic c=>exact g|outgrown=>exact g
def A7.run{x y:Code}(h:vc P x fr H (λb H'=>vc P y b H' kn X kr) X kr):A7 P x y fr H kn X kr:=by refine⟨?_⟩;intro a w c d;subst d;exact QD (Cw x fr _ X kr a w c h) λb a' e f _ g=>Cw y b kn X kr a' e f g
def A7.cut{x y:Code}{α:Type}(e:List Nat)(enc:α->List v_)(I:α->Aa->Prop)(h:vc P x fr H (λc H'=>LF (JP x []) fr c (TW c e λvs=>∃y,vs=enc y/\I y H')) X kr)(k:∀(z:α) (H1:Aa) (d:Nat->v_),I z H1->Jx d fr (JP x []) λf=>XK f e (enc z) λb=>vc P y b H1 kn X kr):A7 P x y fr H kn X kr:=by generalize JP x []=r at h k;refine⟨?_⟩;intro a w g l;subst l;refine QD (Cw x fr _ X kr a w g h) λb m i n _ j=>?_;simp only[LF,Dr,Ij]at j;have⟨o,z,p,q⟩:=j;have h:=k z i.heap (rd b) q;rw[Dr,Lz,DX o,<-p,Jb e b]at h;exact Cw y b kn X kr m i n h
def uB(P:w_)(t:x_)(p:v_)(H:Aa)(K:v_->Prop):Prop:=match p with
 | .pointer (zY a)=>AH P (Instr.loadAt t (.pointer (zY a))) (λ_=>True) H K
 | _=>False
def Ro(P:w_)(rs:List ResultVar)(fr:Fr)(H:Aa)(R:v_->Aa->Prop):Prop:=match rs with
 | [.tmp t]=>yJ fr t λv=>R v H
 | []=>R (.tuple #[]) H
 | [.tmp t,.tmp u]=>yJ fr t λv=>yJ fr u λx=>R (.tuple #[v,x]) H
 | [.tmp t,.tmp u,.tmp y]=>yJ fr t λv=>yJ fr u λx=>yJ fr y λz=>R (.tuple #[v,x,z]) H
 | [.cell a t]=>yJ fr a λp=>uB P t p H λv=>R v H
 | [.cell a t,.tmp u]=>yJ fr a λp=>uB P t p H λv=>yJ fr u λx=>R (.tuple #[v,x]) H
 | [.tmp u,.cell a t]=>yJ fr a λp=>uB P t p H λv=>yJ fr u λx=>R (.tuple #[x,v]) H
 | [.cell a t,.cell b u]=>yJ fr a λp=>uB P t p H λv=>yJ fr b λq=>uB P u q H λx=>R (.tuple #[v,x]) H
 | _=>False
def Hb{p:v_}(h:uB P t p w.heap K):∃a v,p= .pointer (zY a)/\(loadVar t a).run P w= .ok v w/\K v:=by unfold uB at h;split at h;{rename_i a;have⟨v,c,k⟩:=h.out;have b:=c w (D_.refl _ _);simp[Instr.loadAt,Instr.sureAddr]at b;exact⟨a,v,rfl,b,k⟩};exact h.elim
def Q7{fn:Func}{a:Act}(g:At fr a)(h:Ro P fn.results.toList fr w.heap R):∃v,(results fn a.tmps).run P w= .ok v w/\R v w.heap:=by have c:∀t,a.tmps.getD t undef=rd fr t:=λt=>g.eval (.tmp t);have mk:∀l:List ResultVar,fn.results.toList=l->fn.results=l.toArray:=λl k=>ApS (by simpa using k);unfold Ro at h;split at h<;>rename_i hr<;>(try simp only[E6]at h)<;>have b:=mk _ hr;{exact⟨_,by simp[results,b,c],h⟩};{exact⟨_,by simp[results,b],h⟩};{exact⟨_,by simp[results,b,c],h⟩};{exact⟨_,by simp[results,b,c],h⟩};{have⟨p,v,e,f,d⟩:=Hb h;exact⟨v,by simp[results,b,c,e,asAddr,f],d⟩};{have⟨p,v,e,f,d⟩:=Hb h;exact⟨_,by simp[results,b,c,e,asAddr,f],d⟩};{have⟨p,v,e,f,d⟩:=Hb h;exact⟨_,by simp[results,b,c,e,asAddr,f],d⟩};have⟨p,v,e,f,d⟩:=Hb h;have⟨m,n,i,j,d⟩:=Hb d;exact⟨_,by simp[results,b,c,e,i,asAddr,f,j],d⟩
noncomputable def Qm{R:Type}(l:Fr):(Fr->R)->R:=ApX (motive:=λ_=>(Fr->R)->R) (λK=>K []) (λv _ ih K=>ih λl'=>K (v::l')) l
def IP{R:Type}:∀(l:Fr) (K:Fr->R),Qm l K=K l | [],_=>rfl | v::l,K=>by show Qm l (λa=>K (v::a))=_;exact IP l _
def Ai.of_vc{fn:Func}{a:Array v_}(o:P.funcs[f]?=zY fn)(p:fn.body=zY c)(i:∀w:y_,(callFunc f a).run P w= .ok (.enter f a) w)(h:Qm (a.toList++AnS (fn.ntmps-a.size) undef) λfr=>vc P c fr H (λj H'=>Ro P fn.results.toList j H' R) [] (λj H'=>Ro P fn.results.toList j H' R)):Ai P f a H R:=by intro w q;subst q;refine⟨i w,?_⟩;refine calls_of_wp o p ?_;rw[IP]at h;have m:At (a.toList++AnS (fn.ntmps-a.size) undef) {tmps:=a++ApF (fn.ntmps-a.size) undef,defers:=[]}:=⟨zZ,rfl⟩;refine Code.wp_mono ?_ (Cw c _ _ _ _ _ w m h);intro e a' k b;have fin:∀fr,At fr a'->l_ w k->Ro P fn.results.toList fr k.heap R->a'.defers=[]/\∃v,(results fn a'.tmps).run P k= .ok v k/\∃n,Ending.returned v= .returned n/\l_ w k/\R n k.heap:=by{intro fr g b d;have⟨v,r,s⟩:=Q7 g d;exact⟨g.defers,v,r,v,rfl,b,s⟩};cases e with|normal=>have⟨fr,g,b,d⟩:=b;exact fin fr g b d|ret=>have⟨fr,g,b,d⟩:=b;exact fin fr g b d|exit id=>have⟨fr,g,b,d⟩:=b;exact d.elim|goto l=>have⟨fr,g,b,d⟩:=b;exact d.elim|panic c=>exact b.elim|outgrown=>exact b.elim
structure SlT(P:w_)(t e:x_)(sz by_:Nat)(z:v_):Prop where
 under:P.underlying t=zY (.slice e)
 info:∃i,P.info? e=zY i/\i.size=sz/\i.bytes=by_/\i.zero=zY z
 zsz:z.cells.size=sz
structure BM(P:w_)(t:x_):Prop where
 under:∃d,P.underlying t=zY d/\d.isRow=zU
 size:(P.info? t).map (·.size)=zY 1
structure Gv(P:w_)(t:x_)(n:Nat):Prop where
 under:∃d,P.underlying t=zY d/\d.isRow=zW
 size:(P.info? t).map (·.size)=zY n
structure Az(P:w_)(s f off ft n:Nat):Prop where
 under:∃fs fd,P.underlying s=zY (.struct fs)/\fs[f]?=zY fd/\fd.offset=off/\fd.type=ft
 size:(P.info? ft).map (·.size)=zY n
 pos:n≠0
structure Pr(P:w_)(t len e sz:Nat):Prop where
 under:P.underlying t=zY (.array len e)
 size:(P.info? e).map (·.size)=zY sz
def cell(H:Aa)(b o:Nat):Option v_:=match H[b]? with
 | some (.cells c _ _)=>c[o]?
 | _=>zV
def Bi(H:Aa)(b o:Nat)(cs:List v_):Prop:=∀j v,cs[j]?=zY v->cell H b (o+j)=zY v
def S_(H:Aa)(b:Nat)(e:x_)(l:List v_):Prop:=H[b]?=zY (.cells l.toArray e (0,0))
def Hm(w:y_)(b o:Nat):w.cell? ⟨b,o,zV⟩=cell w.heap b o:=by unfold World.cell? cell;cases h:w.heap[b]? with|none=>rfl|some x=>cases x<;>rfl
def OR(h:H'[b]?=H[b]?):cell H' b o=cell H b o:=by unfold cell;rw[h]
def Bi.eq(a:Bi H b o cs)(h:H'[b]?=H[b]?):Bi H' b o cs:=λj v c=>by rw[OR h];exact a j v c
def S_.cell(h:S_ H b e l)(o:Nat):YtelngokgpnphfaaGreatDoor.cell H b o=l[o]? :=by unfold YtelngokgpnphfaaGreatDoor.cell;rw[h];simp
def S_.ce{H b e l}(h:S_ H b e l){o}(k:l[o]?=zY v):YtelngokgpnphfaaGreatDoor.cell H b o=zY v:=(h.cell o).trans k
def S_.cells(h:S_ H b e l)(a:∀j v,cs[j]?=zY v->l[o+j]?=zY v):Bi H b o cs:=λj v c=>by rw[h.cell];exact a j v c
def S_.lt(h:S_ H b e l):b<H.size:=(vM.1 h).1
def S_.eq(h:S_ H b e l)(k:H'[b]?=H[b]?):S_ H' b e l:=k.trans h
def S_.agr(h:S_ H b e l)(k:D_ S H H')(a:S b):S_ H' b e l:=(k b a).trans h
def cK(h:D_ (λk=>k<n) H H')(b:n<=H.size):n<=H'.size:=by rcases Nat.eq_zero_or_pos n with a | a;{omega};have:=h (n-1) zO;rw[uD (zO:n-1<H.size)]at this;have:=(vM.1 this).1;omega
def TV(a:Bi H b o cs)(h:w.heap[b]?=H[b]?):w.rangeAt b o cs:=λj v c=>by
 rw[Hm,OR h];exact a j v c
def C_(c:BM P t)(e:cell H b o=zY v)(f:S b)(k:K v):AH P (Instr.loadAt t (.pointer (zY ⟨b,o,zV⟩))) S H K:=by
 refine AH.mk v (λw g=>?_) k;have⟨d,h,j⟩:=c.under;have i:w.cell? ⟨b,o,zV⟩=zY v:=by rw[Hm,OR (g b f)];exact e
 have a:(isAgg t).run P w= .ok zU w:=by{unfold isAgg;rw[Sem.run_bind,run_underlying h w];cases d<;>simp_all};simp[Instr.loadAt,Instr.sureAddr,loadVar,a,load,Sem.run,i]
def lT(a:BM P t)(c:cell H b o=zY v)(k:K v):AH P (Instr.loadAt t (.pointer (zY ⟨b,o,zV⟩))) (λ_=>True) H K:=C_ a c zA k
def L_(a:Gv P t cs.length)(c:Bi H b o cs)(e:S b)(k:K (.agg cs.toArray)):AH P (Instr.loadAt t (.pointer (zY ⟨b,o,zV⟩))) S H K:=by refine AH.mk _ (λw f=>?_) k;have⟨d,g,h⟩:=a.under;exact run_loadAt_mid w b o t cs d (TV c (f b e)) g h a.size
def lN(a:Gv P t cs.length)(c:Bi H b o cs)(k:K (.agg cs.toArray)):AH P (Instr.loadAt t (.pointer (zY ⟨b,o,zV⟩))) (λ_=>True) H K:=L_ a c zA k
def ix{i:Int}(a:SlT P t e sz by_ z)(c:0<=i)(d:i<n)(f:K (.pointer (zY ⟨b,o+i.toNat*sz,zV⟩))):AH P (Instr.indexAt t (.slice (zY ⟨b,o,zV⟩) n cap) (.int k i)) S H K:=by obtain⟨g,h,hs,_,_⟩:=a.info;refine AH.mk _ (λw _=>?_) f;have j:(⟨b,o,zV⟩:Addr).add (i.toNat*sz)=⟨b,o+i.toNat*sz,zV⟩:=Addr.add_mid _ _ _;simp[Instr.indexAt,asIntOf,run_underlying a.under,c,d,sizeOf,typeInfo,h,hs,j]
abbrev uK:=@ix
def EC(H:Aa)(o:Obj):D_ (λk=>k<H.size) H (H.push o):=λk a=>by
 rw[oX,I_ zO]
def Hj(w:y_)(o:Obj):(w.alloc o).heap=w.heap.push o:=rfl
def New(H:Aa)(K:Nat->Aa->Prop)(e:x_)(l:List v_):Prop:=∀b H',b=H.size->H'.size=b+1->S_ H' b e l->D_ (λk=>k<b) H H'->K b H'
def New.go{K:Nat->Aa->Prop}(h:New H K e l):K H.size (H.push (.cells l.toArray e)):=h H.size _ rfl zZ (by unfold S_;simp) (EC H _)
section
variable{K:v_->Aa->Prop}
def BI(l:List v_)(a:v.cells=l.toArray)(h:New H (λb H'=>K (U_ b) H') t l):B0 P (Instr.box t v) H K:=by refine B0.mk λw c=>?_;subst c;exact⟨_,w.alloc (.cells l.toArray t),by simp[Instr.box,newVar,a,newRow],⟨rfl,rfl,rfl⟩,h.go⟩
def Af(z:v_)(l:List v_)(a:(P.info? t).bind (·.zero)=zY z)(e:z.cells=l.toArray)(h:New H (λb H'=>K (U_ b) H') t l):B0 P (Instr.alloc t zW (.tuple #[])) H K:=by refine B0.mk λw f=>?_;subst f;refine⟨_,w.alloc (.cells l.toArray t),?_,⟨rfl,rfl,rfl⟩,h.go⟩;cases c:P.info? t with|none=>rw[c]at a;cases a|some i=>have d:i.zero=zY z:=by{simpa [c]using a};simp[Instr.alloc,zeroValue,typeInfo,c,d,newVar,e,newRow]
def iP(a:SlT P t e sz by_ z)(l:List v_)(o:n*sz<=16777216)(p:0<n*sz)(c:Instr.fill (λi=>zY (i*sz,sz)) ((Array.range (n*sz)).map (z.cells[· % z.cells.size]!)) vs.toList=zY l.toArray)(h:New H (λb H'=>K (.slice (N_ b) n n) H') e l):B0 P (Instr.buildSlice t n vs) H K:=by refine B0.mk λw d=>?_;subst d;refine⟨_,w.alloc (.cells l.toArray e),?_,⟨rfl,rfl,rfl⟩,h.go⟩;obtain⟨f,g,hs,_,j⟩:=a.info;have k:¬(16777216<n*sz):=zO;have m:¬(n*sz=0):=zO;simp only[Instr.buildSlice,Sem.run_bind,run_underlying a.under,Result.andThen_ok,sizeOf,typeInfo,zeroValue];simp[g,hs,j,k,m,c,newRow]
end
def mF{g i:IntKind}{l c:Int}{K:v_->Aa->Prop}(j:SlT P t e sz by_ z)(m:0<=l)(d:l<=c)(n:(by_:Int)*c<=281474976710656)(f:c<=9223372036854775807)(h:New H (λb H'=>K (.slice (N_ b) l.toNat c.toNat) H') e ((Ap6 (c.toNat*sz)).map (z.cells[· % z.cells.size]!))):B0 P (Instr.makeSlice t (.int g l) (.int i c)) H K:=by refine B0.mk λw o=>?_;subst o;have⟨a,p,hs,hby,q⟩:=j.info;have k:=run_make (P:=P) w t e a z j.under p q g i l c m d (by rw[hby];exact n) f;have r:madeCells z.cells (c.toNat*a.size)=((Ap6 (c.toNat*sz)).map (z.cells[· % z.cells.size]!)).toArray:=by{rw[hs];unfold madeCells;apply ApS;simp};rw[r]at k;exact⟨_,_,k,⟨rfl,rfl,rfl⟩,h.go⟩
def Uf(w:y_)(b o:Nat)(v:v_):(w.setCell ⟨b,o,zV⟩ v).heap=w.heap.modify b fun | .cells c d a=>.cells (c.setIfInBounds o v) d a | x=>x:=by unfold World.setCell;simp only[Option.isSome_none,vT,if_false];congr 1
def O3(a:S_ w.heap b e l)(v:v_):S_ (w.setCell ⟨b,o,zV⟩ v).heap b e (l.set o v)/\D_ (λk=>k≠b) w.heap (w.setCell ⟨b,o,zV⟩ v).heap/\(w.setCell ⟨b,o,zV⟩ v).heap.size=w.heap.size:=by rw[Uf];refine⟨?_,λk c=>?_,zZ⟩;{unfold S_ at a ⊢;rw[qL,J_ rfl,a];simp};rw[qL,I_ (λh=>c h.symm)]
def Ju(a:S_ w.heap b e l):w.frozen? ⟨b,o,zV⟩=zU:=by unfold World.frozen?;simp only;rw[a];simp
def qK(H:Aa)(K:Aa->Prop)(b:Nat)(e:x_)(l:List v_):Prop:=∀H',S_ H' b e l->D_ (λk=>k≠b) H H'->H'.size=H.size->K H'
def F_{K:Aa->Prop}(g:BM P t)(c:S_ H b e l)(j:o<l.length)(k:v.oneCell'=zW)(h:qK H K b e (l.set o v)):Co P (Instr.storeAt t (.pointer (zY ⟨b,o,zV⟩)) v) H K:=by
 refine Co.mk λw m=>?_;subst m;have n:w.cell? ⟨b,o,zV⟩=zY l[o]:=by rw[Hm,c.cell];simp[j]
 have⟨p,q,r⟩:=O3 (o:=o) c v;refine⟨_,?_,?_,h _ p q r⟩;{have d:v.cells= #[v]:=by{cases v<;>simp_all [Value.cells,Value.oneCell']};have a:=run_storeCells_cells (P:=P) b o [v] 0 w (by simp[n]) (by simp[Ju c]) (by simpa using k);cases f:P.info? t with|none=>have:=g.size;simp[f]at this|some i=>have hs:i.size=1:=by{have:=g.size;simpa [f]using this};simp only[Nat.add_zero]at a;simp[Instr.storeAt,Instr.sureAddr,storeVar,sizeOf,typeInfo,f,d,hs,a,World.setCells]};exact⟨rfl,rfl,rfl⟩
abbrev uU:=@F_
def Ah(l:List v_)(o:Nat)(cs:List v_):List v_:=l.take o++cs++l.drop (o+cs.length)
def DC(h:o+cs.length<=l.length):(Ah l o cs).length=l.length:=by unfold Ah;simp;omega
def CK(h:o+cs.length<=l.length)(j:Nat):(Ah l o cs)[j]?=if o<=j/\j<o+cs.length then cs[j-o]? else l[j]? :=by unfold Ah;rw[zS];by_cases a:j<o;{rw[I_ zO,yB (by simp;omega),List.getElem?_take_of_lt a]};rw[zL (by simp;omega)];simp only[wI,rM (zO:o<=l.length)];by_cases b:j<o+cs.length;{rw[J_ zO,yB zO]};rw[I_ zO,zL zO,List.getElem?_drop];congr 1;omega
def GV{b:Nat}{e:x_}:∀(cs:List v_) (o:Nat) (l:List v_) (w:y_),S_ w.heap b e l->o+cs.length<=l.length->
  S_ (w.setCells b o cs).heap b e (Ah l o cs)/\D_ (λk=>k≠b) w.heap (w.setCells b o cs).heap/\(w.setCells b o cs).heap.size=w.heap.size/\l_ w (w.setCells b o cs)
 | [],o,l,w,hb,_=>⟨by simpa [Ah,World.setCells]using hb,D_.refl _ _,rfl,l_.refl w⟩
 | v::cs,o,l,w,hb,hl=>by
   simp only[b_]at hl;have⟨f,a,g⟩:=O3 (o:=o) hb v;have⟨i,m,n,c⟩:=GV cs (o+1) (l.set o v) (w.setCell ⟨b,o,zV⟩ v) f (by simp;omega);refine⟨?_,a.trans m,n.trans g,⟨c.os,c.tape,c.output⟩⟩;have p:Ah (l.set o v) (o+1) cs=Ah l o (v::cs):=by
    apply yP;intro j;rw[CK (by simp;omega),CK (by simp;omega)];simp only[b_];by_cases h:j=o
    ·subst h;rw[I_ zO,J_ zO];simp[(zO:j<l.length)]
    ·by_cases d:o+1<=j/\j<o+1+cs.length
     ·rw[J_ d,J_ zO];rw[(zO:j-o=(j-(o+1))+1),sI]
     ·rw[I_ d,I_ zO,xV,I_ (λa=>h a.symm)]
   rw[<-p];exact i
def Zaa{K:Aa->Prop}(d:(P.info? t).map (·.size)=zY cs.length)(c:S_ H b e l)(f:o+cs.length<=l.length)(g:cs.all (·.oneCell')=zW)(h:qK H K b e (Ah l o cs)):Co P (Instr.storeAt t (.pointer (zY ⟨b,o,zV⟩)) (.agg cs.toArray)) H K:=by refine Co.mk λw i=>?_;subst i;have a:w.there b o cs.toArray.size:=λj k=>by{simp only[List.size_toArray]at k;refine⟨?_,Ju c⟩;rw[Hm,c.cell];simp;omega};have⟨m,n,p,q⟩:=GV cs o l w c f;refine⟨_,run_storeAt_mid (P:=P) w b o t cs.toArray a (by simpa using d) (by simpa using g),by simpa using q,?_⟩;simpa using h _ m n p
def Sl(H:Aa)(lo:Nat)(e:x_)(sz:Nat)(v:v_)(n:Nat)(cs:List v_):Prop:=cs.length=n*sz/\((v= .slice zV 0 0/\n=0)\/
  ∃b cap l,v= .slice (N_ b) n cap/\lo<=b/\S_ H b e l/\n<=cap/\cap<=maxLen/\l.length=cap*sz/\l.take (n*sz)=cs)
def Q_(v:v_)(k:Nat):Prop:=∃o n c,v= .slice (zY ⟨k,o,zV⟩) n c
def Sl.nil(H:Aa)(lo:Nat)(e:x_)(sz:Nat):Sl H lo e sz (.slice zV 0 0) 0 []:=⟨zZ,.inl ⟨rfl,rfl⟩⟩
def Sl.made(a:lo<=b)(f:S_ H b e l)(c:n<=cap)(g:cap<=maxLen)(d:l.length=cap*sz):Sl H lo e sz (.slice (N_ b) n cap) n (l.take (n*sz)):=⟨by rw[wI,d,rM (wO _ c)],.inr ⟨b,cap,l,rfl,a,f,c,g,d,rfl⟩⟩
def Sl.agr(h:Sl H lo e sz v n cs)(k:D_ S H H')(d:∀b,Q_ v b->S b):Sl H' lo e sz v n cs:=by have⟨f,a⟩:=h;refine⟨f,?_⟩;rcases a with a | ⟨b,cap,l,rfl,c,g,r⟩;{exact .inl a};exact .inr ⟨b,cap,l,rfl,c,g.agr k (d b ⟨_,_,_,rfl⟩),r⟩
def Sl.lt(h:Sl H lo e sz v n cs)(a:Q_ v b):lo<=b/\b<H.size:=by obtain⟨o,n',c,rfl⟩:=a;rcases h.2 with⟨d,_⟩ | ⟨b',cap,l,d,f,a,r⟩;{cases d};cases d;exact⟨f,a.lt⟩
def Un{C ty:x_}{K:v_->Aa->Prop}(E:SlT P t e sz by_ z){m:Nat}{x:v_}{news:List v_}(hs:Sl H lo e sz v n cs) (N:lo<=H.size) (hx:∀w:y_,w.heap=H->Src P sz C x m news w) (F:n+m<=maxLen) (hby:(n+m)*by_<=140737488355328)(h:∀D H',Sl H' lo e sz D (n+m) (cs++news)->D_ (λk=>k<H.size/\¬Q_ v k) H H'->H.size<=H'.size->(∀k,Q_ D k->Q_ v k\/H.size<=k)->K D H'):B0 P (Builtin.append_ #[t,C] ty [v,x].toArray) H K:=by
 refine B0.mk λw hw=>?_;subst hw;have⟨i,O,p,Q,hz⟩:=E.info;have s:=hx w rfl;have a:Src P i.size C x m news w:=by rw[p];exact s
 have A:news.length=m*sz:=s.newsLen;have Z:n+m<=9223372036854775807:=by simp only[maxLen]at F;omega
 have⟨B,R⟩:=hs;have d:(cs++news).length=(n+m)*sz:=by rw[O_,B,A,sN]
 have u:∀(g:Option Addr) (cap:Nat),v= .slice g n cap->cap<n+m->(Builtin.firstCells i.size n (.slice g n cap)).run P w.drew= .ok cs.toArray w.drew->
   ∃D S,(Builtin.append_ #[t,C] ty [v,x].toArray).run P w= .ok D S/\l_ w S/\K D S.heap:=by
  intro g cap y G hold;subst y;have T:=run_append_grow_src (P:=P) w t C ty e i z E.under O hz g n cap cs hold x m news a G zO (growslice_fits zO (by rw[Q];exact hby));refine⟨_,_,T,⟨rfl,rfl,rfl⟩,?_⟩;have U:=grownCap_ge w (n+m) cap e;have V:=grownCap_le_maxLen w (n+m) cap e F;have I:S_ (w.drew.alloc (.cells ((cs++news).toArray++Builtin.zeroCells z.cells (grownCap w (n+m) cap e-(n+m))) e)).heap w.heap.size e
    ((cs++news)++(Builtin.zeroCells z.cells (grownCap w (n+m) cap e-(n+m))).toList):=by
   unfold S_;have:(w.drew.alloc (.cells ((cs++news).toArray++Builtin.zeroCells z.cells (grownCap w (n+m) cap e-(n+m))) e)).heap=w.heap.push (.cells ((cs++news).toArray++Builtin.zeroCells z.cells (grownCap w (n+m) cap e-(n+m))) e):=rfl;rw[this];simp
  refine h _ _ ⟨d,.inr ⟨w.heap.size,_,_,rfl,N,I,U,V,?_,?_⟩⟩ ?_ ?_ ?_
  ·rw[O_,d,sJ,size_zeroCells,E.zsz,<-sN]
   congr 1;omega
  ·rw[<-d,fH];rfl
  ·intro k q;exact EC w.heap _ k q.1
  ·show w.heap.size<=(w.heap.push _).size;simp
  ·rintro k ⟨o,n',c,q⟩;cases q;exact .inr (M_ _)
 rcases R with⟨rfl,rfl⟩ | ⟨b,cap,l,rfl,J,M,a1,W,L,r⟩;{have X:cs=[]:=uO (by simpa using B);subst X;by_cases hm:m=0;{subst hm;have hn:news=[]:=uO (by simpa using A);subst hn;refine⟨.slice zV 0 0,w,?_,l_.refl w,h _ _ (Sl.nil _ _ _ _) (D_.refl _ _) (M_ _) (λk q=>.inl q)⟩;rcases a.kind with⟨e',q⟩ | q<;>simp[Builtin.append_,run_underlying E.under,run_underlying q,sizeOf,typeInfo,O,a.len,a.cells]};exact u zV 0 rfl zO (by simp[Builtin.firstCells])};by_cases f:n+m<=cap;{have a0:n*sz+news.length<=l.length:=by{rw[A,L,<-sN];exact wO _ f};have T:=run_append_room_src (P:=P) w t C ty e i E.under O b 0 n cap x m news a f (λj hj=>by rw[Hm,M.cell];simp[p];omega) (λj hj=>Ju M);have⟨h1,h2,h3,h4⟩:=GV news (0+n*i.size) l w M (by rw[p];omega);refine⟨_,_,T,h4,h _ _ ⟨d,.inr ⟨b,cap,_,rfl,J,h1,f,W,?_,?_⟩⟩ (h2.mono λk q=>?_) zO ?_⟩;{rw[DC (by rw[p];omega)];exact L};{rw[p,K_];unfold Ah;rw[r,<-d,fH];rfl};{intro Y;subst Y;exact q.2 ⟨0,n,cap,rfl⟩};rintro k ⟨o,n',c,q⟩;cases q;exact .inl ⟨0,n,cap,rfl⟩};refine u (N_ b) cap rfl zO ?_;have hc:Bi w.heap b 0 cs:=M.cells λj v y=>by{rw[<-r,uC]at y;split at y;{simpa using y};cases y};have:=run_firstCells_some (P:=P) w.drew i.size n ⟨b,0,zV⟩ n cap cs (by rw[p];exact B) (λj v y=>by{rw[Addr.add_mid];have:=TV (w:=w.drew) (H:=w.heap) hc rfl j v y;exact this});exact this
structure Ty(α:Type) where
 size:Nat
 rep:(Nat->Prop)->Aa->List v_->α->Prop
 len:∀{S H cs x},rep S H cs x->cs.length=size
 frame:∀{S H H' cs x},rep S H cs x->D_ S H H'->rep S H' cs x
 mono:∀{S S' H cs x},rep S H cs x->(∀k,S k->S' k)->rep S' H cs x
def Ty.reps{α:Type}(T:Ty α)(S:Nat->Prop)(H:Aa):List v_->List α->Prop | cs,[]=>cs=[]| cs,x::xs=>∃c r,cs=c++r/\T.rep S H c x/\T.reps S H r xs
def Ty.reps_len{α:Type}{T:Ty α}:∀{xs:List α} {cs:List v_},T.reps S H cs xs->cs.length=xs.length*T.size | [],_,h=>by cases h;simp | x::xs,_,⟨c,r,rfl,h1,h2⟩=>by rw[O_,T.len h1,Ty.reps_len h2,b_,sM];omega
def Ty.reps_frame{α:Type}{T:Ty α}(k:D_ S H H'):∀{xs:List α} {cs:List v_},T.reps S H cs xs->T.reps S H' cs xs | [],_,h=>h | x::xs,_,⟨c,r,e,h1,h2⟩=>⟨c,r,e,T.frame h1 k,Ty.reps_frame k h2⟩
def Ty.reps_mono{α:Type}{T:Ty α}{S':Nat->Prop}(k:∀i,S i->S' i):∀{xs:List α} {cs:List v_},T.reps S H cs xs->T.reps S' H cs xs | [],_,h=>h | x::xs,_,⟨c,r,e,h1,h2⟩=>⟨c,r,e,T.mono h1 k,Ty.reps_mono k h2⟩
def Ty.reps_append{α:Type}{T:Ty α}:∀{xs ys:List α} {cs ds:List v_},T.reps S H cs xs->T.reps S H ds ys->T.reps S H (cs++ds) (xs++ys)| [],_,_,_,h,h'=>by cases h;simpa using h' | x::xs,_,_,_,⟨c,r,e,h1,h2⟩,h'=>⟨c,r++_,by rw[e,zS],h1,Ty.reps_append h2 h'⟩
def Ty.reps_one{α:Type}{T:Ty α}{c:List v_}{x:α}(h:T.rep S H c x):T.reps S H c [x]:=⟨c,[],zZ,h,rfl⟩
def Ty.reps_get{α:Type}{T:Ty α}:∀{xs:List α} {cs:List v_} {i:Nat} {x:α},T.reps S H cs xs->xs[i]?=zY x->∃l c r,cs=l++c++r/\l.length=i*T.size/\T.rep S H c x | x::xs,_,0,y,⟨c,r,e,h1,h2⟩,hx=>by simp at hx;subst hx;exact⟨[],c,r,by simp[e],by simp,h1⟩ | x::xs,_,i+1,y,⟨c,r,e,h1,h2⟩,hx=>by simp at hx;have⟨l,a,b,d,f,g⟩:=Ty.reps_get h2 hx;exact⟨c++l,a,b,by simp[e,d,zS],by rw[O_,T.len h1,f,sM];omega,g⟩
def Bi.mid{c r:List v_}(h:Bi H b o (l++c++r)):Bi H b (o+l.length) c:=λj v a=>by
 have:=h (l.length+j) v (by
  rw[zS,zL zO,yB (by
   have:=(T_.1 a).1;omega)]
  rw[(zO:l.length+j-l.length=j)];exact a)
 rw[<-rI]at this;exact this
def Bi.one(h:Bi H b o [v]):cell H b o=zY v:=by have:=h 0 v rfl;simpa using this
def inK(k:IntKind)(x:Int):Prop:=k.min<=x/\x<=k.max
def E7(k:IntKind):Ty Int where
 size:=1
 rep _ _ cs x:=cs=[.int k x]/\inK k x
 len h:=by rw[h.1];rfl
 frame h _:=h
 mono h _:=h
def Ay:Ty Bool where
 size:=1
 rep _ _ cs x:=cs=[.bool x]
 len h:=by rw[h];rfl
 frame h _:=h
 mono h _:=h
def mR:Ty ByteArray where
 size:=1
 rep _ _ cs x:=cs=[.string x]/\x.size<=maxLen
 len h:=by rw[h.1];rfl
 frame h _:=h
 mono h _:=h
section
variable{α:Type}
def Y_(T:Ty α)(S:Nat->Prop)(H:Aa)(a:Option Addr)(cap:Nat)(xs:List α):Prop:=match a with
 | none=>xs=[]/\cap=0
 | some ad=>xs.length<=cap/\cap<=maxLen/\(cap=0\/ad.spot=zV/\S ad.block/\∃ec,Bi H ad.block ad.off ec/\T.reps S H ec xs)
def Y_.intro{T:Ty α}{xs:List α}{ec:List v_}(a:S b)(c:xs.length<=cap)(d:cap<=maxLen)(e:Bi H b o ec)(f:T.reps S H ec xs):Y_ T S H (zY ⟨b,o,zV⟩) cap xs:=⟨c,d,.inr ⟨rfl,a,ec,e,f⟩⟩
def Y_.frame{T:Ty α}{xs:List α}(h:Y_ T S H a cap xs)(k:D_ S H H'):Y_ T S H' a cap xs:=by cases a with|none=>exact h|some l=>obtain⟨b,c,e | ⟨f,d,g,i,j⟩⟩:=h;{exact⟨b,c,.inl e⟩};exact⟨b,c,.inr ⟨f,d,g,i.eq (k _ d),Ty.reps_frame k j⟩⟩
def Y_.mono{T:Ty α}{S':Nat->Prop}{xs:List α}(h:Y_ T S H a cap xs)(k:∀i,S i->S' i):Y_ T S' H a cap xs:=by cases a with|none=>exact h|some m=>obtain⟨b,c,d | ⟨e,f,g,j,l⟩⟩:=h;{exact⟨b,c,.inl d⟩};exact⟨b,c,.inr ⟨e,k _ f,g,j,Ty.reps_mono k l⟩⟩
def Y_.le{T:Ty α}{xs:List α}(h:Y_ T S H a cap xs):xs.length<=cap/\cap<=maxLen:=by cases a with|none=>obtain⟨rfl,rfl⟩:=h;simp|some b=>exact⟨h.1,h.2.1⟩
def zF(T:Ty α):Ty (List α) where
 size:=1
 rep S H cs xs:=∃a cap,cs=[.slice a xs.length cap]/\Y_ T S H a cap xs
 len:=by rintro S H cs x ⟨a,cap,rfl,_⟩;rfl
 frame:=by rintro S H H' cs x ⟨a,cap,e,h⟩ k;exact⟨a,cap,e,h.frame k⟩
 mono:=by rintro S S' H cs x ⟨a,cap,e,h⟩ k;exact⟨a,cap,e,h.mono k⟩
def Y_.get{T:Ty α}{xs:List α}{x:α}(h:Y_ T S H a cap xs)(d:xs[i]?=zY x):∃b o c,a=zY ⟨b,o,zV⟩/\S b/\Bi H b (o+i*T.size) c/\T.rep S H c x:=by cases a with|none=>obtain⟨rfl,_⟩:=h;simp at d|some e=>have⟨b,o,n⟩:=e;obtain⟨p,q,s | ⟨rfl,f,t,g,j⟩⟩:=h;{have:=(T_.1 d).1;omega};obtain⟨l,c,r,rfl,k,m⟩:=Ty.reps_get j d;exact⟨b,o,c,rfl,f,by rw[<-k];exact g.mid,m⟩
def U'{T:Ty α}{t e:Nat}{j:Int}{xs:List α}{x:α}(f:SlT P t e T.size by_ z) (h:Y_ T S H a cap xs) (d:xs[i]?=zY x) (g:j=(i:Int))(l:∀b o c,S b->Bi H b o c->T.rep S H c x->K (.pointer (zY ⟨b,o,zV⟩))):AH P (Instr.indexAt t (.slice a xs.length cap) (.int k j)) B H K:=by obtain⟨b,o,c,rfl,m,n,p⟩:=h.get d;subst g;have q:=(T_.1 d).1;exact ix f zO zO (by simpa using l b _ c m n p)
end
def fa{s f off e:Nat}(a:Az P s f off e n)(k:K (.pointer (zY ⟨b,o+off,zV⟩))):AH P (Instr.fieldAt s (.pointer (zY ⟨b,o,zV⟩)) f) S H K:=by obtain⟨fs,c,g,h,rfl,rfl⟩:=a.under;refine AH.mk _ (λw _=>?_) k;cases d:P.info? c.type with|none=>have:=a.size;simp[d]at this|some i=>have hs:i.size=n:=by{have:=a.size;simpa [d]using this};have j:=a.pos;have l:(⟨b,o,zV⟩:Addr).add c.offset=⟨b,o+c.offset,zV⟩:=Addr.add_mid _ _ _;simp[Instr.fieldAt,run_underlying g,h,Instr.sureAddr,fieldPlace,sizeOf,typeInfo,d,hs,j,l]
abbrev G_:=@fa
def V'{t len e:Nat}{i:Int}(a:Pr P t len e sz)(f:0<=i)(g:i<len)(h:K (.pointer (zY ⟨b,o+i.toNat*sz,zV⟩))):AH P (Instr.indexAt t (.pointer (zY ⟨b,o,zV⟩)) (.int k i)) S H K:=by refine AH.mk _ (λw _=>?_) h;cases c:P.info? e with|none=>have:=a.size;simp[c]at this|some d=>have hs:d.size=sz:=by{have:=a.size;simpa [c]using this};have j:(⟨b,o,zV⟩:Addr).add (i.toNat*sz)=⟨b,o+i.toNat*sz,zV⟩:=Addr.add_mid _ _ _;simp[Instr.indexAt,asIntOf,run_underlying a.under,Instr.sureAddr,f,g,sizeOf,typeInfo,c,hs,j]
def dQ{t off:Nat}{cs:Array v_}(b:Gv P t n)(w:y_):(part t cs off).run P w= .ok (.agg (cs.extract off (off+n))) w:=by have⟨d,e,f⟩:=b.under;have a:(isAgg t).run P w= .ok zW w:=by{unfold isAgg;rw[Sem.run_bind,run_underlying e w];cases d<;>simp_all};cases c:P.info? t with|none=>have:=b.size;simp[c]at this|some i=>have hs:i.size=n:=by{have:=b.size;simpa [c]using this};simp[part,a,sizeOf,typeInfo,c,hs]
def CB{t len e:Nat}(b:Pr P t len e sz)(z:v_)(c:(P.info? t).bind (·.zero)=zY z)(l:List v_)(h:Instr.fill (λi=>zY (i*sz,sz)) z.cells vs.toList=zY l.toArray) (k:K (.agg l.toArray)):AH P (Instr.build t vs) S H K:=by refine AH.mk _ (λw _=>?_) k;cases d:P.info? e with|none=>have:=b.size;simp[d]at this|some f=>{have hs:f.size=sz:=by{have:=b.size;simpa [d]using this};cases a:P.info? t with|none=>rw[a]at c;cases c|some j=>have g:j.zero=zY z:=by{simpa [a]using c};simp[Instr.build,zeroValue,typeInfo,a,g,run_underlying b.under,sizeOf,d,hs,h]}
def Au{t:Nat}{fs:Array Field}(m:P.underlying t=zY (.struct fs))(b:fs.toList.all (λf=>(P.info? f.type).isSome)=zW)(z:v_) (c:(P.info? t).bind (·.zero)=zY z) (l:List v_)(n:Instr.fill (λi=>(fs.toList.map λf=>(f.offset,P.cellsOf f.type))[i]?) z.cells vs.toList=zY l.toArray) (k:K (.agg l.toArray)):AH P (Instr.build t vs) S H K:=by refine AH.mk _ (λw _=>?_) k;cases a:P.info? t with|none=>rw[a]at c;cases c|some o=>{have d:o.zero=zY z:=by{simpa [a]using c};have p:∀(l:List Field),l.all (λf=>(P.info? f.type).isSome)=zW->(l.mapM λf=>(do pure (f.offset,<-sizeOf f.type):Sem (Nat×Nat))).run P w= .ok (l.map λf=>(f.offset,P.cellsOf f.type)) w:=by{intro l;induction l with|nil=>intro _;simp|cons f l q=>intro h;simp only[List.all_cons,X']at h;have⟨r,s⟩:=rJ.1 h.1;have e:(sizeOf f.type).run P w= .ok (P.cellsOf f.type) w:=by{simp[sizeOf,typeInfo,s,Program.cellsOf]};simp only[List.mapM_cons,Sem.run_bind,e,Result.andThen_ok,Sem.run_pure,q h.2,wF]};have g:(fs.mapM λf=>(do pure (f.offset,<-sizeOf f.type):Sem (Nat×Nat))).run P w= .ok (fs.toList.map λf=>(f.offset,P.cellsOf f.type)).toArray w:=by{rw[Array.mapM_eq_mapM_toList];rw[show(List.toArray <$> fs.toList.mapM λf=>(do pure (f.offset,<-sizeOf f.type):Sem (Nat×Nat)))=(do let l <-fs.toList.mapM λf=>(do pure (f.offset,<-sizeOf f.type):Sem (Nat×Nat));pure l.toArray)from rfl];rw[Sem.run_bind,p _ b];simp};have j:(zeroValue t).run P w= .ok z w:=by{simp[zeroValue,typeInfo,a,d]};simp only[Instr.build,Sem.run_bind,j,Result.andThen_ok,run_underlying m];rw[g];simp only[Result.andThen_ok,List.getElem?_toArray,n,Sem.run_pure]}
def DH{j:IntKind}{l c:Int}{K:v_->Aa->Prop}(m:SlT P t e 1 by_ z)(q:z.oneCell'=zW)(n:0<=l)(d:l<=c)(o:(by_:Int)*c<=281474976710656)(f:c<=9223372036854775807)(h:New H (λb H'=>K (.slice (N_ b) l.toNat c.toNat) H') e (AnS c.toNat z)):B0 P (Instr.makeSlice t (.int j l) (.int k c)) H K:=by
 refine mF m n d o f ?_;have g:z.cells= #[z]:=by cases z<;>simp_all [Value.cells,Value.oneCell']
 have p:((Ap6 (c.toNat*1)).map (z.cells[· % z.cells.size]!))=AnS c.toNat z:=by{rw[g,zI];apply yP;intro i;simp only[Y',wU];by_cases a:i<c.toNat;{rw[wJ a,J_ a];simp[Nat.mod_one]};rw[zC (by simpa using a),I_ a]<;>rfl};rw[p];exact h
def JO{x:Int}(h:inK k x):k.wrap x=x:=by have⟨a,b⟩:=h;unfold IntKind.wrap;cases k<;>simp only[IntKind.min,IntKind.max,IntKind.signed,IntKind.bits,if_true,vT,if_false,Aq5,ArF,Aq6]at a b ⊢ <;>simp only[vD,Bool.false_and,z',vT,if_false,ge_iff_le]<;>(try split)<;>omega
def xG{x:Int}(a: -9223372036854775808<=x)(b:x<=9223372036854775807):IntKind.wrap .i64 x=x:=JO ⟨a,b⟩
def W_{x:Int}(h:-9223372036854775808<=x/\x<=9223372036854775807):IntKind.wrap .i64 x=x:=xG h.1 h.2
def R_(x:Int)(h:-9223372036854775808<=x+1/\x+1<=9223372036854775807):IntKind.wrap .i64 (x+1)=x+1:=xG h.1 h.2
def w8{x:Int}(a:0<=x)(b:x<=255):IntKind.wrap .u8 x=x:=JO ⟨a,b⟩
def Gg{x:Nat}(h:inK k (x:Int)):x<2^k.bits:=by obtain⟨_,a⟩:=h;cases k<;>simp only[IntKind.max,IntKind.signed,IntKind.bits,if_true,vT,if_false,Aq5,ArF,Aq6]at a ⊢ <;>omega
def WX{x y:Nat}(h:inK k (x:Int))(a:y<=x):inK k (y:Int):=by obtain⟨_,b⟩:=h;refine⟨?_,zO⟩;cases k<;>simp only[IntKind.min,IntKind.signed,IntKind.bits,if_true,vT,if_false,Aq5,Aq6]<;>omega
def hZ{x:Nat}(h:x<18446744073709551616):inK .u64 (x:Int):=⟨by simp[IntKind.min,IntKind.signed],by simp[IntKind.max,IntKind.signed,IntKind.bits];omega⟩
def BJ{x:Nat}(h:x<9223372036854775808):inK .i64 (x:Int):=by refine⟨?_,by simp[IntKind.max,IntKind.signed,IntKind.bits];omega⟩;have:IntKind.i64.min= -9223372036854775808:=zQ;omega
def Tu{x:Nat}(h:x<256):inK .u8 (x:Int):=⟨by simp[IntKind.min,IntKind.signed],by simp[IntKind.max,IntKind.signed,IntKind.bits];omega⟩
def Wh{a:Nat}(c:inK k (a:Int))(d:inK k (b:Int))(e:K (.int k ((a &&& b:Nat):Int))):AH P (do eqGuard .and t x y (.int k a) (.int k b);binOp .and t (.int k a) (.int k b)) S H K:=by refine AH.mk _ (λw _=>?_) e;have f:(AqI k.bits (a:Int) &&& AqI k.bits (b:Int)).toNat=a &&& b:=by{simp only[oY,BitVec.toNat_and,qN,uF (Gg c),uF (Gg d)]};simp[C2,binOp,Op.intBits,uF (Gg c),uF (Gg d),JO (WX c (Nat.and_le_left))]
def AmE{a:Nat}(c:inK k (a:Int))(d:inK k (b:Int)):inK k ((a ||| b:Nat):Int):=by have⟨g,e⟩:=c;have⟨h,f⟩:=d;refine⟨?_,?_⟩;{cases k<;>simp only[IntKind.min,IntKind.signed,IntKind.bits,if_true,vT,if_false,Aq5,Aq6]<;>omega};cases k<;>simp only[IntKind.max,IntKind.signed,IntKind.bits,if_true,vT,if_false,Aq5,Aq6]at e f ⊢;{have:=tU (n:=7) (x:=a) (y:=b) zO zO;omega};{have:=tU (n:=15) (x:=a) (y:=b) zO zO;omega};{have:=tU (n:=31) (x:=a) (y:=b) zO zO;omega};{have:=tU (n:=63) (x:=a) (y:=b) zO zO;omega};{have:=tU (n:=8) (x:=a) (y:=b) zO zO;omega};{have:=tU (n:=16) (x:=a) (y:=b) zO zO;omega};{have:=tU (n:=32) (x:=a) (y:=b) zO zO;omega};have:=tU (n:=64) (x:=a) (y:=b) zO zO;omega
def rB{a:Nat}(c:inK k (a:Int))(d:inK k (b:Int))(e:K (.int k ((a ||| b:Nat):Int))):AH P (do eqGuard .or t x y (.int k a) (.int k b);binOp .or t (.int k a) (.int k b)) S H K:=by refine AH.mk _ (λw _=>?_) e;have f:(AqI k.bits (a:Int) ||| AqI k.bits (b:Int)).toNat=a ||| b:=by{simp only[oY,BitVec.toNat_or,qN,uF (Gg c),uF (Gg d)]};simp[C2,binOp,Op.intBits,uF (Gg c),uF (Gg d),JO (AmE c d)]
def oU{c:IntKind}{a:Nat}(d:b<=k.bits)(e:K (.int k ((a / 2^b:Nat):Int))):AH P (do eqGuard .shr t x y (.int k a) (.int c b);binOp .shr t (.int k a) (.int c b)) S H K:=by refine AH.mk _ (λw _=>?_) e;have f:((a:Int).fdiv (2^b))=((a / 2^b:Nat):Int):=by{rw[Int.fdiv_eq_ediv_of_nonneg _ (by exact_mod_cast p_ _)];push_cast;rfl};have e2:min b k.bits=b:=rM d;have g:¬((b:Int)<0):=zO;simp[C2,binOp,Op.shift,e2,g,f]
def mT{a:Nat}(e:b<=k.bits)(c:inK k ((a*2^b:Nat):Int))(f:K (.int k ((a*2^b:Nat):Int))):AH P (do eqGuard .shl t x y (.int k a) (.int d b);binOp .shl t (.int k a) (.int d b)) S H K:=by
 refine AH.mk _ (λw _=>?_) f;have e2:min b k.bits=b:=rM e;have g:¬((b:Int)<0):=zO;have h:(a:Int)*2^b=((a*2^b:Nat):Int):=by push_cast;rfl
 simp only[C2,binOp,Op.shift,Sem.run_bind,Result.andThen_ok,g,if_false,Int.toNat_natCast,e2,h,JO c,Sem.run_pure]
section
variable{t m D:Nat}{a:Array v_}
def QB(e:P.keyTypeAt m t=zW)(n:m<=10000)(f:P.eqGuardType P.depth t=zU)(fa:(Value.agg a).formed P t=zW) (fb:(Value.agg bs).formed P t=zW) (g:P.keyLits D t a.toList=zY la) (h:P.keyLits o t bs.toList=zY lb)  (i:r=zW↔la=lb){op:BinOp} (b:op= .eql\/op= .neq) (x y:z_) (w:y_):(do eqGuard op t x y (.agg a) (.agg bs);binOp op t (.agg a) (.agg bs):Sem v_).run P w= .ok (.bool (if op matches .eql then r else !r)) w:=by
 have⟨j,d,k⟩:=run_equalIn_deep (10000-m) m t e w D o (.agg a) (.agg bs) la lb fa fb g h;rw[(zO:10000-m+m=10000)]at d;have c:j=r:=by rw[Bool.eq_iff_iff,k,i]
 subst c;have l:program.run P w= .ok P w:=rfl;rcases b with rfl | rfl<;>simp[eqGuard,l,f,binOp,Op.equal,Op.maxDepth,d]
def eN(b:P.keyTypeAt m t=zW)(c:m<=10000)(d:P.eqGuardType P.depth t=zU)(fa:(Value.agg a).formed P t=zW) (fb:(Value.agg bs).formed P t=zW) (e:P.keyLits D t a.toList=zY la) (f:P.keyLits o t bs.toList=zY lb)  (g:r=zW↔la=lb) (k:K (.bool r)):AH P (do eqGuard .eql t x y (.agg a) (.agg bs);binOp .eql t (.agg a) (.agg bs)) S H K:=AH.mk _ (λw _=>QB b c d fa fb e f g (.inl rfl) x y w) k
def oE(b:P.keyTypeAt m t=zW)(c:m<=10000)(d:P.eqGuardType P.depth t=zU)(fa:(Value.agg a).formed P t=zW) (fb:(Value.agg bs).formed P t=zW) (e:P.keyLits D t a.toList=zY la) (f:P.keyLits o t bs.toList=zY lb)  (g:r=zW↔la=lb) (k:K (.bool (!r))):AH P (do eqGuard .neq t x y (.agg a) (.agg bs);binOp .neq t (.agg a) (.agg bs)) S H K:=AH.mk _ (λw _=>QB b c d fa fb e f g (.inr rfl) x y w) k
end
def BK(P:w_)(f:FuncId)(args:Array v_)(H:Aa)(v:v_):Prop:=Ai P f args H λv' H'=>v'=v/\D_ (λk=>k<H.size) H H'
def H_(H:Aa)(k:Nat):Prop:=k<H.size
def An(h:D_ (H_ H) H H'){k:Nat}(a:H_ H k):k<H'.size:=by have b:=h k a;unfold H_ at a;rw[uD a]at b;exact(vM.1 b).1
def BF(h:D_ (H_ H) H H'):H.size<=H'.size:=cK h (M_ _)
def Nb{a:Array v_}(h:∀H',D_ (H_ H) H H'->BK P f a H' v) (k:K v):LI P f a (H_ H) H K:=LI.mk v (λH' b=>(h H' b).mono λg H'' ⟨e,c⟩=>⟨e,c.mono λk d=>An b d⟩) k
def Al{a:Array v_}{K:v_->Aa->Prop}(h:BK P f a H v) (k:∀H',D_ (H_ H) H H'->K v H'):Ae P f a H K:=Ae.mk h λc H' ⟨e,b⟩=>by subst e;exact k H' b
def E_:BM prog 3:=⟨⟨_,rfl,rfl⟩,rfl⟩
def zE:BM prog 4:=⟨⟨_,rfl,rfl⟩,rfl⟩
def vZ:BM prog 5:=⟨⟨_,rfl,rfl⟩,rfl⟩
def ag8:Gv prog 8 4:=⟨⟨_,rfl,rfl⟩,rfl⟩
def wG:BM prog 9:=⟨⟨_,rfl,rfl⟩,rfl⟩
def F0:BM prog 24:=⟨⟨_,rfl,rfl⟩,rfl⟩
def M6:BM prog 25:=⟨⟨_,rfl,rfl⟩,rfl⟩
def P5:Gv prog 27 3:=⟨⟨_,rfl,rfl⟩,rfl⟩
def FB:BM prog 30:=⟨⟨_,rfl,rfl⟩,rfl⟩
def HP:SlT prog 30 77 261 296 (Tryz.t77.zero.getD undef):=⟨rfl,⟨_,rfl,rfl,rfl,rfl⟩,rfl⟩
def Dv:Gv prog 32 2:=⟨⟨_,rfl,rfl⟩,rfl⟩
def E2:Az prog 32 0 0 30 1:=⟨⟨_,_,rfl,rfl,rfl,rfl⟩,rfl,An2⟩
def Te:Az prog 32 1 1 3 1:=⟨⟨_,_,rfl,rfl,rfl,rfl⟩,rfl,An2⟩
def L2:BM prog 35:=⟨⟨_,rfl,rfl⟩,rfl⟩
def mJ:Pr prog 38 256 3 1:=⟨rfl,rfl⟩
def C4:BM prog 39:=⟨⟨_,rfl,rfl⟩,rfl⟩
def AD:SlT prog 39 3 1 8 (.int .i64 0):=⟨rfl,⟨_,rfl,rfl,rfl,rfl⟩,rfl⟩
def D7:BM prog 40:=⟨⟨_,rfl,rfl⟩,rfl⟩
def Dj:SlT prog 40 39 1 24 (.slice zV 0 0):=⟨rfl,⟨_,rfl,rfl,rfl,rfl⟩,rfl⟩
def FX:BM prog 41:=⟨⟨_,rfl,rfl⟩,rfl⟩
def Ci:SlT prog 41 4 1 1 (.bool zU):=⟨rfl,⟨_,rfl,rfl,rfl,rfl⟩,rfl⟩
def Ew:Gv prog 43 259:=⟨⟨_,rfl,rfl⟩,rfl⟩
def WR:Az prog 43 0 0 38 256:=⟨⟨_,_,rfl,rfl,rfl,rfl⟩,rfl,An2⟩
def Kn:Az prog 43 1 256 39 1:=⟨⟨_,_,rfl,rfl,rfl,rfl⟩,rfl,An2⟩
def EQ:Az prog 43 2 257 40 1:=⟨⟨_,_,rfl,rfl,rfl,rfl⟩,rfl,An2⟩
def Js:Az prog 43 3 258 41 1:=⟨⟨_,_,rfl,rfl,rfl,rfl⟩,rfl,An2⟩
def mI:Gv prog 47 3:=⟨⟨_,rfl,rfl⟩,rfl⟩
def PZ:Az prog 47 0 0 9 1:=⟨⟨_,_,rfl,rfl,rfl,rfl⟩,rfl,An2⟩
def AlR:Az prog 47 1 1 3 1:=⟨⟨_,_,rfl,rfl,rfl,rfl⟩,rfl,An2⟩
def AlS:Az prog 47 2 2 3 1:=⟨⟨_,_,rfl,rfl,rfl,rfl⟩,rfl,An2⟩
def Tf:Az prog 57 0 0 9 1:=⟨⟨_,_,rfl,rfl,rfl,rfl⟩,rfl,An2⟩
def Bg:Az prog 57 1 1 3 1:=⟨⟨_,_,rfl,rfl,rfl,rfl⟩,rfl,An2⟩
def Ko:Az prog 57 2 2 39 1:=⟨⟨_,_,rfl,rfl,rfl,rfl⟩,rfl,An2⟩
def oJ:BM prog 58:=⟨⟨_,rfl,rfl⟩,rfl⟩
def BZ:Gv prog 60 2:=⟨⟨_,rfl,rfl⟩,rfl⟩
def Tg:Az prog 60 0 0 3 1:=⟨⟨_,_,rfl,rfl,rfl,rfl⟩,rfl,An2⟩
def Th:Az prog 60 1 1 58 1:=⟨⟨_,_,rfl,rfl,rfl,rfl⟩,rfl,An2⟩
def EN:BM prog 64:=⟨⟨_,rfl,rfl⟩,rfl⟩
def LA:SlT prog 64 68 6 48 (Tryz.t68.zero.getD undef):=⟨rfl,⟨_,rfl,rfl,rfl,rfl⟩,rfl⟩
def Hs:Az prog 66 0 0 30 1:=⟨⟨_,_,rfl,rfl,rfl,rfl⟩,rfl,An2⟩
def BU:Az prog 66 1 1 64 1:=⟨⟨_,_,rfl,rfl,rfl,rfl⟩,rfl,An2⟩
def lO:Gv prog 68 6:=⟨⟨_,rfl,rfl⟩,rfl⟩
def AlT:Az prog 68 0 0 3 1:=⟨⟨_,_,rfl,rfl,rfl,rfl⟩,rfl,An2⟩
def N2:Az prog 68 1 1 3 1:=⟨⟨_,_,rfl,rfl,rfl,rfl⟩,rfl,An2⟩
def E3:Az prog 68 2 2 3 1:=⟨⟨_,_,rfl,rfl,rfl,rfl⟩,rfl,An2⟩
def Ti:Az prog 68 3 3 5 1:=⟨⟨_,_,rfl,rfl,rfl,rfl⟩,rfl,An2⟩
def DE:Az prog 68 4 4 3 1:=⟨⟨_,_,rfl,rfl,rfl,rfl⟩,rfl,An2⟩
def I1:Az prog 68 5 5 3 1:=⟨⟨_,_,rfl,rfl,rfl,rfl⟩,rfl,An2⟩
def FT:Pr prog 75 256 4 1:=⟨rfl,rfl⟩
def Zy:Gv prog 75 256:=⟨⟨_,rfl,rfl⟩,rfl⟩
def Rd:Gv prog 77 261:=⟨⟨_,rfl,rfl⟩,rfl⟩
def Dq:Az prog 77 0 0 3 1:=⟨⟨_,_,rfl,rfl,rfl,rfl⟩,rfl,An2⟩
def Tj:Az prog 77 1 1 75 256:=⟨⟨_,_,rfl,rfl,rfl,rfl⟩,rfl,An2⟩
def Db:Az prog 77 2 257 3 1:=⟨⟨_,_,rfl,rfl,rfl,rfl⟩,rfl,An2⟩
def Jt:Az prog 77 3 258 3 1:=⟨⟨_,_,rfl,rfl,rfl,rfl⟩,rfl,An2⟩
def jQ:Az prog 77 4 259 3 1:=⟨⟨_,_,rfl,rfl,rfl,rfl⟩,rfl,An2⟩
def Kp:Az prog 77 5 260 3 1:=⟨⟨_,_,rfl,rfl,rfl,rfl⟩,rfl,An2⟩
def qY:BM prog 89:=⟨⟨_,rfl,rfl⟩,rfl⟩
def OL:SlT prog 89 5 1 1 (.int .u8 0):=⟨rfl,⟨_,rfl,rfl,rfl,rfl⟩,rfl⟩
def oK:BM prog 91:=⟨⟨_,rfl,rfl⟩,rfl⟩
def mK:BM prog 92:=⟨⟨_,rfl,rfl⟩,rfl⟩
def jR:Az prog 94 0 0 89 1:=⟨⟨_,_,rfl,rfl,rfl,rfl⟩,rfl,An2⟩
def Tk:Az prog 94 1 1 91 1:=⟨⟨_,_,rfl,rfl,rfl,rfl⟩,rfl,An2⟩
def WS:Az prog 94 2 2 92 1:=⟨⟨_,_,rfl,rfl,rfl,rfl⟩,rfl,An2⟩
def Hi:Gv prog 96 3:=⟨⟨_,rfl,rfl⟩,rfl⟩
def Tl:Az prog 96 0 0 3 1:=⟨⟨_,_,rfl,rfl,rfl,rfl⟩,rfl,An2⟩
def FG:Az prog 96 1 1 3 1:=⟨⟨_,_,rfl,rfl,rfl,rfl⟩,rfl,An2⟩
def Ma:Az prog 96 2 2 3 1:=⟨⟨_,_,rfl,rfl,rfl,rfl⟩,rfl,An2⟩
def Fw:SlT prog 97 96 3 24 (Tryz.t96.zero.getD undef):=⟨rfl,⟨_,rfl,rfl,rfl,rfl⟩,rfl⟩
def D6:BM prog 106:=⟨⟨_,rfl,rfl⟩,rfl⟩
def Ct:Pr prog 108 4 106 1:=⟨rfl,rfl⟩
def Bn:Gv prog 108 4:=⟨⟨_,rfl,rfl⟩,rfl⟩
def UR:BM prog 110:=⟨⟨_,rfl,rfl⟩,rfl⟩
def CJ:SlT prog 110 108 4 32 (Tryz.t108.zero.getD undef):=⟨rfl,⟨_,rfl,rfl,rfl,rfl⟩,rfl⟩
def nS:BM prog 111:=⟨⟨_,rfl,rfl⟩,rfl⟩
def AnP:BM prog 114:=⟨⟨_,rfl,rfl⟩,rfl⟩
def EA:Pr prog 115 2 3 1:=⟨rfl,rfl⟩
def Ys:Az prog 125 0 0 3 1:=⟨⟨_,_,rfl,rfl,rfl,rfl⟩,rfl,An2⟩
def OW:Az prog 125 1 1 3 1:=⟨⟨_,_,rfl,rfl,rfl,rfl⟩,rfl,An2⟩
def Ze:SlT prog 129 137 5 56 (Tryz.t137.zero.getD undef):=⟨rfl,⟨_,rfl,rfl,rfl,rfl⟩,rfl⟩
def EB:BM prog 132:=⟨⟨_,rfl,rfl⟩,rfl⟩
def Ec:SlT prog 132 189 259 280 (Tryz.t189.zero.getD undef):=⟨rfl,⟨_,rfl,rfl,rfl,rfl⟩,rfl⟩
def My:Gv prog 134 4:=⟨⟨_,rfl,rfl⟩,rfl⟩
def Ck:Az prog 134 0 0 3 1:=⟨⟨_,_,rfl,rfl,rfl,rfl⟩,rfl,An2⟩
def MA:Az prog 134 1 1 3 1:=⟨⟨_,_,rfl,rfl,rfl,rfl⟩,rfl,An2⟩
def SW:Az prog 134 2 2 3 1:=⟨⟨_,_,rfl,rfl,rfl,rfl⟩,rfl,An2⟩
def CS:Az prog 134 3 3 132 1:=⟨⟨_,_,rfl,rfl,rfl,rfl⟩,rfl,An2⟩
def AhC:Az prog 137 0 0 3 1:=⟨⟨_,_,rfl,rfl,rfl,rfl⟩,rfl,An2⟩
def AhD:Az prog 137 1 1 134 4:=⟨⟨_,_,rfl,rfl,rfl,rfl⟩,rfl,An2⟩
def mE:SlT prog 141 35 1 8 (.pointer zV):=⟨rfl,⟨_,rfl,rfl,rfl,rfl⟩,rfl⟩
def iW:Pr prog 146 256 5 1:=⟨rfl,rfl⟩
def MB:Az prog 148 0 0 110 1:=⟨⟨_,_,rfl,rfl,rfl,rfl⟩,rfl,An2⟩
def Yt:Az prog 148 1 1 146 256:=⟨⟨_,_,rfl,rfl,rfl,rfl⟩,rfl,An2⟩
def HY:Az prog 148 2 257 40 1:=⟨⟨_,_,rfl,rfl,rfl,rfl⟩,rfl,An2⟩
def SX:Az prog 148 3 258 41 1:=⟨⟨_,_,rfl,rfl,rfl,rfl⟩,rfl,An2⟩
def OX:Az prog 148 4 259 41 1:=⟨⟨_,_,rfl,rfl,rfl,rfl⟩,rfl,An2⟩
def US:BM prog 155:=⟨⟨_,rfl,rfl⟩,rfl⟩
def VX:SlT prog 155 158 1 24 (.slice zV 0 0):=⟨rfl,⟨_,rfl,rfl,rfl,rfl⟩,rfl⟩
def AhE:Az prog 157 0 0 32 2:=⟨⟨_,_,rfl,rfl,rfl,rfl⟩,rfl,An2⟩
def Lb:Az prog 157 1 2 9 1:=⟨⟨_,_,rfl,rfl,rfl,rfl⟩,rfl,An2⟩
def MC:Az prog 157 2 3 155 1:=⟨⟨_,_,rfl,rfl,rfl,rfl⟩,rfl,An2⟩
def Yb:BM prog 158:=⟨⟨_,rfl,rfl⟩,rfl⟩
def Zf:SlT prog 158 41 1 24 (.slice zV 0 0):=⟨rfl,⟨_,rfl,rfl,rfl,rfl⟩,rfl⟩
def Yu:Az prog 164 0 0 24 1:=⟨⟨_,_,rfl,rfl,rfl,rfl⟩,rfl,An2⟩
def Yv:Az prog 164 1 1 24 1:=⟨⟨_,_,rfl,rfl,rfl,rfl⟩,rfl,An2⟩
def Yw:Az prog 165 0 0 24 1:=⟨⟨_,_,rfl,rfl,rfl,rfl⟩,rfl,An2⟩
def Yx:Az prog 165 1 1 24 1:=⟨⟨_,_,rfl,rfl,rfl,rfl⟩,rfl,An2⟩
def Yy:Az prog 167 0 0 24 1:=⟨⟨_,_,rfl,rfl,rfl,rfl⟩,rfl,An2⟩
def SY:Az prog 167 1 1 24 1:=⟨⟨_,_,rfl,rfl,rfl,rfl⟩,rfl,An2⟩
def FV:BM prog 169:=⟨⟨_,rfl,rfl⟩,rfl⟩
def Gs:SlT prog 169 225 7 56 (Tryz.t225.zero.getD undef):=⟨rfl,⟨_,rfl,rfl,rfl,rfl⟩,rfl⟩
def ET:Gv prog 171 4:=⟨⟨_,rfl,rfl⟩,rfl⟩
def DN:Az prog 171 0 0 3 1:=⟨⟨_,_,rfl,rfl,rfl,rfl⟩,rfl,An2⟩
def Jp:Az prog 171 1 1 3 1:=⟨⟨_,_,rfl,rfl,rfl,rfl⟩,rfl,An2⟩
def Lc:Az prog 171 2 2 3 1:=⟨⟨_,_,rfl,rfl,rfl,rfl⟩,rfl,An2⟩
def Eh:Az prog 171 3 3 169 1:=⟨⟨_,_,rfl,rfl,rfl,rfl⟩,rfl,An2⟩
def hH:BM prog 174:=⟨⟨_,rfl,rfl⟩,rfl⟩
def Zg:SlT prog 178 75 256 256 (Tryz.t75.zero.getD undef):=⟨rfl,⟨_,rfl,rfl,rfl,rfl⟩,rfl⟩
def LD:BM prog 181:=⟨⟨_,rfl,rfl⟩,rfl⟩
def Sh:SlT prog 181 115 2 16 (Tryz.t115.zero.getD undef):=⟨rfl,⟨_,rfl,rfl,rfl,rfl⟩,rfl⟩
def UA:Pr prog 182 1024 39 1:=⟨rfl,rfl⟩
def FP:Az prog 184 0 0 181 1:=⟨⟨_,_,rfl,rfl,rfl,rfl⟩,rfl,An2⟩
def SZ:Az prog 184 1 1 182 1024:=⟨⟨_,_,rfl,rfl,rfl,rfl⟩,rfl,An2⟩
def XP:Gv prog 189 259:=⟨⟨_,rfl,rfl⟩,rfl⟩
def Ld:Az prog 189 0 0 3 1:=⟨⟨_,_,rfl,rfl,rfl,rfl⟩,rfl,An2⟩
def HZ:Az prog 189 1 1 3 1:=⟨⟨_,_,rfl,rfl,rfl,rfl⟩,rfl,An2⟩
def OY:Az prog 189 2 2 4 1:=⟨⟨_,_,rfl,rfl,rfl,rfl⟩,rfl,An2⟩
def Ta:Az prog 189 3 3 75 256:=⟨⟨_,_,rfl,rfl,rfl,rfl⟩,rfl,An2⟩
def Fl:Az prog 197 0 0 40 1:=⟨⟨_,_,rfl,rfl,rfl,rfl⟩,rfl,An2⟩
def MD:Az prog 197 1 1 182 1024:=⟨⟨_,_,rfl,rfl,rfl,rfl⟩,rfl,An2⟩
def UT:BM prog 198:=⟨⟨_,rfl,rfl⟩,rfl⟩
def VY:SlT prog 198 132 1 24 (.slice zV 0 0):=⟨rfl,⟨_,rfl,rfl,rfl,rfl⟩,rfl⟩
def Jq:Az prog 200 0 0 3 1:=⟨⟨_,_,rfl,rfl,rfl,rfl⟩,rfl,An2⟩
def ME:Az prog 200 1 1 198 1:=⟨⟨_,_,rfl,rfl,rfl,rfl⟩,rfl,An2⟩
def Jr:Az prog 200 2 2 41 1:=⟨⟨_,_,rfl,rfl,rfl,rfl⟩,rfl,An2⟩
def iX:Pr prog 204 2 108 4:=⟨rfl,rfl⟩
def Cl:Az prog 215 0 0 171 4:=⟨⟨_,_,rfl,rfl,rfl,rfl⟩,rfl,An2⟩
def Yz:Az prog 215 1 4 174 1:=⟨⟨_,_,rfl,rfl,rfl,rfl⟩,rfl,An2⟩
def CT:Az prog 215 2 5 25 1:=⟨⟨_,_,rfl,rfl,rfl,rfl⟩,rfl,An2⟩
def R4:BM prog 219:=⟨⟨_,rfl,rfl⟩,rfl⟩
def UU:BM prog 221:=⟨⟨_,rfl,rfl⟩,rfl⟩
def VZ:SlT prog 221 169 1 24 (.slice zV 0 0):=⟨rfl,⟨_,rfl,rfl,rfl,rfl⟩,rfl⟩
def OZ:Az prog 223 0 0 40 1:=⟨⟨_,_,rfl,rfl,rfl,rfl⟩,rfl,An2⟩
def MF:Az prog 223 1 1 221 1:=⟨⟨_,_,rfl,rfl,rfl,rfl⟩,rfl,An2⟩
def Pa:Az prog 223 2 2 3 1:=⟨⟨_,_,rfl,rfl,rfl,rfl⟩,rfl,An2⟩
def P3:Gv prog 225 7:=⟨⟨_,rfl,rfl⟩,rfl⟩
def Ia:Az prog 225 0 0 3 1:=⟨⟨_,_,rfl,rfl,rfl,rfl⟩,rfl,An2⟩
def Le:Az prog 225 1 1 3 1:=⟨⟨_,_,rfl,rfl,rfl,rfl⟩,rfl,An2⟩
def Y0:Az prog 225 2 2 4 1:=⟨⟨_,_,rfl,rfl,rfl,rfl⟩,rfl,An2⟩
def Tb:Az prog 225 3 3 108 4:=⟨⟨_,_,rfl,rfl,rfl,rfl⟩,rfl,An2⟩
def AhF:Az prog 239 0 0 108 4:=⟨⟨_,_,rfl,rfl,rfl,rfl⟩,rfl,An2⟩
def Y1:Az prog 240 0 0 24 1:=⟨⟨_,_,rfl,rfl,rfl,rfl⟩,rfl,An2⟩
def Tc:Az prog 240 1 1 24 1:=⟨⟨_,_,rfl,rfl,rfl,rfl⟩,rfl,An2⟩
def Y2:Az prog 243 0 0 24 1:=⟨⟨_,_,rfl,rfl,rfl,rfl⟩,rfl,An2⟩
def AnQ:BM prog 245:=⟨⟨_,rfl,rfl⟩,rfl⟩
def hJ:BM prog 252:=⟨⟨_,rfl,rfl⟩,rfl⟩
def Oc:BM prog 253:=⟨⟨_,rfl,rfl⟩,rfl⟩
def Zh:SlT prog 253 9 1 16 (Tryz.t9.zero.getD undef):=⟨rfl,⟨_,rfl,rfl,rfl,rfl⟩,rfl⟩
def Y3:Az prog 255 0 0 252 1:=⟨⟨_,_,rfl,rfl,rfl,rfl⟩,rfl,An2⟩
def Ib:Az prog 255 1 1 253 1:=⟨⟨_,_,rfl,rfl,rfl,rfl⟩,rfl,An2⟩
def AhG:Az prog 255 2 2 3 1:=⟨⟨_,_,rfl,rfl,rfl,rfl⟩,rfl,An2⟩
def Td:Az prog 260 0 0 9 1:=⟨⟨_,_,rfl,rfl,rfl,rfl⟩,rfl,An2⟩
def AR:Az prog 260 1 1 3 1:=⟨⟨_,_,rfl,rfl,rfl,rfl⟩,rfl,An2⟩
def P4:Gv prog 263 2:=⟨⟨_,rfl,rfl⟩,rfl⟩
def Y4:Az prog 263 0 0 3 1:=⟨⟨_,_,rfl,rfl,rfl,rfl⟩,rfl,An2⟩
def Y5:Az prog 263 1 1 3 1:=⟨⟨_,_,rfl,rfl,rfl,rfl⟩,rfl,An2⟩
def hO:BM prog 272:=⟨⟨_,rfl,rfl⟩,rfl⟩
def Od:BM prog 273:=⟨⟨_,rfl,rfl⟩,rfl⟩
def Zi:SlT prog 273 263 2 16 (Tryz.t263.zero.getD undef):=⟨rfl,⟨_,rfl,rfl,rfl,rfl⟩,rfl⟩
def Y6:Az prog 275 0 0 272 1:=⟨⟨_,_,rfl,rfl,rfl,rfl⟩,rfl,An2⟩
def Ic:Az prog 275 1 1 273 1:=⟨⟨_,_,rfl,rfl,rfl,rfl⟩,rfl,An2⟩
def AhH:Az prog 275 2 2 3 1:=⟨⟨_,_,rfl,rfl,rfl,rfl⟩,rfl,An2⟩
def AnA:Gv prog 303 2:=⟨⟨_,rfl,rfl⟩,rfl⟩
def AhI:Az prog 303 0 0 5 1:=⟨⟨_,_,rfl,rfl,rfl,rfl⟩,rfl,An2⟩
def AhJ:Az prog 303 1 1 5 1:=⟨⟨_,_,rfl,rfl,rfl,rfl⟩,rfl,An2⟩
def AnH:Pr prog 304 3 303 2:=⟨rfl,rfl⟩
def AnB:Gv prog 304 6:=⟨⟨_,rfl,rfl⟩,rfl⟩
def wd(s:BitVec 256)(i:Nat):Nat:=(s.toNat / 2^(64*i)) % 2^64
def BD(s:BitVec 256):v_:=.agg #[.int .u64 (wd s 0),.int .u64 (wd s 1),.int .u64 (wd s 2),.int .u64 (wd s 3)]
def Ag(s:BitVec 256):List v_:=[.int .u64 (wd s 0),.int .u64 (wd s 1),.int .u64 (wd s 2),.int .u64 (wd s 3)]
def LH(s:BitVec 256)(i:Nat):wd s i<2^64:=nB _ zQ
def Fd(s:BitVec 256)(i:Nat):inK .u64 (wd s i:Int):=by have:=LH s i;refine⟨?_,?_⟩<;>simp only[IntKind.min,IntKind.max,IntKind.signed,IntKind.bits]<;>simp<;>omega
def GD(s:BitVec 256)(i j:Nat)(a:j<64):(wd s i).testBit j=s.getLsbD (64*i+j):=by unfold wd;rw[Nat.testBit_mod_two_pow,Nat.testBit_div_two_pow,BitVec.testBit_toNat];simp[a];congr 1;omega
def iR{s t:BitVec 256}(h:∀i,i<4->wd s i=wd t i):s=t:=by apply tQ;intro k c;have a:=GD s (k / 64) (k % 64) (nB _ zQ);have b:=GD t (k / 64) (k % 64) (nB _ zQ);rw[(zO:64*(k / 64)+k % 64=k)]at a b;rw[<-a,<-b,h _ zO]
def AoR{s t:BitVec 256}(h:BD s=BD t):s=t:=by unfold BD at h;simp only[Value.agg.injEq,Array.mk.injEq,List.cons.injEq,Value.int.injEq,true_and,and_true,gW]at h;apply iR;intro i a;match i,a with|0,_=>exact h.1|1,_=>exact h.2.1|2,_=>exact h.2.2.1|3,_=>exact h.2.2.2
def nT(s:BitVec 256)(b:Nat)(i:b<256)(H:Aa):BK prog 97 #[BD s,.int .u8 b] H (.bool (s.getLsbD b)):=by
 refine Ai.of_vc func97 rfl (call97 _) ?_;(conv=>whnf);refine BI (Ag s) rfl ?_;intro p H1 e f a c;refine oU (b:=6) (by decide) (V' Ct (by omega) (by omega) (C_ D6 (v:=.int .u64 (wd s (b / 64))) ?_ zA ?_));{rw[a.cell];have:b / 2^6<4:=by{omega};rw[show b / 64=b / 2^6 by omega];generalize b / 2^6=q at this;match q,this with|0,_=>rfl|1,_=>rfl|2,_=>rfl|3,_=>rfl};refine Wh (b:=63) ⟨by simp[IntKind.min,IntKind.signed],by simp[IntKind.max,IntKind.signed,IntKind.bits];omega⟩ ⟨by decide,by decide⟩ ?_;refine oU (yS Nat.and_le_right (by decide)) (Wh (b:=1) (WX (Fd s _) (gX _ _)) ⟨by decide,by decide⟩ ?_);(conv=>whnf);refine⟨?_,by rw[<-e];exact c⟩;congr 1;have g:b &&& 63=b % 64:=by rw[show(63:Nat)=2^6-1 by decide,fI]
 have d:=GD s (b / 64) (b % 64) (nB _ (by decide));rw[show 64*(b / 64)+b % 64=b by omega]at d;rw[g,<-d,Nat.testBit_eq_decide_div_mod_eq,Nat.and_one_is_mod];have:=Nat.mod_two_eq_zero_or_one (wd s (b / 64) / 2^(b % 64));rcases this with h | h<;>simp[h]
def Ur(a b:BitVec 256)(i:Nat):wd (a &&& b) i=wd a i &&& wd b i:=by apply lA;intro j;rw[Nat.testBit_and];by_cases c:j<64;{rw[GD _ _ _ c,GD _ _ _ c,GD _ _ _ c,BitVec.getLsbD_and]};rw[tT (wV (LH _ _) (uG zQ zO)),tT (x:=wd a i) (wV (LH _ _) (uG zQ zO))];rfl
def Zu(a b:BitVec 256)(i:Nat):wd (a ||| b) i=wd a i ||| wd b i:=by apply lA;intro j;rw[lC];by_cases c:j<64;{rw[GD _ _ _ c,GD _ _ _ c,GD _ _ _ c,rH]};rw[tT (wV (LH _ _) (uG zQ zO)),tT (x:=wd a i) (wV (LH _ _) (uG zQ zO)),tT (x:=wd b i) (wV (LH _ _) (uG zQ zO))];rfl
def Xg(a b:BitVec 256)(H:Aa):BK prog 95 #[BD a,BD b] H (BD (a &&& b)):=by refine Ai.of_vc func95 rfl (call95 _) (BI (Ag a) rfl ?_);intro p H1 u m c g;refine BI (Ag b) rfl ?_;intro q H2 w n d f;refine Af (BD 0) (Ag 0) rfl rfl ?_;intro r H3 x o h e;replace c:=(c.agr f (show p<q by omega)).agr e (show p<r by omega);replace d:=d.agr e (show q<r by omega);refine V' Ct (by decide) (by decide) (C_ D6 ((c.cell _).trans rfl) zA (V' Ct (by decide) (by decide) (C_ D6 ((d.cell _).trans rfl) zA (Wh (Fd a _) (Fd b _) (V' Ct (by decide) (by decide) (C_ D6 ((c.cell _).trans rfl) zA (V' Ct (by decide) (by decide) (C_ D6 ((d.cell _).trans rfl) zA (Wh (Fd a _) (Fd b _) (V' Ct (by decide) (by decide) (C_ D6 ((c.cell _).trans rfl) zA (V' Ct (by decide) (by decide) (C_ D6 ((d.cell _).trans rfl) zA (Wh (Fd a _) (Fd b _) (V' Ct (by decide) (by decide) (C_ D6 ((c.cell _).trans rfl) zA (V' Ct (by decide) (by decide) (C_ D6 ((d.cell _).trans rfl) zA (Wh (Fd a _) (Fd b _) (CB Ct (BD 0) rfl [Value.int .u64 ((wd a 0 &&& wd b 0:Nat):Int),Value.int .u64 ((wd a 1 &&& wd b 1:Nat):Int),Value.int .u64 ((wd a 2 &&& wd b 2:Nat):Int),Value.int .u64 ((wd a 3 &&& wd b 3:Nat):Int)] rfl (Zaa rfl h (show 0+4<=4 by decide) rfl ?_)))))))))))))))))))));intro H4 i l s;refine L_ (cs:=[Value.int .u64 ((wd a 0 &&& wd b 0:Nat):Int),Value.int .u64 ((wd a 1 &&& wd b 1:Nat):Int),Value.int .u64 ((wd a 2 &&& wd b 2:Nat):Int),Value.int .u64 ((wd a 3 &&& wd b 3:Nat):Int)]) Bn (i.cells (λj v t=>by simpa [Ah,Ag]using t)) zA (⟨?_,?_⟩);{unfold BD;rw[Ur,Ur,Ur,Ur]};intro k y;rw[l k (by omega),e k (by omega),f k (by omega),g k (by omega)]
def No(a b:BitVec 256)(H:Aa):BK prog 98 #[BD a,BD b] H (BD (a ||| b)):=by refine Ai.of_vc func98 rfl (call98 _) (BI (Ag a) rfl ?_);intro p H1 u m c g;refine BI (Ag b) rfl ?_;intro q H2 w n d f;refine Af (BD 0) (Ag 0) rfl rfl ?_;intro r H3 x o h e;replace c:=(c.agr f (show p<q by omega)).agr e (show p<r by omega);replace d:=d.agr e (show q<r by omega);refine V' Ct (by decide) (by decide) (C_ D6 ((c.cell _).trans rfl) zA (V' Ct (by decide) (by decide) (C_ D6 ((d.cell _).trans rfl) zA (rB (Fd a _) (Fd b _) (V' Ct (by decide) (by decide) (C_ D6 ((c.cell _).trans rfl) zA (V' Ct (by decide) (by decide) (C_ D6 ((d.cell _).trans rfl) zA (rB (Fd a _) (Fd b _) (V' Ct (by decide) (by decide) (C_ D6 ((c.cell _).trans rfl) zA (V' Ct (by decide) (by decide) (C_ D6 ((d.cell _).trans rfl) zA (rB (Fd a _) (Fd b _) (V' Ct (by decide) (by decide) (C_ D6 ((c.cell _).trans rfl) zA (V' Ct (by decide) (by decide) (C_ D6 ((d.cell _).trans rfl) zA (rB (Fd a _) (Fd b _) (CB Ct (BD 0) rfl [Value.int .u64 ((wd a 0 ||| wd b 0:Nat):Int),Value.int .u64 ((wd a 1 ||| wd b 1:Nat):Int),Value.int .u64 ((wd a 2 ||| wd b 2:Nat):Int),Value.int .u64 ((wd a 3 ||| wd b 3:Nat):Int)] rfl (Zaa rfl h (show 0+4<=4 by decide) rfl ?_)))))))))))))))))))));intro H4 i l s;refine L_ (cs:=[Value.int .u64 ((wd a 0 ||| wd b 0:Nat):Int),Value.int .u64 ((wd a 1 ||| wd b 1:Nat):Int),Value.int .u64 ((wd a 2 ||| wd b 2:Nat):Int),Value.int .u64 ((wd a 3 ||| wd b 3:Nat):Int)]) Bn (i.cells (λj v t=>by simpa [Ah,Ag]using t)) zA (⟨?_,?_⟩);{unfold BD;rw[Zu,Zu,Zu,Zu]};intro k y;rw[l k (by omega),e k (by omega),f k (by omega),g k (by omega)]
def iU(b:Nat):b &&& 63=b % 64:=by rw[show(63:Nat)=2^6-1 by decide,fI]
def VP(s:BitVec 256)(b:Nat)(a:b<256):(Ag s)[b / 2^6]?=zY (.int .u64 (wd s (b / 64))):=by have:b / 2^6<4:=zO;rw[(zO:b / 64=b / 2^6)];generalize b / 2^6=q at this;match q,this with|0,_=>rfl|1,_=>rfl|2,_=>rfl|3,_=>rfl
def Ut(s:BitVec 256)(b i:Nat)(e:b<256):wd (s ||| AqU 256 b) i=if i=b / 64 then wd s i ||| 2^(b % 64)else wd s i:=by apply lA;intro j;by_cases c:j<64;{rw[GD _ _ _ c,rH,gV];by_cases d:i=b / 64;{rw[J_ d,lC,GD _ _ _ c,fJ];congr 1;by_cases h:b % 64=j;{have:b=64*i+j:=zO;simp[h,<-this,e]};have:¬b=64*i+j:=zO;simp[h,this]};rw[I_ d,GD _ _ _ c];have:¬b=64*i+j:=zO;simp[this]};have a:2^64<=2^j:=uG zQ zO;rw[tT (wV (LH _ _) a)];split;{rw[lC,tT (wV (LH _ _) a),fJ];simp;omega};rw[tT (wV (LH _ _) a)]
def VQ(s:BitVec 256)(b:Nat)(a:b<256):(Ag s).set (b / 64) (.int .u64 ((wd s (b / 64) ||| 2^(b % 64):Nat):Int))=Ag (s ||| AqU 256 b):=by have h:b / 64<4:=zO;unfold Ag;rw[Ut s b 0 a,Ut s b 1 a,Ut s b 2 a,Ut s b 3 a];generalize b / 64=q at h;match q,h with|0,_=>rfl|1,_=>rfl|2,_=>rfl|3,_=>rfl
def AmQ(lo g:Nat)(F:lo<256)(G:g<256)(H:Aa):Ai prog 40 #[.int .u8 lo,.int .u8 g] H λv H'=>
  (∃s,v=BD s/\∀b,b<256->s.getLsbD b=(zT (lo<=b)&&zT (b<=g)))/\D_ (H_ H) H H':=by refine Ai.of_vc func40 rfl (call40 _) (Af (BD 0) (Ag 0) rfl rfl ?_);intro r H1 N I i y;refine Af (BD 0) (Ag 0) rfl rfl ?_;intro p H2 O J z o;replace i:=i.agr o (zO:r<p);(conv=>whnf);rw[W_ (x:=(lo:Int)) zO];refine A0.mk [6] (λb:Nat=>[A_ b]) (λb H3=>lo<=b/\(b<=g+1\/b=lo)/\D_ (λk=>k≠p) H2 H3/\H3.size=H2.size/\∃s:BitVec 256,S_ H3 p 108 (Ag s)/\∀c,c<256->s.getLsbD c=(zT (lo<=c)&&zT (c<b))) (λb _=>256-b) ?_ ?_;{(conv=>whnf);exact⟨lo,rfl,zO,zO,D_.refl _ _,rfl,0,z,λc q=>zZ⟩};{rintro b H3 D ⟨K,w,l,L,s,m,hs⟩;(conv=>whnf);rw[W_ (x:=(g:Int)) zO];refine AB.m2 (λh=>?_) (λh=>?_);{(conv=>whnf);refine Ap.tail 9 (sq [0,1,2,3,4,5,6,7,8] (.f 9 .e)) rfl zX (oU (b:=6) zQ (V' Ct zO zO ?_));refine C_ D6 (v:=.int .u64 (wd s (b / 64))) (by rw[m.cell,K_,zI];exact VP s b zO) zA ?_;refine Wh (b:=63) (BJ zO) (BJ zQ) ?_;have E:2^(b % 64)<2^64:=Nat.pow_lt_pow_right zQ zO;rw[iU];have t:inK .u64 ((1*2^(b % 64):Nat):Int):=hZ zO;refine mT (a:=1) (by simp[IntKind.bits];omega) t ?_;refine rB (Fd s _) t (V' Ct zO zO ?_);refine F_ D6 m (by simp[Ag];omega) rfl ?_;intro H4 d n A;(conv=>whnf);rw[R_ b zO];refine⟨rfl,b+1,zZ,⟨zO,zO,l.trans n,zO,s ||| AqU 256 b,?_,λc q=>?_⟩,zO⟩;{rw[K_,zI,mY]at d;rw[<-VQ s b zO];exact d};{rw[rH,hs c q,gV];by_cases u:b=c;{subst u;simp[q,K]};{have:(zT (c<b+1))=zT (c<b):=by{simp;omega};simp[u,this]}}};{(conv=>whnf);refine L_ (cs:=Ag s) Bn (m.cells (λj v B=>by simpa using B)) zA (Zaa rfl (i.agr l (zO:r≠p)) (zQ:0+4<=4) rfl ?_);intro H4 d n A;refine L_ (cs:=Ag s) Bn (d.cells (λj v B=>by simpa [Ah,Ag]using B)) zA (⟨⟨s,rfl,λc q=>?_⟩,λk M=>?_⟩);{rw[hs c q];rcases w with w | w;{have:(zT (c<b))=zT (c<=g):=by{simp;omega};rw[this]};{subst w;by_cases C:b<=c;{simp[show¬c<b by omega,show¬c<=g by omega]};{simp[C]}}};{unfold H_ at M;rw[n k zO,l k zO,o k zO,y k zO]}}}
def CA:Ty (BitVec 256) where
 size:=4
 rep _ _ cs s:=cs=Ag s
 len h:=by rw[h];rfl
 frame h _:=h
 mono h _:=h
def JD(s:BitVec 256):List Lit:=[.int .u64 (wd s 0),.int .u64 (wd s 1),.int .u64 (wd s 2),.int .u64 (wd s 3)]
def VR(a b:BitVec 256):zT (a=b)=zW↔JD a=JD b:=by rw[z'];constructor;{rintro rfl;rfl};intro h;unfold JD at h;simp only[List.cons.injEq,Lit.int.injEq,true_and,and_true,gW]at h;apply iR;intro i c;match i,c with|0,_=>exact h.1|1,_=>exact h.2.1|2,_=>exact h.2.2.1|3,_=>exact h.2.2.2
def AmM(s:BitVec 256)(i:Nat):(Lit.int .u64 (wd s i)).wf=zW:=by have:=Fd s i;unfold Lit.wf;simp only[X',z'];exact this
def VT(s:BitVec 256):prog.keyLits 2 108 (Ag s)=zY (JD s):=by have a:prog.cellsOf 108=4:=rfl;have b:prog.cellsOf 106=1:=rfl;simp[Program.keyLits,underlying108,underlying106,a,b,Ag,JD,AmM,Ap6,Ap6.loop]
def Po(a b:BitVec 256)(k:K (.bool (!zT (a=b)))):AH prog (do eqGuard .neq 108 x y (BD a) (BD b);binOp .neq 108 (BD a) (BD b)) S H K:=oE (m:=2) (la:=JD a) (lb:=JD b) rfl zQ (eqGuardType108) rfl rfl (VT a) (VT b) (VR a b) k
def Ba(lo hi:Nat):BitVec 256:=BitVec.ofNat 256 ((2^(hi+1-lo)-1) <<< lo)
def Eo(lo a b:Nat)(c:b<256):(Ba lo a).getLsbD b=(zT (lo<=b)&&zT (b<=a)):=by unfold Ba;rw[BitVec.getLsbD_ofNat,Nat.testBit_shiftLeft,Nat.testBit_two_pow_sub_one];by_cases h:lo<=b;{simp only[c,decide_true,vD,h,ge_iff_le];congr 1;rw[eq_iff_iff];omega};simp[h]
def KG(lo a:Nat)(c:lo<256)(d:a<256)(H:Aa):BK prog 40 #[.int .u8 lo,.int .u8 a] H (BD (Ba lo a)):=by refine(AmQ lo a c d H).mono ?_;rintro v H' ⟨⟨s,rfl,hs⟩,f⟩;refine⟨?_,f⟩;congr 1;apply tQ;intro b e;rw[hs b e,Eo lo a b e]
def JG:Ba 0 255=ArC 256:=by apply tQ;intro b a;rw[Eo 0 255 b a,tR];simp[a];omega
structure u_ where
 fr:Int
 to:Int
 sil:Bool
 set:BitVec 256
structure P_ where
 st:Int
 start:Int
 fin:Int
 edges:List u_
def P_.has(a:P_)(q:Int):Bool:=zT (0<=q)&&zT (q<a.st)&&zT (a.st<=65536)
def P_.has_iff{a:P_}:a.has q=zW↔0<=q/\q<a.st/\a.st<=65536:=by unfold P_.has;simp only[X',z',and_assoc]
inductive AbJ(a:P_):Int->Int->Prop
 | refl (p:Int):AbJ a p p
 | step {p:Int} {e:u_}:AbJ a p e.fr->e∈a.edges->e.sil=zW->a.has e.to=zW->AbJ a p e.to
abbrev PS:=Int->Prop
def clS(a:P_)(X:PS):PS:=λq=>∃p,X p/\AbJ a p q
def GN(a:P_):PS:=clS a λq=>q=a.start/\a.has a.start=zW
def ML(a:P_)(X:PS)(b:Nat):PS:=λq=>∃e∈a.edges,e.sil=zU/\e.set.getLsbD b=zW/\X e.fr/\a.has e.to=zW/\q=e.to
def tL(a:P_)(X:PS)(b:Nat):PS:=clS a (ML a X b)
def OH(a:P_)(s:List Nat):PS:=s.foldl (tL a) (GN a)
def U0(a:P_)(X:PS):Prop:=∀e∈a.edges,e.sil=zW->a.has e.to=zW->X e.fr->X e.to
def WC{a:P_}{X:PS}(h:X q):clS a X q:=⟨q,h,.refl q⟩
def M5(a:P_)(X:PS):U0 a (clS a X):=λe b c d ⟨p,f,hs⟩=>⟨p,f,.step hs b c d⟩
variable{Y:PS}
def IE{a:P_}{X:PS}(h:∀q,X q->Y q)(hs:U0 a Y):∀q,clS a X q->Y q:=by rintro q ⟨p,b,c⟩;induction c with|refl=>exact h _ b|step _ d e f g=>exact hs _ d e f g
def HW{a:P_}{X:PS}(h:∀q,X q->a.has q=zW):∀q,clS a X q->a.has q=zW:=IE h λe _ _ b _=>b
def Fj(a:P_):∀q,GN a q->a.has q=zW:=HW λq ⟨e,h⟩=>e ▸ h
def Tp(a:P_)(X:PS)(b:Nat):∀q,tL a X b q->a.has q=zW:=HW λq ⟨e,_,_,_,_,h,c⟩=>c ▸ h
def NH(a:P_)(s:List Nat)(b:Nat):OH a (s++[b])=tL a (OH a s) b:=by unfold OH;rw[List.foldl_append];rfl
def Vg(a:P_):∀(s:List Nat) (X:PS),(∀q,X q->a.has q=zW)->∀q,s.foldl (tL a) X q->a.has q=zW | [],X,h=>h | b::s,X,h=>Vg a s (tL a X b) (Tp a X b)
def P'(a:P_)(s:List Nat):∀q,OH a s q->a.has q=zW:=Vg a s _ (Fj a)
def RC(a:P_):∀(s:List Nat) (X:PS),U0 a X->U0 a (s.foldl (tL a) X)| [],X,h=>h | b::s,X,h=>RC a s (tL a X b) (M5 a _)
def dH(a:P_)(s:List Nat):U0 a (OH a s):=RC a s _ (M5 a _)
def Wb:∀{l m:List Int},l.Pairwise (·<·)->m.Pairwise (·<·)->(∀q,q∈l↔q∈m)->l=m
 | [],[],_,_,_=>rfl
 | [],y::m,_,_,h=>by have:=(h y).2 zZ;cases this
 | x::l,[],_,_,h=>by have:=(h x).1 zZ;cases this
 | x::l,y::m,hl,hm,h=>by
   have⟨g,j⟩:=vL.1 hl;have⟨i,k⟩:=vL.1 hm;have b:x=y:=by
    have c:=(h x).1 zZ;have d:=(h y).2 zZ;rcases zM.1 c with e | c
    ·exact e
    ·rcases zM.1 d with e | d
     ·exact e.symm
     ·have:=g y d;have:=i x c;omega
   subst b
   congr 1
   refine Wb j k λq=>⟨λa=>?_,λa=>?_⟩
   ·rcases zM.1 ((h q).1 (by simp[a]))with e | f
    ·have:=g q a;omega
    ·exact f
   ·rcases zM.1 ((h q).2 (by simp[a]))with e | f
    ·have:=i q a;omega
    ·exact f
open Classical in
noncomputable def CV(X:PS):List Int:=((Ap6 65536).map fun(n:Nat)=>(n:Int)).filter λq=>zT (X q)
def aK(X:PS):(CV X).Pairwise (·<·):=by unfold CV;refine List.Pairwise.filter _ ?_;rw[List.pairwise_map];exact List.pairwise_lt_range.imp λh=>zO
open Classical in
def HB{X:PS}(h:∀q,X q->0<=q/\q<65536)(q:Int):q∈CV X↔X q:=by unfold CV;rw[zP,z',List.mem_map];constructor;{exact λ⟨_,a⟩=>a};intro a;have⟨b,c⟩:=h q a;exact⟨⟨q.toNat,List.mem_range.2 zO,zO⟩,a⟩
def Li{X:PS}{l:List Int}(h:∀q,X q->0<=q/\q<65536)(hs:l.Pairwise (·<·))(a:∀q,q∈l↔X q):l=CV X:=Wb hs (aK X) λq=>(a q).trans (HB h q).symm
def Kw(X:PS):(CV X).length<=65536:=by unfold CV;exact yS (List.length_filter_le _ _) zZ
def Ej{a:P_}{X:PS}(h:∀q,X q->a.has q=zW):∀q,X q->0<=q/\q<65536:=λq b=>by
 have:=P_.has_iff.1 (h q b);omega
noncomputable def Xv(a:P_)(s:List Nat):List Int:=CV (OH a s)
def VF(a:P_)(s:List Nat)(q:Int):q∈Xv a s↔OH a s q:=HB (Ej (P' a s)) q
open Classical in
noncomputable def Zx(a:P_)(s:List Nat):Bool:=zT (OH a s a.fin)
def Mx(a:P_)(s:List Nat):Zx a s=zW↔OH a s a.fin:=by unfold Zx;simp
inductive Way(a:P_):Int->List Nat->Int->Prop
 | nil {p:Int}:a.has p=zW->Way a p [] p
 | sil {e:u_} {s:List Nat} {q:Int}:e∈a.edges->e.sil=zW->a.has e.fr=zW->Way a e.to s q->Way a e.fr s q
 | hop {e:u_} {b:Nat} {s:List Nat} {q:Int}:e∈a.edges->e.sil=zU->e.set.getLsbD b=zW->a.has e.fr=zW->Way a e.to s q->Way a e.fr (b::s) q
section
variable{α:Type}
def Z_(T:Ty α)(S:Nat->Prop)(H:Aa)(lo:Nat)(e:x_)(v:v_)(xs:List α):Prop:=∃cs,Sl H lo e T.size v xs.length cs/\T.reps S H cs xs
def Z_.nil{T:Ty α}:Z_ T S H lo e (.slice zV 0 0) []:=⟨[],Sl.nil _ _ _ _,rfl⟩
def Z_.agr{T:Ty α}{S':Nat->Prop}{xs:List α}(h:Z_ T S H lo e v xs)(k:D_ S' H H')(a:∀b,Q_ v b->S' b)(hs:∀b,S b->S' b):Z_ T S H' lo e v xs:=by have⟨c,d,f⟩:=h;exact⟨c,d.agr k a,Ty.reps_frame (k.mono hs) f⟩
def Z_.mono{T:Ty α}{S':Nat->Prop}{xs:List α}(h:Z_ T S H lo e v xs)(hs:∀b,S b->S' b):Z_ T S' H lo e v xs:=by have⟨a,c,d⟩:=h;exact⟨a,c,Ty.reps_mono hs d⟩
def Z_.lt{T:Ty α}{xs:List α}(h:Z_ T S H lo e v xs)(a:Q_ v b):lo<=b/\b<H.size:=by obtain⟨d,c,_⟩:=h;exact c.lt a
def Z_.lower{T:Ty α}{xs:List α}{a:Nat}(h:Z_ T S H lo e v xs)(j:a<=lo):Z_ T S H a e v xs:=by obtain⟨d,⟨f,c⟩,g⟩:=h;refine⟨d,⟨f,?_⟩,g⟩;rcases c with c | ⟨b,cap,l,i,k,r⟩;{exact .inl c};exact .inr ⟨b,cap,l,i,zO,r⟩
def Z_.one{T:Ty α}{xs:List α}(h:Z_ T S H lo e v xs):v.oneCell'=zW:=by obtain⟨c,⟨d,a⟩,f⟩:=h;rcases a with⟨rfl,_⟩ | ⟨b,cap,l,rfl,r⟩<;>rfl
def Z_.len{T:Ty α}{xs:List α}(h:Z_ T S H lo e v xs):xs.length<=maxLen:=by obtain⟨c,⟨d,a⟩,f⟩:=h;rcases a with⟨_,a⟩ | ⟨b,cap,l,g,i,j,k,m,r⟩;{omega};omega
def Z_.view{T:Ty α}{S':Nat->Prop}{xs:List α}(h:Z_ T S H lo e v xs)(g:∀b,Q_ v b->S' b)(hs:∀b,S b->S' b):∃a cap,v= .slice a xs.length cap/\Y_ T S' H a cap xs/\(∀b,Q_ v b↔a.map (·.block)=zY b):=by obtain⟨i,⟨s,d⟩,k⟩:=h;rcases d with⟨rfl,d⟩ | ⟨b,cap,l,rfl,t,m,p,q,w,r⟩;{refine⟨zV,0,by rw[d],⟨uO d,rfl⟩,λb=>⟨?_,λh=>by cases h⟩⟩;rintro⟨o,n,c,h⟩;cases h};refine⟨zY ⟨b,0,zV⟩,cap,rfl,Y_.intro (g b ⟨_,_,_,rfl⟩) p q (ec:=i) ?_ (Ty.reps_mono hs k),λb'=>⟨?_,λh=>?_⟩⟩;{refine m.cells λj u f=>?_;rw[<-r,uC]at f;split at f;{simpa using f};cases f};{rintro⟨o,n,c,h⟩;cases h;rfl};cases h;exact⟨0,_,_,rfl⟩
def Af0{T:Ty α}{xs:List α}{c:List v_}{x:α}(h:T.reps S H cs xs)(b:T.rep S H c x)(e:i<xs.length):T.reps S H (Ah cs (i*T.size) c) (xs.set i x):=by induction xs generalizing cs i with|nil=>simp at e|cons y ys k=>{obtain⟨d,r,rfl,f,g⟩:=h;have j:=T.len f;have a:=T.len b;cases i with|zero=>refine⟨c,r,?_,b,g⟩;unfold Ah;simp only[Nat.zero_mul,List.take_zero,List.nil_append,K_];rw[a,<-j,List.drop_left]|succ i=>simp only[b_]at e;refine⟨d,Ah r (i*T.size) c,?_,f,k g zO⟩;have l:(i+1)*T.size=d.length+i*T.size:=by{rw[j,sM];omega};unfold Ah;rw[l,oV,(zO:d.length+i*T.size+c.length=d.length+(i*T.size+c.length)),rG];simp[zS]}
def Z_.place{T:Ty α}{xs:List α}(h:Z_ T S H lo e v xs)(w:i<xs.length):∃b cap l k,v= .slice (N_ b) xs.length cap/\lo<=b/\S_ H b e l/\i*T.size+T.size<=l.length/\(∀x,xs[i]?=zY x->∃c,Bi H b (i*T.size) c/\T.rep S H c x)/\T.reps S H k xs/\ ∀(H':Aa) (c:List v_) (x:α),S_ H' b e (Ah l (i*T.size) c)->D_ S H H'->T.rep S H' c x->Z_ T S H' lo e v (xs.set i x):=by
 obtain⟨k,⟨f,y⟩,o⟩:=h;rcases y with⟨rfl,y⟩ | ⟨b,cap,l,rfl,z,A,B,F,C,D⟩;{omega};have d:i*T.size+T.size<=xs.length*T.size:=by rw[<-sM];exact wO _ w
 have E:xs.length*T.size<=l.length:=by rw[C];exact wO _ B
 refine⟨b,cap,l,k,rfl,z,A,zO,?_,o,?_⟩;{intro x G;obtain⟨I,c,r,rfl,p,m⟩:=Ty.reps_get o G;refine⟨c,?_,m⟩;rw[<-p];have q:Bi H b 0 (I++c++r):=A.cells λj u n=>by{rw[<-D,uC]at n;split at n;{simpa using n};cases n};have:=q.mid;simpa using this};intro H' c x s g m;have a:=T.len m;refine⟨Ah k (i*T.size) c,⟨?_,.inr ⟨b,cap,_,by rw[yT],z,s,by rw[yT];exact B,F,?_,?_⟩⟩,Af0 (Ty.reps_frame g o) m w⟩;{rw[DC (by rw[a,f];exact d),f,yT]};{rw[DC (by rw[a];omega),C]};rw[yT];apply yP;intro j;rw[uC];by_cases t:j<xs.length*T.size;{rw[J_ t,CK (by rw[a];omega),CK (by rw[a,f];exact d)];split;{rfl};rw[<-D,uC,J_ t]};rw[I_ t,zC];rw[DC (by rw[a,f];exact d),f];omega
def BN{T:Ty α}{t ty e:Nat}{K:v_->Aa->Prop}(n:SlT P t e T.size by_ z){q m:Nat}{xs ys:List α}{ds:List v_}(hs:Z_ T S H lo e v xs) (d:lo<=H.size) (p:∀k,S k->k<H.size/\¬Q_ v k) (s:Bi H q o ds) (r:T.reps S H ds ys) (x:m=ys.length) (y:∀u∈ds,u.oneCell'=zW)(f:xs.length+ys.length<=maxLen) (hby:(xs.length+ys.length)*by_<=140737488355328)(h:∀b H',Z_ T S H' lo e b (xs++ys)->D_ (λk=>k<H.size/\¬Q_ v k) H H'->H.size<=H'.size->(∀k,Q_ b k->Q_ v k\/H.size<=k)->K b H'):B0 P (Builtin.append_ #[t,t] ty [v,.slice (zY ⟨q,o,zV⟩) m cap].toArray) H K:=by have⟨D,g,A⟩:=hs;subst x;refine Un (m:=ys.length) (news:=ds) n g d (λw B=>?_) f hby ?_;{refine Src.ofSlice w n.under ⟨q,o,zV⟩ ys.length cap ds (Ty.reps_len r) (λj u C=>?_) y;rw[Addr.add_mid];subst B;have:=s j u C;rw[Hm];exact this};intro b H' c a i l;refine h b H' ⟨_,by rw[O_];exact c,Ty.reps_append (Ty.reps_frame (a.mono p) A) (Ty.reps_frame (a.mono p) r)⟩ a i l
def DY{T:Ty α}{t e:Nat}{j:Int}{xs:List α}{x:α}(d:SlT P t e T.size by_ z) (h:Y_ T S H a cap xs) (f:n=xs.length) (g:xs[i]?=zY x) (l:j=(i:Int))(m:∀b o c,S b->Bi H b o c->T.rep S H c x->K (.pointer (zY ⟨b,o,zV⟩))):AH P (Instr.indexAt t (.slice a n cap) (.int k j)) B H K:=by subst f;exact U' d h g l m
end
def Em{α:Type}{T:Ty α}{S:Nat->Prop}{H:Aa}:∀{vs:List v_} {xs:List α},vs.length=xs.length->(∀(i:Nat) (v:v_) (x:α),vs[i]?=zY v->xs[i]?=zY x->T.rep S H [v] x)->T.reps S H vs xs | [],[],_,_=>rfl | v::vs,[],h,_=>by simp at h | [],x::xs,h,_=>by simp at h | v::vs,x::xs,h,k=>⟨[v],vs,rfl,k 0 v x rfl rfl,Em (by simpa using h) λi a b c d=>k (i+1) a b (by simpa using c) (by simpa using d)⟩
def MG:∀(vs:List v_) (k:Nat) (cells:Array v_) (off:Nat),off+k+vs.length<=cells.size->
  (vs.zipIdx k).foldl (λc (x:v_×Nat)=>c.setIfInBounds (off+x.2) x.1) cells=(Ah cells.toList (off+k) vs).toArray
 | [],k,cells,off,_=>by apply ApS;simp[Ah]
 | v::vs,k,cells,off,h=>by
   simp only[b_]at h;rw[List.zipIdx_cons,List.foldl_cons,MG vs (k+1) _ off (by simp;omega)];apply congrArg;apply yP;intro j;rw[CK (by simp;omega),CK (by simp;omega)];simp only[Array.toList_setIfInBounds,b_];by_cases a:off+(k+1)<=j/\j<off+(k+1)+vs.length
   ·rw[J_ a,J_ (by omega),show j-(off+k)=(j-(off+(k+1)))+1 by omega,sI]
   ·rw[I_ a];by_cases b:j=off+k
    ·subst b;rw[J_ (by omega),Nat.sub_self,List.getElem?_cons_zero,yQ (by simp;omega)]
    ·rw[I_ (by omega),xV,I_ (λd=>b d.symm)]
def BQ{place:Nat->Option (Nat×Nat)}{cells:Array v_}{rest:List (Nat×v_)}{off size:Nat}(b:place i=zY (off,size))(d:v.cells.size=size)(e:off+size<=cells.size):Instr.fill place cells ((i,v)::rest)=Instr.fill place (Ah cells.toList off v.cells.toList).toArray rest:=by have c:¬(v.cells.size≠size\/off+v.cells.size>cells.size):=zO;have a:=MG v.cells.toList 0 cells off (by simp;omega);simp only[Nat.add_zero]at a;rw[Instr.fill,b];simp only[vU,z',c,if_false];congr 1;rw[<-a,<-Array.foldl_toList,Array.toList_zipIdx]
def Aj{K:v_->Aa->Prop}(d:SlT P t e sz by_ z)(l:List v_)(a:v.cells=l.toArray)(c:l.length=sz)(f:0<sz)(g:sz<=16777216)(h:New H (λb H'=>K (.slice (N_ b) 1 1) H') e l):B0 P (Instr.buildSlice t 1 [(0,v)].toArray) H K:=by refine iP d l zO zO ?_ h;rw[show([(0,v)].toArray).toList=(0,v)::[]from rfl,BQ (off:=0) (size:=sz) zZ (by rw[a];simpa using c) zZ];rw[Instr.fill,a];congr 1;apply ApS;simp only[Ah];simp[c]
structure Tab{α:Type}(T:Ty α)(S:Nat->Prop)(H:Aa)(lo:Nat)(e:x_)(nb:Nat)(te:x_)(vs:List v_)(xs:List (List α)):Prop where
 len:vs.length=xs.length
 blk:S_ H nb te vs
 nlo:nb<lo
 own:∀(i:Nat) (v:v_) (x:List α),vs[i]?=zY v->xs[i]?=zY x->Z_ T S H lo e v x
 apart:∀(i j:Nat) (v w:v_) (k:Nat),i≠j->vs[i]?=zY v->vs[j]?=zY w->Q_ v k->¬Q_ w k
section
variable{α:Type}{T:Ty α}
def Tab.agr{S':Nat->Prop}{H1:Aa}{nb:Nat}{te:x_}{vs:List v_}{xs:List (List α)}(h:Tab T S H lo e nb te vs xs)(k:D_ S' H H1)(g:S' nb)(a:∀b,lo<=b->b<H.size->S' b)(hs:∀b,S b->S' b):Tab T S H1 lo e nb te vs xs:=⟨h.len,h.blk.agr k g,h.nlo,λi v x c d=>(h.own i v x c d).agr k (λb f=>a b ((h.own i v x c d).lt f).1 ((h.own i v x c d).lt f).2) hs,h.apart⟩
def Tab.new{nb:Nat}{te:x_}(f:S_ H nb te (AnS n (.slice zV 0 0)))(b:nb<lo):Tab T S H lo e nb te (AnS n (.slice zV 0 0)) (AnS n []):=by refine⟨zZ,f,b,λi v x a d=>?_,λi j v w k g a p l=>?_⟩;{rw[wU]at a d;split at a;{rename_i m;rw[J_ m]at d;cases a;cases d;exact Z_.nil};cases a};rw[wU]at a;split at a;{cases a;have⟨o,n,c,h⟩:=l;cases h};cases a
def Tab.get{nb:Nat}{te:x_}{vs:List v_}{xs:List (List α)}(h:Tab T S H lo e nb te vs xs)(a:i<xs.length):∃v x,vs[i]?=zY v/\xs[i]?=zY x/\Z_ T S H lo e v x:=by
 have b:i<vs.length:=by rw[h.len];exact a
 exact⟨vs[i],xs[i],zJ b,zJ a,h.own i _ _ (zJ b) (zJ a)⟩
def Tab.push{H1 H2:Aa}{nb:Nat}{te:x_}{vs:List v_}{xs:List (List α)}(h:Tab T S H lo e nb te vs xs){t:Nat}{m:v_}{x':List α}(C:vs[t]?=zY v)(l:Z_ T S H1 lo e m x')(G:D_ (λk=>k<H.size/\¬Q_ v k) H H1)(g:∀k,Q_ m k->Q_ v k\/H.size<=k) (c:S_ H2 nb te (vs.set t m)) (p:D_ (λk=>k≠nb) H1 H2) (z:∀k,S k->k<H.size/\¬Q_ v k/\k≠nb):Tab T S H2 lo e nb te (vs.set t m) (xs.set t x'):=by have A:t<vs.length:=(T_.1 C).1;refine⟨by simp[h.len],c,h.nlo,λi w x a B=>?_,λi j u w k q r a n f=>?_⟩;{by_cases d:i=t;{subst d;rw[yQ A]at a;rw[yQ (by rw[<-h.len];exact A)]at B;cases a;cases B;exact l.agr p (λb c=>by have:=(l.lt c).1;have:=h.nlo;omega) (λb c=>(z b c).2.2)};rw[yX (Ne.symm d)]at a B;have o:=h.own i w x a B;have I:Z_ T S H1 lo e w x:=o.agr G (λb c=>⟨(o.lt c).2,λD=>h.apart i t w v b d a C c D⟩) (λb c=>⟨(z b c).1,(z b c).2.1⟩);exact I.agr p (λb c=>by have:=(o.lt c).1;have:=h.nlo;omega) (λb c=>(z b c).2.2)};have s:∀(i:Nat) (w:v_),i≠t->(vs.set t m)[i]?=zY w->Q_ w k->¬Q_ m k:=by{intro i w F a n f;rw[yX (Ne.symm F)]at a;rcases g k f with o | o;{exact h.apart i t w v k F a C n o};have E:i<xs.length:=by{rw[<-h.len];exact(T_.1 a).1};have:=((h.own i w _ a (zJ E)).lt n).2;omega};by_cases d:i=t;{subst d;rw[yQ A]at r;cases r;exact s j w (Ne.symm q) a f n};by_cases y:j=t;{subst y;rw[yQ A]at a;cases a;exact s i u d r n f};rw[yX (Ne.symm d)]at r;rw[yX (Ne.symm y)]at a;exact h.apart i j u w k q r a n f
def Tab.view{S':Nat->Prop}{nb:Nat}{te:x_}{vs:List v_}{xs:List (List α)}(h:Tab T S H lo e nb te vs xs)(l:n=xs.length)(m:n<=maxLen)(f:∀k,nb<=k->k<H.size->S' k) (hs:∀k,S k->S' k):Y_ (zF T) S' H (N_ nb) n xs:=by subst l;refine Y_.intro (f nb (M_ _) h.blk.lt) (M_ _) m (h.blk.cells (cs:=vs) (λj v b=>by simpa using b)) (Em h.len λi v x b o=>?_);have c:=h.own i v x b o;obtain⟨p,a,rfl,d,-⟩:=c.view (S':=S') (λk g=>f k (by have:=(c.lt g).1;have:=h.nlo;omega) (c.lt g).2) hs;exact⟨p,a,rfl,d⟩
end
def Zs{t e:Nat}(b:SlT P t e sz by_ z)(c:0<=h)(d:h<=cap)(f:K (.slice a h.toNat cap)):AH P (Instr.sliceAt t (.slice a n cap) zV (zY (.int k h)) zV) S H K:=by
 obtain⟨g,i,hs,_,_⟩:=b.info;refine AH.mk _ (λw _=>?_) f;have j:(a.map λx=>x.add 0)=a:=by cases a<;>rfl
 simp[Instr.sliceAt,Instr.slice,run_underlying b.under,Instr.sliceBounds,Instr.sliceBound,asIntOf,c,d,sizeOf,typeInfo,i,j]
def Z_.pop{α:Type}{T:Ty α}{xs:List α}{x:α}(h:Z_ T S H lo e (.slice a n cap) (xs++[x])):Z_ T S H lo e (.slice a xs.length cap) xs:=by obtain⟨d,⟨g,f⟩,m⟩:=h;have split:∀(xs:List α) (d:List v_),T.reps S H d (xs++[x])->T.reps S H (d.take (xs.length*T.size)) xs:=by{intro xs;induction xs with|nil=>intro d _;simp[Ty.reps]|cons y ys o=>rintro d ⟨c,r,rfl,i,p⟩;refine⟨c,r.take (ys.length*T.size),?_,i,o r p⟩;have:=T.len i;rw[b_,sM,Nat.add_comm,<-this,oV]};rcases f with⟨f,q⟩ | ⟨b,j,l,f,s,t,u,v,w,k⟩;{simp at q};cases f;simp only[O_,c_]at u k g;refine⟨d.take (xs.length*T.size),⟨?_,.inr ⟨b,cap,l,rfl,s,t,zO,v,w,?_⟩⟩,split xs d m⟩;{rw[wI,g,rM (wO _ zO)]};rw[<-k,List.take_take,rM (wO _ zO)]
def Ty.Ones{α:Type}(T:Ty α):Prop:=∀S H cs x,T.rep S H cs x->∀u∈cs,u.oneCell'=zW
def Ty.Ones.reps{α:Type}{T:Ty α}(h:T.Ones):∀{cs:List v_} {xs:List α},T.reps S H cs xs->∀u∈cs,u.oneCell'=zW:=by intro cs xs;induction xs generalizing cs with|nil=>intro b u a;simp only[Ty.reps]at b;subst b;cases a|cons x xs d=>{rintro⟨c,r,rfl,e,b⟩ u a;rcases k_.1 a with a | a;{exact h S H c x e u a};exact d b u a}
def dX:∀(k:IntKind),(E7 k).Ones:=by rintro k S H b x ⟨rfl,_⟩ u a;cases V_.1 a;rfl
def QQ:Ay.Ones:=by rintro S H b x rfl u a;cases V_.1 a;rfl
def Np{α:Type}{T:Ty α}{t ty e:Nat}{K:v_->Aa->Prop}(p:SlT P t e T.size by_ z)(r:T.Ones){xs ys:List α}(hs:Z_ T S H lo e v xs) (d:lo<=H.size) (s:∀k,S k->k<H.size/\¬Q_ v k) (B:Y_ T S H a cap ys)(f:xs.length+ys.length<=maxLen) (hby:(xs.length+ys.length)*by_<=140737488355328)(h:∀g H',Z_ T S H' lo e g (xs++ys)->D_ (λk=>k<H.size/\¬Q_ v k) H H'->H.size<=H'.size->(∀k,Q_ g k->Q_ v k\/H.size<=k)->K g H'):B0 P (Builtin.append_ #[t,t] ty [v,.slice a ys.length cap].toArray) H K:=by cases a with|some D=>have⟨q,o,G⟩:=D;obtain⟨I,J,L | ⟨rfl,M,N,E,C⟩⟩:=B;{obtain rfl:ys=[]:=uO zO;have⟨x,i,y⟩:=hs;refine Un (m:=0) (news:=[]) p i d (λw F=>Src.ofSlice w p.under _ 0 cap [] zZ (λj u A=>by simp at A) (λu A=>by cases A)) (by simpa using f) (by simpa using hby) ?_;intro g H' c b l n;refine h g H' ⟨x,by simpa using c,?_⟩ b l n;rw[yU];exact Ty.reps_frame (b.mono s) y};exact BN p hs d s E C rfl (r.reps C) f hby h|none=>obtain⟨rfl,rfl⟩:=B;have⟨x,i,y⟩:=hs;refine Un (m:=0) (news:=[]) p i d (λw F=>Src.ofNil w p.under 0) (by simpa using f) (by simpa using hby) ?_;intro g H' c b l n;refine h g H' ⟨x,by simpa using c,?_⟩ b l n;rw[yU];exact Ty.reps_frame (b.mono s) y
def Ty.Free{α:Type}(T:Ty α):Prop:=∀S S' H H' cs x,T.rep S H cs x->T.rep S' H' cs x
def dW(k:IntKind):(E7 k).Free:=λS S' H H' a x h=>h
def QP:Ay.Free:=λS S' H H' a x h=>h
def Ty.Free.reps{α:Type}{T:Ty α}(h:T.Free){S':Nat->Prop}:∀{cs:List v_} {xs:List α},T.reps S H cs xs->T.reps S' H' cs xs:=by intro cs xs;induction xs generalizing cs with|nil=>exact λa=>a|cons x xs b=>rintro⟨c,r,e,d,a⟩;exact⟨c,r,e,h S S' H H' c x d,b a⟩
def Z_.free{α:Type}{T:Ty α}(a:T.Free){S':Nat->Prop}{xs:List α}(h:Z_ T S H lo e v xs):Z_ T S' H lo e v xs:=by have⟨b,c,d⟩:=h;exact⟨b,c,a.reps d⟩
def O2(h:P.underlying t=zY (.pointer e))(p:Option Addr)(w:y_):(Op.equal t (.pointer p) (.pointer zV)).run P w= .ok p.isNone w:=by have:∀d:Nat,(Op.equalIn (d+1) t (.pointer p) (.pointer zV)).run P w= .ok p.isNone w:=λd=>by{cases p<;>simp[Op.equalIn,run_underlying h]};exact this 9999
def eH{p:Option Addr}(h:P.underlying t=zY (.pointer e))(k:K (.bool p.isNone)):AH P (do eqGuard .eql t x y (.pointer p) (.pointer zV);binOp .eql t (.pointer p) (.pointer zV)) S H K:=by refine AH.mk _ (λw _=>?_) k;simp[eqGuard,binOp,O2 h]
def pR{p:Option Addr}(h:P.underlying t=zY (.pointer e))(k:K (.bool (!p.isNone))):AH P (do eqGuard .neq t x y (.pointer p) (.pointer zV);binOp .neq t (.pointer p) (.pointer zV)) S H K:=by refine AH.mk _ (λw _=>?_) k;simp[eqGuard,binOp,O2 h]
def mO(h:P.underlying t=zY (.pointer e))(k:K (.bool zW)):AH P (do eqGuard .eql t x y (.pointer zV) (.pointer zV);binOp .eql t (.pointer zV) (.pointer zV)) S H K:=eH h k
def mP{a:Addr}(h:P.underlying t=zY (.pointer e))(k:K (.bool zU)):AH P (do eqGuard .eql t x y (.pointer (zY a)) (.pointer zV);binOp .eql t (.pointer (zY a)) (.pointer zV)) S H K:=eH h k
def AoJ(h:P.underlying t=zY (.pointer e))(k:K (.bool zU)):AH P (do eqGuard .neq t x y (.pointer zV) (.pointer zV);binOp .neq t (.pointer zV) (.pointer zV)) S H K:=pR h k
def gK{a:Addr}(h:P.underlying t=zY (.pointer e))(k:K (.bool zW)):AH P (do eqGuard .neq t x y (.pointer (zY a)) (.pointer zV);binOp .neq t (.pointer (zY a)) (.pointer zV)) S H K:=pR h k
def O1(h:P.underlying t=zY .bool)(a b:Bool)(w:y_):(Op.equal t (.bool a) (.bool b)).run P w= .ok (a==b) w:=by
 have:∀d:Nat,(Op.equalIn (d+1) t (.bool a) (.bool b)).run P w= .ok (a==b) w:=λd=>by simp[Op.equalIn,run_underlying h]
 exact this 9999
def AnM{a b:Bool}(h:P.underlying t=zY .bool)(k:K (.bool (a==b))):AH P (do eqGuard .eql t x y (.bool a) (.bool b);binOp .eql t (.bool a) (.bool b)) S H K:=by refine AH.mk _ (λw _=>?_) k;simp[eqGuard,binOp,O1 h]
def AlC{a b:Bool}(h:P.underlying t=zY .bool)(k:K (.bool (!(a==b)))):AH P (do eqGuard .neq t x y (.bool a) (.bool b);binOp .neq t (.bool a) (.bool b)) S H K:=by refine AH.mk _ (λw _=>?_) k;simp[eqGuard,binOp,O1 h]
def EJ{j:Int}{b:UInt8}(h:P.underlying t=zY .string)(c:j=(i:Int))(d:s.data[i]?=zY b)(e:K (.int .u8 (b.toNat:Int))):AH P (Instr.index t (.string s) (.int k j)) S H K:=by subst c;have a:s[i]?=zY b:=by{have⟨f,g⟩:=vM.1 d;have l:i<s.size:=f;rw[getElem?_pos s i l];exact congrArg zY g};refine AH.mk _ (λw _=>?_) e;simp[Instr.index,asIntOf,run_underlying h,a]
def AjN{K:v_->Aa->Prop}(a:SlT P t e sz by_ z)(h:New H (λb H'=>K (.slice (N_ b) 0 0) H') e []):B0 P (Instr.buildSlice t 0 ([]:List (Nat×v_)).toArray) H K:=by refine B0.mk λw c=>?_;subst c;refine⟨_,w.alloc (.cells [].toArray e),?_,⟨rfl,rfl,rfl⟩,h.go⟩;obtain⟨d,f,hs,_,g⟩:=a.info;simp only[Instr.buildSlice,Sem.run_bind,run_underlying a.under,Result.andThen_ok,sizeOf,typeInfo,zeroValue];have i:((Array.range 0).map λ_:Nat=>(default:v_))= #[]:=zZ;simp[f,hs,g,newRow,Instr.fill,i]
def Z_.empty{α:Type}{T:Ty α}(a:lo<=b)(c:S_ H b e []):Z_ T S H lo e (.slice (N_ b) 0 0) []:=⟨[],by have:=Sl.made (sz:=T.size) (n:=0) (cap:=0) a c (M_ _) zQ zZ;simpa using this,rfl⟩
def Z_.ofBlk{α:Type}{T:Ty α}{xs:List α}(a:lo<=b)(f:S_ H b e l)(c:T.reps S H l xs)(g:n=xs.length)(h:n<=maxLen):Z_ T S H lo e (.slice (N_ b) n n) xs:=by subst g;have d:=Ty.reps_len c;refine⟨l,?_,c⟩;have:=Sl.made (sz:=T.size) (n:=xs.length) (cap:=xs.length) a f (M_ _) h d;rwa [<-d,List.take_length]at this
def Fu{S:Nat->Prop}{H:Aa}{α:Type}{T:Ty α}{c:List v_}{v:α}(h:T.rep S H c v):∀n,T.reps S H (AnS n c).flatten (AnS n v)| 0=>rfl | n+1=>⟨c,_,rfl,h,Fu h n⟩
def ZZ(z:Array v_)(n:Nat):(Ap6 (n*z.size)).map (z[· % z.size]!)=(AnS n z.toList).flatten:=by induction n with|zero=>simp|succ n b=>rw[sM,List.range_add,List.map_append,b,List.replicate_succ',List.flatten_append];congr 1;simp only[List.flatten_cons,List.flatten_nil,yU,List.map_map];apply yP;intro i;by_cases a:i<z.size;{rw[Y',wJ a];simp only[Option.map_some,Function.comp,Array.getElem?_toList];have:(n*z.size+i) % z.size=i:=by{rw[Nat.mul_comm,Nat.mul_add_mod];exact uF a};rw[this,getElem!_pos z i a,getElem?_pos z i a]};rw[zC (by simp;omega),zC (by simp;omega)]
def iQ{α:Type}{T:Ty α}{g i:IntKind}{l c:Int}{v:α}{K:v_->Aa->Prop}(f:SlT P t e T.size by_ z)(m:T.rep S H z.cells.toList v)(j:0<=l)(a:l=c)(k:(by_:Int)*c<=281474976710656)(d:c<=9223372036854775807)(h:New H (λb H'=>K (.slice (N_ b) c.toNat c.toNat) H') e (AnS c.toNat z.cells.toList).flatten):B0 P (Instr.makeSlice t (.int g l) (.int i c)) H K:=by subst a;refine mF f j (Int.le_refl _) k d ?_;rw[<-f.zsz,ZZ];exact h
def Z_.placeS{α:Type}{T:Ty α}{xs:List α}(h:Z_ T S H lo e (.slice (zY ⟨b,o,zV⟩) n cap) xs)(f:i<xs.length):n=xs.length/\o=0/\lo<=b/\∃l,S_ H b e l/\i*T.size+T.size<=l.length/\(∀x,xs[i]?=zY x->∃c,Bi H b (i*T.size) c/\T.rep S H c x)/\ ∀(H':Aa) (c:List v_) (x:α),S_ H' b e (Ah l (i*T.size) c)->D_ S H H'->T.rep S H' c x->Z_ T S H' lo e (.slice (zY ⟨b,o,zV⟩) n cap) (xs.set i x):=by have⟨b',a,l,q,d,g,j,k,m,r,p⟩:=h.place f;have e2:=d;injection d with e3 e4 e5;injection e3 with e3;injection e3 with e6 e7 e8;subst e6;subst e7;subst e4;subst e5;exact⟨rfl,rfl,g,l,j,k,m,p⟩
def vquo{a:Nat}(h:0<b)(d:inK k (a:Int))(e:K (.int k ((a / b:Nat):Int))):AH P (do eqGuard .quo t x y (.int k a) (.int k b);binOp .quo t (.int k a) (.int k b)) S H K:=by
 refine AH.mk _ (λw _=>?_) e;have f:¬((b:Int)=0):=zO;have g:((a:Int).tdiv (b:Int))=((a / b:Nat):Int):=by rw[Int.tdiv_eq_ediv_of_nonneg zO];rfl
 have c:=JO (WX d (gX a b));simp only[C2,binOp,Op.intDiv,Sem.run_bind,Result.andThen_ok,f,if_false,g,c,Sem.run_pure,ne_eq,not_true_eq_false]
def oT{a:Nat}(f:0<b)(c:K (.int k ((a % b:Nat):Int))):AH P (do eqGuard .rem t x y (.int k a) (.int k b);binOp .rem t (.int k a) (.int k b)) S H K:=by
 refine AH.mk _ (λw _=>?_) c;have d:¬((b:Int)=0):=zO;have e:((a:Int).tmod (b:Int))=((a % b:Nat):Int):=by rw[Int.tmod_eq_emod_of_nonneg zO];rfl
 simp only[C2,binOp,Op.intDiv,Sem.run_bind,Result.andThen_ok,d,if_false,e,Sem.run_pure,ne_eq,not_true_eq_false]
def Ap.cut{l:List Oper}{K:Fr->Aa->Prop}{α:Type}(f:List Nat)(enc:α->List v_)(I:α->Aa->Prop)(h:Ap P l fr H (λb H'=>LF (Sq l []) fr b (TW b f λvs=>∃y,vs=enc y/\I y H')))(k:∀(z:α) (H1:Aa) (c:Nat->v_),I z H1->Jx c fr (Sq l []) λg=>XK g f (enc z) λi=>K i H1):Ap P l fr H K:=by generalize Sq l []=u at h k;have h:=h.out_;refine⟨?_⟩;intro id Q a w j o p q;refine h id Q a w j o p λb a' m d e n=>q b a' m d e ?_;simp only[LF,Dr,Ij]at n;have⟨r,z,s,t⟩:=n;have h:=k z m.heap (rd b) t;rw[Dr,Lz,DX r,<-s,Jb f b]at h;exact h
def Up{a:IntKind}(b:P.underlying t=zY .string)(c:0<=h)(d:h<=s.size)(e:K (.string (s.extract 0 h.toNat))):AH P (Instr.sliceAt t (.string s) zV (zY (.int a h)) zV) S H K:=by refine AH.mk _ (λw _=>?_) e;simp[Instr.sliceAt,Instr.slice,run_underlying b,Instr.sliceBounds,Instr.sliceBound,asIntOf,d,c]
def Uq{l:Int}(a:P.underlying t=zY .string)(b:0<=l)(c:l<=s.size)(d:K (.string (s.extract l.toNat s.size))):AH P (Instr.sliceAt t (.string s) (zY (.int k l)) zV zV) S H K:=by refine AH.mk _ (λw _=>?_) d;simp[Instr.sliceAt,Instr.slice,run_underlying a,Instr.sliceBounds,Instr.sliceBound,asIntOf,b,c]
def QK(h:o<l.length):Ah l o [v]=l.set o v:=by apply yP;intro j;rw[CK (by simp;omega),xV];simp only[c_];by_cases a:o=j;{subst a;simp[h]};rw[I_ zO,I_ a]
def Uo{g i:v_}{K:v_->Aa->Prop}(l:SlT P t e sz by_ z)(j k:List v_)(a:g.cells=j.toArray)(c:i.cells=k.toArray)(d:j.length=sz)(f:k.length=sz)(m:0<sz)(n:2*sz<=16777216)(h:New H (λb H'=>K (.slice (N_ b) 2 2) H') e (j++k)):B0 P (Instr.buildSlice t 2 [(0,g),(1,i)].toArray) H K:=by refine iP l (j++k) zO zO ?_ h;rw[show([(0,g),(1,i)].toArray).toList=(0,g)::(1,i)::[]from rfl,BQ (off:=0) (size:=sz) zZ (by rw[a];simpa using d) (by simp;omega),BQ (off:=sz) (size:=sz) zZ (by rw[c];simpa using f) (by simp[Ah,a];omega)];rw[Instr.fill,a,c];congr 1;apply ApS;simp[Ah,d,f];omega
def X8{p r:List v_}(a:p.length=o):Ah (p++r) o cs=p++(cs++r.drop cs.length):=by subst a;unfold Ah;rw[List.take_left,rG,zS]
structure Pc where
 foot:Nat->Prop
 ok:Aa->Prop
 fr:∀{H H':Aa},D_ foot H H'->ok H->ok H'
def Dis(p q:Pc):Prop:=∀k,p.foot k->¬q.foot k
structure B_(B:Nat->Prop)(H0 H:Aa)(ps:List Pc):Prop where
 old:D_ B H0 H
 lt0:∀k,B k->k<H0.size
 size:H0.size<=H.size
 oks:∀p∈ps,p.ok H
 rng:∀p∈ps,∀k,p.foot k->¬B k/\k<H.size
 dis:ps.Pairwise Dis
abbrev St(H0 H:Aa)(ps:List Pc):Prop:=B_ (H_ H0) H0 H ps
def St.nil(H:Aa):St H H []:=⟨D_.refl _ _,λ_ h=>h,M_ _,(λ_ h=>by cases h),(λ_ h=>by cases h),List.Pairwise.nil⟩
variable{p:Pc}
def B_.start(c:p.ok H)(d:∀k,p.foot k->k<H.size):B_ (λk=>k<H.size/\¬p.foot k) H H [p]:=⟨D_.refl _ _,λ_ h=>h.1,M_ _,(λq a=>by rw[V_]at a;subst a;exact c),(λq a k b=>by rw[V_]at a;subst a;exact⟨λh=>h.2 b,d k b⟩),tP _ _⟩
variable{ps:List Pc}
def B_.up(a:B_ B H0 H ps){k:Nat}(b:B k):k<H.size:=wV (a.lt0 k b) a.size
def B_.call(a:B_ B H0 H ps)(h:D_ (H_ H) H H'):B_ B H0 H' ps:=⟨a.old.trans (h.mono λk b=>a.up b),a.lt0,yS a.size (BF h),λp c=>p.fr (h.mono λk b=>(a.rng p c k b).2) (a.oks p c),
  λp c k b=>⟨(a.rng p c k b).1,An h (a.rng p c k b).2⟩,a.dis⟩
def B_.at_(a:B_ B H0 H ps)(i:Nat)(b:ps[i]?=zY p):p.ok H:=a.oks p (d_ b)
def B_.in_(a:B_ B H0 H ps)(i:Nat)(b:ps[i]?=zY p){k:Nat}(c:p.foot k):¬B k/\k<H.size:=a.rng p (d_ b) k c
def B_.add{B:Nat->Prop}{H0 H H':Aa}{ps:List Pc}(e:B_ B H0 H ps)(h:D_ (H_ H) H H')(p:Pc)(l:p.ok H')(g:∀k,p.foot k->H.size<=k/\k<H'.size):B_ B H0 H' (ps++[p]):=by have d:=e.call h;refine⟨d.old,e.lt0,d.size,λq c=>?_,λq c k f=>?_,List.pairwise_append.2 ⟨e.dis,tP _ _,λa m b j=>?_⟩⟩;{rcases k_.1 c with c | c;{exact d.oks q c};rw[V_]at c;subst c;exact l};{rcases k_.1 c with c | c;{exact d.rng q c k f};rw[V_]at c;subst c;exact⟨λn=>by have:=e.up n;have:=g k f;omega,(g k f).2⟩};rw[V_]at j;subst j;intro k f i;have:=(e.rng a m k f).2;have:=(g k i).1;omega
def B_.upd(f:B_ B H0 H ps)(i:Nat)(w:ps[i]?=zY p)(h:D_ (λk=>k<H.size/\¬p.foot k) H H')(q:Pc)(E:q.ok H')(A:∀k,q.foot k->p.foot k\/H.size<=k)(F:∀k,q.foot k->k<H'.size)(hs:H.size<=H'.size):B_ B H0 H' (ps.set i q):=by have x:=(T_.1 w).1;have o:=d_ w;have s:∀(j:Nat) (r:Pc),ps[j]?=zY r->j≠i->Dis r p:=by{intro j r c l k d g;have t:=(T_.1 c).1;have C:=(T_.1 c).2;have e2:=(T_.1 w).2;rcases lB l with e | e;{exact xU.1 f.dis j i t x e k (by rw[C];exact d) (by rw[e2];exact g)};exact xU.1 f.dis i j x t e k (by rw[e2];exact g) (by rw[C];exact d)};have u:∀r,r∈ps.set i q->r=q\/∃j,j≠i/\ps[j]?=zY r:=by{intro r c;have⟨j,l⟩:=xB c;by_cases e:i=j;{subst e;rw[yQ x]at l;cases l;exact .inl rfl};rw[yX e]at l;exact .inr ⟨j,Ne.symm e,l⟩};refine⟨f.old.trans (h.mono λk d=>⟨f.up d,λn=>(f.rng p o k n).1 d⟩),f.lt0,yS f.size hs,λr c=>?_,λr c k d=>?_,?_⟩;{rcases u r c with rfl | ⟨j,l,c⟩;{exact E};exact r.fr (h.mono λk d=>⟨(f.rng r (d_ c) k d).2,λn=>s j r c l k d n⟩) (f.oks r (d_ c))};{rcases u r c with rfl | ⟨j,l,c⟩;{refine⟨?_,F k d⟩;rcases A k d with m | m;{exact(f.rng p o k m).1};exact λG=>by have:=f.up G;omega};have:=f.rng r (d_ c) k d;exact⟨this.1,zO⟩};have v:∀(j:Nat) (r:Pc),ps[j]?=zY r->j≠i->Dis r q:=by{intro j r c l k d g;rcases A k g with m | m;{exact s j r c l k d m};have:=(f.rng r (d_ c) k d).2;omega};rw[xU];intro a b y n z;simp only[yT]at y n;rw[gQ,gQ];by_cases m:i=a;{subst m;rw[J_ rfl,I_ zO];exact λk d g=>v b _ (zJ n) zO k g d};rw[I_ m];by_cases D:i=b;{subst D;rw[J_ rfl];exact v a _ (zJ y) zO};rw[I_ D];exact xU.1 f.dis a b y n z
def B_.pick(c:B_ B H0 H ps)(is:List Nat)(s:is.Nodup):B_ B H0 H (is.filterMap λi=>ps[i]?):=by have m:∀r,r∈is.filterMap (λi=>ps[i]?)->r∈ps:=λr d=>by{obtain⟨i,_,t⟩:=List.mem_filterMap.1 d;exact d_ t};refine⟨c.old,c.lt0,c.size,λr d=>c.oks r (m r d),λr d=>c.rng r (m r d),?_⟩;rw[List.pairwise_filterMap];refine s.imp ?_;intro i j l a n b o k p e;have f:=(T_.1 n).1;have g:=(T_.1 o).1;have q:=(T_.1 n).2;have e2:=(T_.1 o).2;rcases lB l with h | h;{exact xU.1 c.dis i j f g h k (by rw[q];exact p) (by rw[e2];exact e)};exact xU.1 c.dis j i g f h k (by rw[e2];exact e) (by rw[q];exact p)
def B_.say(b:B_ B H0 H ps)(i:Nat)(c:ps[i]?=zY p)(q:Pc)(e:q.ok H)(d:∀k,q.foot k->p.foot k):B_ B H0 H (ps.set i q):=b.upd i c (D_.refl _ _) q e (λk a=>.inl (d k a)) (λk a=>(b.in_ i c (d k a)).2) (M_ _)
def St.ge(a:St H0 H ps)(i:Nat)(b:ps[i]?=zY p){k:Nat}(c:p.foot k):H0.size<=k:=by have:=(a.in_ i b c).1;unfold H_ at this;omega
def pJ(p q:Pc):Pc:=⟨λk=>p.foot k\/q.foot k,λH=>p.ok H/\q.ok H,λh hp=>⟨p.fr (h.mono λ_ hk=>.inl hk) hp.1,q.fr (h.mono λ_ hk=>.inr hk) hp.2⟩⟩
def B_.join{B:Nat->Prop}{H0 H:Aa}{ps:List Pc}{p q:Pc}(g:B_ B H0 H ps)(i j:Nat)(y:ps[i]?=zY p)(z:ps[j]?=zY q)(J:i<j):B_ B H0 H ((ps.eraseIdx j).set i (pJ p q)):=by have K:=(T_.1 y).1;have L:=(T_.1 z).1;have o:=d_ y;have t:=d_ z;have d:∀(a:Nat) (r:Pc),((ps.eraseIdx j).set i (pJ p q))[a]?=zY r->(a=i/\r=pJ p q)\/(a≠i/\∃b,b≠i/\b≠j/\ps[b]?=zY r/\b=if a<j then a else a+1):=by{intro a r f;by_cases m:i=a;{subst m;rw[yQ (by rw[List.length_eraseIdx];split<;>omega)]at f;cases f;exact .inl ⟨rfl,rfl⟩};rw[yX m,List.getElem?_eraseIdx]at f;refine .inr ⟨Ne.symm m,if a<j then a else a+1,?_,?_,?_,rfl⟩;{split<;>omega};{split<;>omega};split at f;{rename_i h;rw[J_ h];exact f};rename_i h;rw[I_ h];exact f};have l:∀(a b:Nat) (r s:Pc),a≠b->ps[a]?=zY r->ps[b]?=zY s->Dis r s:=by{intro a b r s u f hs k e c;have v:=(T_.1 f).1;have w:=(T_.1 hs).1;have I:=(T_.1 f).2;have e2:=(T_.1 hs).2;rcases lB u with h | h;{exact xU.1 g.dis a b v w h k (by rw[I];exact e) (by rw[e2];exact c)};exact xU.1 g.dis b a w v h k (by rw[e2];exact c) (by rw[I];exact e)};refine⟨g.old,g.lt0,g.size,λr f=>?_,λr f k e=>?_,?_⟩;{have⟨a,m⟩:=xB f;rcases d a r m with⟨_,rfl⟩ | ⟨_,b,_,_,x,_⟩;{exact⟨g.oks p o,g.oks q t⟩};exact g.oks r (d_ x)};{have⟨a,m⟩:=xB f;rcases d a r m with⟨_,rfl⟩ | ⟨_,b,_,_,x,_⟩;{rcases e with e | e;{exact g.rng p o k e};exact g.rng q t k e};exact g.rng r (d_ x) k e};rw[xU];intro a b m x u k e c;have M:=zJ m;have N:=zJ x;rcases d a _ M with⟨O,P⟩ | ⟨O,a',Q,R,A,S⟩<;>rcases d b _ N with⟨C,D⟩ | ⟨C,b',E,F,n,G⟩;{omega};{rw[P]at e;rcases e with e | e;{exact l i b' p _ (Ne.symm E) y n k e c};exact l j b' q _ (Ne.symm F) z n k e c};{rw[D]at c;rcases c with c | c;{exact l a' i _ p Q A y k e c};exact l a' j _ q R A z k e c};refine l a' b' _ _ ?_ A n k e c;rw[S,G];split<;>split<;>omega
def pB(e:x_)(b:Nat)(l:List v_):Pc:=⟨λk=>k=b,λH=>S_ H b e l,λh hp=>hp.agr h rfl⟩
def B_.box(c:B_ B H0 H ps)(d:b=H.size)(hs:H'.size=b+1)(a:S_ H' b e l)(f:D_ (λk=>k<b) H H'):B_ B H0 H' (ps++[pB e b l]):=by subst d;exact c.add (f.mono λk a=>a) _ a λk a=>by have:k=H.size:=a;omega
def B_.skip(a:B_ B H0 H ps)(c:b=H.size)(d:D_ (λk=>k<b) H H'):B_ B H0 H' ps:=by subst c;exact a.call (d.mono λk e=>e)
def B_.blk(a:B_ B H0 H ps)(i:Nat)(c:ps[i]?=zY (pB e b l)):S_ H b e l:=a.at_ i c
def Bb{t:Nat}{K:Aa->Prop}(c:B_ B H0 H ps)(i:Nat)(m:BM P t)(d:ps[i]?=zY (pB e b l))(n:o<l.length)(p:v.oneCell'=zW)(k:∀H',B_ B H0 H' (ps.set i (pB e b (l.set o v)))->K H'):Co P (Instr.storeAt t (.pointer (zY ⟨b,o,zV⟩)) v) H K:=by refine uU m (c.at_ i d) n p ?_;intro H' f g h;exact k H' (c.upd i d (g.mono λk a j=>a.2 j) _ f (λk a=>.inl a) (λk a=>by rw[h];exact(c.in_ i d a).2) zO)
def AI{t:Nat}{K:Aa->Prop}(c:B_ B H0 H ps)(i:Nat)(m:(P.info? t).map (·.size)=zY cs.length)(d:ps[i]?=zY (pB e b l))(n:o+cs.length<=l.length)(p:cs.all (·.oneCell')=zW)(k:∀H',B_ B H0 H' (ps.set i (pB e b (Ah l o cs)))->K H'):Co P (Instr.storeAt t (.pointer (zY ⟨b,o,zV⟩)) (.agg cs.toArray)) H K:=by refine Zaa m (c.at_ i d) n p ?_;intro H' f g h;exact k H' (c.upd i d (g.mono λk a j=>a.2 j) _ f (λk a=>.inl a) (λk a=>by rw[h];exact(c.in_ i d a).2) zO)
section
variable{α:Type}
def pN(T:Ty α)(S:Nat->Prop)(e:x_)(a:Option Addr)(n cap:Nat)(xs:List α):Pc where
 foot k:=Q_ (.slice a n cap) k\/S k
 ok H:=Z_ T S H 0 e (.slice a n cap) xs/\∀k,S k->¬Q_ (.slice a n cap) k
 fr h hp:=⟨hp.1.agr h (λ_ hb=>.inl hb) (λ_ hb=>.inr hb),hp.2⟩
def none_(_:Nat):Prop:=False
abbrev pS(T:Ty α)(e:x_)(a:Option Addr)(n cap:Nat)(xs:List α):Pc:=pN T none_ e a n cap xs
variable{T:Ty α}{S:Nat->Prop}{e:x_}{a:Option Addr}{n cap:Nat}{xs:List α}{B:Nat->Prop}{H0 H H':Aa}{ps:List Pc}
def Z_.hull{lo:Nat}(h:Z_ T S H lo e v xs):∃a cap,v= .slice a xs.length cap:=by obtain⟨d,⟨f,c⟩,g⟩:=h;rcases c with⟨rfl,c⟩ | ⟨b,cap,l,rfl,i,j,k,m,n,o⟩;{exact⟨zV,0,by rw[c]⟩};exact⟨_,_,rfl⟩
def Z_.nlen{lo:Nat}(h:Z_ T S H lo e (.slice a n cap) xs):n=xs.length:=by have⟨a',b,e⟩:=h.hull;injection e
def Z_.up{lo:Nat}(h:Z_ T S H 0 e v xs)(c:∀b,Q_ v b->lo<=b):Z_ T S H lo e v xs:=by obtain⟨d,⟨f,a⟩,g⟩:=h;refine⟨d,⟨f,?_⟩,g⟩;rcases a with a | ⟨b,cap,l,rfl,r⟩;{exact .inl a};exact .inr ⟨b,cap,l,rfl,c b ⟨_,_,_,rfl⟩,r.2⟩
def St.own(c:St H0 H ps)(i:Nat)(d:ps[i]?=zY (pN T S e a n cap xs)):Z_ T S H H0.size e (.slice a n cap) xs:=(c.at_ i d).1.up λb f=>c.ge i d (.inl f)
def B_.len(b:B_ B H0 H ps)(i:Nat)(c:ps[i]?=zY (pN T S e a n cap xs)):n=xs.length:=(b.at_ i c).1.nlen
def B_.max(b:B_ B H0 H ps)(i:Nat)(c:ps[i]?=zY (pN T S e a n cap xs)):xs.length<=maxLen:=(b.at_ i c).1.len
def B_.adr(d:B_ B H0 H ps)(i:Nat)(f:ps[i]?=zY (pN T S e a n cap xs))(g:0<xs.length):∃b,a=zY ⟨b,0,zV⟩:=by obtain⟨h,⟨j,c⟩,k⟩:=(d.at_ i f).1;rcases c with⟨c,m⟩ | ⟨b,cap,l,c,r⟩;{omega};{injection c with c;exact⟨b,c⟩}
def B_.view(c:B_ B H0 H ps)(i:Nat)(d:ps[i]?=zY (pN T S e a n cap xs)):Y_ T (H_ H) H a cap xs:=by obtain⟨a',j,f,h,-⟩:=(c.at_ i d).1.view (S':=H_ H) (λb g=>(c.in_ i d (.inl g)).2) (λb g=>(c.in_ i d (.inr g)).2);injection f with f e2 e3;subst f;subst e3;exact h
def St.viewF(c:St H0 H ps)(i:Nat)(d:ps[i]?=zY (pN T S e a n cap xs)):Y_ T (λk=>H0.size<=k/\k<H.size) H a cap xs:=by obtain⟨a',j,g,h,-⟩:=(c.at_ i d).1.view (S':=λk=>H0.size<=k/\k<H.size) (λb f=>⟨c.ge i d (.inl f),(c.in_ i d (.inl f)).2⟩) (λb f=>⟨c.ge i d (.inr f),(c.in_ i d (.inr f)).2⟩);injection g with g e2 e3;subst g;subst e3;exact h
def zK{t by_ j:Nat}{x:α}{d:Int}{S0:Nat->Prop}{H2:Aa}{K:v_->Prop}(m:SlT P t e T.size by_ z)(f:B_ B H0 H ps)(i:Nat)(g:ps[i]?=zY (pN T S e a n cap xs))(l:xs[j]?=zY x) (p:d=(j:Int)) (q:∀b o c,H_ H b->Bi H b o c->T.rep (H_ H) H c x->K (.pointer (zY ⟨b,o,zV⟩))):AH P (Instr.indexAt t (.slice a n cap) (.int k d)) S0 H2 K:=by have h:=f.view i g;have v:=f.len i g;obtain⟨b,o,c,rfl,r,s,u⟩:=h.get l;subst p;have w:=(T_.1 l).1;exact ix m zO zO (by simpa using q b _ c r s u)
def LB{t b o j:Nat}{x:α}{K:Aa->Prop}(q:B_ B H0 H ps)(i:Nat)(y:BM P t)(r:ps[i]?=zY (pN T S t (N_ b) n cap xs))(s:T.size=1)(z:o=j)(A:j<xs.length)
  (C:v.oneCell'=zW) (D:∀H',D_ S H H'->T.rep S H' [v] x) (k:∀H',B_ B H0 H' (ps.set i (pN T S t (N_ b) n cap (xs.set j x)))->K H'):Co P (Instr.storeAt t (.pointer (zY ⟨b,o,zV⟩)) v) H K:=by subst z;have c:=q.at_ i r;obtain⟨-,-,-,l,f,g,-,a⟩:=c.1.placeS A;rw[s,zI]at g a;refine uU y f zO C ?_;intro H' u h w;have m:D_ S H H':=h.mono λk d e=>c.2 k d (by subst e;exact⟨0,n,cap,rfl⟩);have p:=a H' [v] x (by rw[QK zO];exact u) m (D H' m);refine k H' (q.upd i r (h.mono λk d e=>d.2 (.inl (by subst e;exact⟨0,n,cap,rfl⟩))) _ ⟨p,c.2⟩ (λk d=>.inl d) (λk d=>by rw[w];exact(q.in_ i r d).2) zO)
def kZ{t b o j:Nat}{cs:List v_}{x:α}{K:Aa->Prop}(r:B_ B H0 H ps)(i:Nat)(y:(P.info? t).map (·.size)=zY T.size)(s:ps[i]?=zY (pN T S t (N_ b) n cap xs))(z:o=j*T.size)(A:j<xs.length)
  (C:cs.all (·.oneCell')=zW) (w:∀H',D_ S H H'->T.rep S H' cs x) (k:∀H',B_ B H0 H' (ps.set i (pN T S t (N_ b) n cap (xs.set j x)))->K H'):Co P (Instr.storeAt t (.pointer (zY ⟨b,o,zV⟩)) (.agg cs.toArray)) H K:=by subst z;have a:=r.at_ i s;have e:=T.len (w H (D_.refl _ _));obtain⟨-,-,-,l,f,g,-,h⟩:=a.1.placeS A;refine Zaa (by rw[e];exact y) f (by rw[e];exact g) C ?_;intro H' u m v;have p:D_ S H H':=m.mono λk c d=>a.2 k c (by subst d;exact⟨0,n,cap,rfl⟩);have q:=h H' cs x u p (w H' p);refine k H' (r.upd i s (m.mono λk c d=>c.2 (.inl (by subst d;exact⟨0,n,cap,rfl⟩))) _ ⟨q,a.2⟩ (λk c=>.inl c) (λk c=>by rw[v];exact(r.in_ i s c).2) zO)
def B_.new{b:Nat}{l:List v_}(d:B_ B H0 H ps)(f:b=H.size)(hs:H'.size=b+1)(a:S_ H' b e l)(g:D_ (λk=>k<b) H H')(i:T.reps none_ H' l xs)(j:n=xs.length)(m:n<=maxLen):B_ B H0 H' (ps++[pS T e (N_ b) n n xs]):=by subst f;refine d.add (g.mono λk a=>a) _ ⟨Z_.ofBlk (p_ _) a i j m,λk a=>a.elim⟩ λk a=>?_;rcases a with⟨o,n',c,h⟩ | h;{cases h;omega};exact h.elim
def B_.nils(b:B_ B H0 H ps)(T:Ty α)(e:x_):B_ B H0 H (ps++[pS T e zV 0 0 []]):=b.add (D_.refl _ _) _ ⟨Z_.nil,λk a=>a.elim⟩ λk a=>by
  rcases a with⟨o,n',c,h⟩ | h
  ·cases h
  ·exact h.elim
def B_.got(c:B_ B H0 H ps)(d:D_ (H_ H) H H')(h:Z_ T none_ H' H.size e v xs):∃a cap,v= .slice a xs.length cap/\B_ B H0 H' (ps++[pS T e a xs.length cap xs]):=by obtain⟨a,cap,rfl⟩:=h.hull;refine⟨a,cap,rfl,c.add d _ ⟨h.lower (p_ _),λk b=>b.elim⟩ λk b=>?_⟩;rcases b with b | b;{exact h.lt b};exact b.elim
def S8{t ty q o m g by_:Nat}{ys:List α}{ds:List v_}{K:v_->Aa->Prop}(r:B_ B H0 H ps)(i:Nat)(v:SlT P t e T.size by_ z)(s:ps[i]?=zY (pS T e a n cap xs))(w:Bi H q o ds) (x:T.reps none_ H ds ys) (y:m=ys.length) (A:∀u∈ds,u.oneCell'=zW) (l:xs.length+ys.length<=34359738368) (hby:by_<=1024)(k:∀a' c H',B_ B H0 H' (ps.set i (pS T e a' (xs.length+ys.length) c (xs++ys)))->D_ (λk=>k<H.size/\¬Q_ (.slice a n cap) k) H H'->K (.slice a' (xs.length+ys.length) c) H'):B0 P (Builtin.append_ #[t,t] ty [.slice a n cap,.slice (zY ⟨q,o,zV⟩) m g].toArray) H K:=by refine BN (T:=T) (S:=none_) (lo:=0) v (r.at_ i s).1 (p_ _) (λk b=>b.elim) w x y A (by unfold maxLen;omega) (by have:=vV l hby;omega) ?_;intro D H' d f p j;obtain⟨a',c,rfl⟩:=d.hull;rw[O_]at d j ⊢;refine k a' c H' (r.upd i s (f.mono λk b=>⟨b.1,λC=>b.2 (.inl C)⟩) _ ⟨d,λk b=>b.elim⟩ (λk b=>?_) (λk b=>?_) p) f;{rcases b with b | b;{rcases j k b with h | h;{exact .inl (.inl h)};exact .inr h};exact b.elim};rcases b with b | b;{exact(d.lt b).2};exact b.elim
def IA{t ty q by_:Nat}{x:α}{K:v_->Aa->Prop}(f:B_ B H0 H ps)(i:Nat)(g:SlT P t e T.size by_ z)(h:ps[i]?=zY (pS T e a n cap xs))(l:S_ H q e [v]) (m:T.rep none_ H [v] x) (c:v.oneCell'=zW) (d:xs.length+1<=34359738368) (hby:by_<=1024)(k:∀a' b H',B_ B H0 H' (ps.set i (pS T e a' (xs.length+1) b (xs++[x])))->D_ (λk=>k<H.size/\¬Q_ (.slice a n cap) k) H H'->K (.slice a' (xs.length+1) b) H'):B0 P (Builtin.append_ #[t,t] ty [.slice a n cap,.slice (N_ q) 1 1].toArray) H K:=S8 (ys:=[x]) f i g h (l.cells (λj v c=>by simpa using c)) (Ty.reps_one m) rfl (λu o=>by cases V_.1 o;exact c) (by simpa using d) hby k
end
section
variable{α:Type}{T:Ty α}{B:Nat->Prop}{H0 H H1:Aa}{ps:List Pc}{e te:x_}{nb:Nat}{vs:List v_}{xs:List (List α)}
def Tab.hold{S':Nat->Prop}{lo:Nat}(h:Tab T none_ H lo e nb te vs xs)(k:D_ S' H H1)(f:S' nb)(a:∀(i:Nat) (v:v_),vs[i]?=zY v->∀j,Q_ v j->S' j):Tab T none_ H1 lo e nb te vs xs:=⟨h.len,h.blk.agr k f,h.nlo,λi v x d g=>(h.own i v x d g).agr k (λb c=>a i v d b c) (λb a=>a.elim),h.apart⟩
def pT(T:Ty α)(e te:x_)(nb:Nat)(vs:List v_)(xs:List (List α)):Pc where
 foot k:=k=nb\/∃(i:Nat) (v:v_),vs[i]?=zY v/\Q_ v k
 ok H:=Tab T none_ H (nb+1) e nb te vs xs
 fr h hp:=hp.hold h (.inl rfl) λi v hv j hj=>.inr ⟨i,v,hv,hj⟩
def B_.tab(a:B_ B H0 H ps)(i:Nat)(b:ps[i]?=zY (pT T e te nb vs xs)):Tab T none_ H (nb+1) e nb te vs xs:=a.at_ i b
def B_.tabNew{n:Nat}(d:B_ B H0 H ps)(T:Ty α)(e:x_)(f:nb=H.size)(hs:H1.size=nb+1)(a:S_ H1 nb te (AnS n (.slice zV 0 0)))(g:D_ (λk=>k<nb) H H1):B_ B H0 H1 (ps++[pT T e te nb (AnS n (.slice zV 0 0)) (AnS n [])]):=by subst f;refine d.add (g.mono λk a=>a) _ (Tab.new a (Nat.lt_succ_self _)) λk a=>?_;rcases a with rfl | ⟨i,v,b,a⟩;{omega};{rw[wU]at b;split at b;{cases b;have⟨o,n,c,h⟩:=a;cases h};{cases b}}
def B_.row(h:B_ B H0 H ps)(i:Nat)(j:ps[i]?=zY (pT T e te nb vs xs)){t:Nat}{x:List α}(g:xs[t]?=zY x):∃a cap,vs[t]?=zY (.slice a x.length cap)/\Y_ T (H_ H) H a cap x:=by have tab:=h.tab i j;have k:=(T_.1 g).1;have⟨v,o,l,d,c⟩:=tab.get k;rw[g]at d;cases d;obtain⟨a,cap,rfl,m,-⟩:=c.view (S':=H_ H) (λb n=>(c.lt n).2) (λ_ f=>f.elim);exact⟨a,cap,l,m⟩
def B_.tcell(a:B_ B H0 H ps)(i:Nat)(b:ps[i]?=zY (pT T e te nb vs xs)){t o:Nat}{v:v_}(c:vs[t]?=zY v)(d:o=t):YtelngokgpnphfaaGreatDoor.cell H nb o=zY v:=by subst d;rw[(a.tab i b).blk.cell];exact c
structure Mid(T:Ty α)(B:Nat->Prop)(H0 H H1:Aa)(ps:List Pc)(i:Nat)(e te:x_)(nb:Nat)(vs:List v_)(xs:List (List α))(t:Nat)(v':v_)(x':List α):Prop where
 st:B_ B H0 H ps
 hp:ps[i]?=zY (pT T e te nb vs xs)
 own:Z_ T none_ H1 (nb+1) e v' x'
 ex:∃v,vs[t]?=zY v/\D_ (λk=>k<H.size/\¬Q_ v k) H H1/\∀k,Q_ v' k->Q_ v k\/H.size<=k
 le:H.size<=H1.size
def lQ{l ty q by_ t:Nat}{z w:v_}{n cap:Nat}{x:List α}{y:α}{K:v_->Aa->Prop}(p:B_ B H0 H ps)(i:Nat)(s:SlT P l e T.size by_ z)(r:ps[i]?=zY (pT T e te nb vs xs))(h:vs[t]?=zY (.slice a n cap))(A:xs[t]?=zY x)(C:S_ H q e [w]) (D:T.rep none_ H [w] y) (E:w.oneCell'=zW) (m:x.length+1<=34359738368) (hby:by_<=1024)(k:∀a' c H1,Mid T B H0 H H1 ps i e te nb vs xs t (.slice a' (x.length+1) c) (x++[y])->K (.slice a' (x.length+1) c) H1):B0 P (Builtin.append_ #[l,l] ty [.slice a n cap,.slice (N_ q) 1 1].toArray) H K:=by have tab:=p.tab i r;have d:=tab.own t _ _ h A;refine BN (T:=T) (S:=none_) (lo:=nb+1) (ys:=[y]) s d tab.blk.lt (λk F=>F.elim) (C.cells (λj v h=>by simpa using h)) (Ty.reps_one D) rfl (λu G=>by cases V_.1 G;exact E) (by unfold maxLen;simp only[c_];omega) (by have:=vV m hby;simp only[c_];omega) ?_;intro I H1 b f o g;obtain⟨a',c,rfl⟩:=b.hull;rw[O_,c_]at b g ⊢;exact k a' c H1 ⟨p,r,b,⟨_,h,f,g⟩,o⟩
def nO{i t o:Nat}{g:v_}{x':List α}{K:Aa->Prop}(m:Mid T B H0 H H1 ps i e te nb vs xs t g x')(F:BM P te)(G:o=t)
  (k:∀H2,B_ B H0 H2 (ps.set i (pT T e te nb (vs.set t g) (xs.set t x')))->K H2):Co P (Instr.storeAt te (.pointer (zY ⟨nb,o,zV⟩)) g) H1 K:=by
 subst G;have⟨v,l,c,n⟩:=m.ex;have D:=m.st;have tab:=D.tab i m.hp;have f:o<vs.length:=(T_.1 l).1;have s:o<xs.length:=by rw[<-tab.len];exact f
 obtain⟨x,I⟩:∃x,xs[o]?=zY x:=⟨xs[o],zJ s⟩;have u:=tab.own o v x l I;have y:¬Q_ v nb:=λh=>by have:=(u.lt h).1;omega
 have p:=tab.blk.agr c ⟨tab.blk.lt,y⟩;refine uU F p f m.own.one ?_;intro H2 z q J;have b:Tab T none_ H2 (nb+1) e nb te (vs.set o g) (xs.set o x'):=tab.push l m.own c n z q (λk a=>a.elim);have L:=m.le;have r:∀(j:Nat) (w:v_),(vs.set o g)[j]?=zY w->∀k,Q_ w k->k<H2.size:=λj w d k a=>by{have A:=(T_.1 d).1;have:j<(xs.set o x').length:=by{rw[<-b.len];exact A};exact((b.own j w _ d (zJ this)).lt a).2};refine k H2 (D.upd i m.hp (H':=H2) ?_ _ b ?_ ?_ zO);{exact(c.mono λk a=>⟨a.1,λM=>a.2 (.inr ⟨o,v,l,M⟩)⟩).trans (q.mono λk a C=>a.2 (.inl C))};{intro k a;rcases a with rfl | ⟨j,w,d,a⟩;{exact .inl (.inl rfl)};{by_cases E:o=j;{subst E;rw[yQ f]at d;cases d;rcases n k a with h | h;{exact .inl (.inr ⟨o,v,l,h⟩)};{exact .inr h}};{rw[yX E]at d;exact .inl (.inr ⟨j,w,d,a⟩)}}};{intro k a;rcases a with rfl | ⟨j,w,d,a⟩;{exact b.blk.lt};{exact r j w d k a}}
def B_.tview(a:B_ B H0 H ps)(i:Nat)(b:ps[i]?=zY (pT T e te nb vs xs))(c:xs.length<=maxLen):Y_ (zF T) (H_ H) H (N_ nb) xs.length xs:=(a.tab i b).view rfl c (λk _ d=>d) (λ_ f=>f.elim)
end
def gN{c:Array x_}{a b:Int}(h:K (.int k (if b<a then b else a))):AH P (Builtin.min_ c t [.int k a,.int d b].toArray) S H K:=by refine AH.mk _ (λw _=>?_) h;simp[Builtin.min_,Builtin.min2]
def Wi{c:Array x_}{a b:Int}(h:K (.int k (if a<b then b else a))):AH P (Builtin.max_ c t [.int k a,.int d b].toArray) S H K:=by refine AH.mk _ (λw _=>?_) h;simp[Builtin.max_,Builtin.max2]
def pc8(a:Nat):Nat:=((Ap6 8).filter λj=>a.testBit j).length
def g1(a:Nat):Nat:=((a / 2) &&& 85)+(a &&& 85)
def g2(a:Nat):Nat:=((a / 4) &&& 51)+(a &&& 51)
def p8(w i:Nat):Nat:=pc8 (w / 256^i % 256)
def Fk(s:BitVec 256):Nat:=((Ap6 256).filter λb=>s.getLsbD b).length
def AX(s:BitVec 256)(n:Nat):Nat×Bool:=match(Ap6 256).find? λb=>zT (n<=b)&&s.getLsbD b with
 | some b=>(b,zW)
 | none=>(0,zU)
def CW(s:BitVec 256)(n:Nat):(AX s n).1<256:=by unfold AX;split;{rename_i b h;have:=List.mem_of_find?_eq_some h;simpa using this};decide
def Qk(s:BitVec 256)(n:Nat)(z:n<=256)(H:Aa):BK prog 63 #[BD s,A_ n] H (.tuple #[.int .u8 ((AX s n).1:Int),.bool (AX s n).2]):=by refine Ai.of_vc func63 rfl (call63 _) (BI (Ag s) rfl ?_);intro pb H1 f g i l;have F_:=(St.nil H).box f g i l;refine Wi ?_;rw[I_ zO];(conv=>whnf);refine A0.mk [4,5,6] (λk:Nat=>[.int .u8 0,.bool zU,A_ k]) (λk H2=>n<=k/\k<=256/\(∀j,n<=j->j<k->s.getLsbD j=zU)/\St H H2 [pB 108 pb (Ag s)]) (λk _=>256-k) ?_ ?_;{(conv=>whnf);exact⟨n,rfl,M_ _,z,λj u A=>zO,F_⟩};{rintro k H2 w ⟨m,C,c,o⟩;refine AB.m2 (λh=>?_) (λh=>?_);{have d:k<256:=zO;refine L_ (cs:=Ag s) Bn ((o.blk 0 rfl).cells λj v B=>by rw[K_];exact B) zA ?_;(conv=>whnf);rw[w8 (x:=(k:Int)) zO zO];refine Al (nT s k d H2) λH3 p=>?_;have e:=o.call p;cases y:s.getLsbD k with|true=>{(conv=>whnf);rw[w8 (x:=(k:Int)) zO zO];(conv=>whnf);have q:((Ap6 256).find? λb=>zT (n<=b)&&s.getLsbD b)=zY k:=by{rw[List.find?_range_eq_some];refine⟨by simp[m,y],by simpa using d,λj r=>?_⟩;by_cases a:n<=j;{simp[c j a r]};{simp[a]}};refine⟨?_,e.old⟩;unfold AX;rw[q];first | done | rfl}|false=>(conv=>whnf);rw[R_ k zO];refine⟨rfl,k+1,zZ,⟨zO,zO,λj u A=>?_,e⟩,zO⟩;by_cases t:j=k;{subst t;exact y};{exact c j u zO}};{obtain rfl:k=256:=zO;(conv=>whnf);have q:((Ap6 256).find? λb=>zT (n<=b)&&s.getLsbD b)=zV:=by{rw[List.find?_range_eq_none];intro j r;by_cases a:n<=j;{simp[c j a (by simpa using r)]};{simp[a]}};refine⟨?_,o.old⟩;unfold AX;rw[q];first | done | rfl}}
def E1(all:BitVec 256):List (BitVec 256)->Option (BitVec 256)| []=>zY all | c::cs=>if all &&& c=0#256 then E1 (all ||| c) cs else zV
def LE(all:BitVec 256)(cs ds:List (BitVec 256)):E1 all (cs++ds)=(E1 all cs).bind λx=>E1 x ds:=by induction cs generalizing all with|nil=>rfl|cons c cs a=>simp only[List.cons_append,E1];split;{exact a _};rfl
def Oh{all:BitVec 256}{cs:List (BitVec 256)}{x c:BitVec 256}(h:E1 all cs=zY x):E1 all (cs++[c])=if x &&& c=0#256 then zY (x ||| c)else zV:=by rw[LE,h];rfl
def IV(n m:Nat)(row:List Int):Bool:=row.length==m&&row.all λq=>zT (0<=q)&&zT (q<(n:Int))
def B9(cells:List (BitVec 256))(next:List (List Int))(fl:Nat):Bool:=match E1 0#256 cells with
 | none=>zU
 | some all=>all==ArC 256&&zT (1<=next.length)&&zT (next.length<=65536)&&next.length==fl&&next.all (IV next.length cells.length)
section
variable{α:Type}{l:List α}{k:Nat}
def Ab{x:α}(h:l[k]?=zY x):l.take (k+1)=l.take k++[x]:=by rw[List.take_add_one,h];rfl
def Ac(h:k<l.length):∃x,l[k]?=zY x:=⟨l[k],zJ h⟩
end
def F7(next:List (List Int))(c d:Nat):Bool:=c==d|| next.all λrow=>row[c]?==row[d]?
def Bk(cells:List (BitVec 256))(b:Nat):Nat:=cells.findIdx λc=>c.getLsbD b
structure MS where
 cols:List Nat
 sets:List (BitVec 256)
 cell:List Nat
def MN(next:List (List Int))(cols:List Nat)(f:Nat):Option Nat:=cols.findIdx? λc=>F7 next c f
def I3(next:List (List Int))(cols:List Nat)(sets:List (BitVec 256))(f:Nat):List Nat×List (BitVec 256)×Nat:=match MN next cols f with
 | some i=>(cols,sets,i)
 | none=>(cols++[f],sets++[0#256],cols.length)
def Qg(next:List (List Int))(cells:List (BitVec 256))(st:MS)(b:Nat)(s:BitVec 256):MS:=let r:=I3 next st.cols st.sets (Bk cells b)
 ⟨r.1,r.2.1.set r.2.2 (r.2.1.getD r.2.2 0#256 ||| s),st.cell++[r.2.2]⟩
def Bs(next:List (List Int))(cells:List (BitVec 256))(sp:Nat->BitVec 256):Nat->MS | 0=>⟨[],[],[]⟩ | b+1=>Qg next cells (Bs next cells sp b) b (sp b)
def Kg{all:BitVec 256}{cs:List (BitVec 256)}{x:BitVec 256}(h:E1 all cs=zY x)(b:Nat):x.getLsbD b=(all.getLsbD b|| cs.any λc=>c.getLsbD b):=by induction cs generalizing all with|nil=>simp only[E1,Option.some.injEq]at h;subst h;simp|cons c cs a=>simp only[E1]at h;split at h;{rw[a h,rH,List.any_cons,Bool.or_assoc]};cases h
section
variable{cells:List (BitVec 256)}
def Ce{next:List (List Int)}{fl:Nat}(h:B9 cells next fl=zW)(g:b<256):Bk cells b<cells.length/\∀c,cells[Bk cells b]?=zY c->c.getLsbD b=zW:=by unfold B9 at h;split at h;{cases h};rename_i all a;simp only[X',beq_iff_eq]at h;have d:=Kg a b;rw[h.1.1.1.1,tR]at d;simp only[g,decide_true,BitVec.getLsbD_zero,Bool.false_or]at d;have e:Bk cells b<cells.length:=List.findIdx_lt_length.2 (by simpa using(oW.1 d.symm));refine⟨e,λc f=>?_⟩;have:=List.findIdx_getElem (w:=e);rw[zJ e]at f;cases f;exact this
def Rf{k:Nat}{c:BitVec 256}(e:k<Bk cells b)(a:cells[k]?=zY c):c.getLsbD b=zU:=by have:=List.not_of_lt_findIdx e;have d:=(T_.1 a).1;rw[zJ d]at a;cases a;simpa using this
def Fb{next:List (List Int)}{fl:Nat}(h:B9 cells next fl=zW):1<=next.length/\next.length<=65536/\next.length=fl/\∀row∈next,row.length=cells.length/\∀q∈row,0<=q/\q<(next.length:Int):=by unfold B9 at h;split at h;{cases h};simp only[X',beq_iff_eq,z',yC,IV]at h;exact⟨h.1.1.1.2,h.1.1.2,h.1.2,λrow a=>⟨(h.2 row a).1,λq b=>(h.2 row a).2 q b⟩⟩
end
structure MOk(m b:Nat)(st:MS):Prop where
 len:st.cols.length=st.sets.length
 le:st.cols.length<=b
 cell:st.cell.length=b
 cols:∀c∈st.cols,c<m
 places:∀p∈st.cell,p<st.cols.length
def T5{next:List (List Int)}{a:List Nat}{sets:List (BitVec 256)}{f m:Nat}(e:a.length=sets.length)(g:a.length<=b)(j:∀c∈a,c<m)(n:f<m):(I3 next a sets f).1.length=(I3 next a sets f).2.1.length/\(I3 next a sets f).1.length<=b+1/\(∀c∈(I3 next a sets f).1,c<m)/\(I3 next a sets f).2.2<(I3 next a sets f).1.length/\a.length<=(I3 next a sets f).1.length:=by unfold I3;split;{rename_i i k;have d:i<a.length:=by{have:=List.findIdx?_eq_some_iff_findIdx_eq.1 k;exact this.1};exact⟨e,Nat.le_succ_of_le g,j,d,M_ _⟩};refine⟨by simp[e],by simpa using g,?_,zZ,zZ⟩;intro c l;rcases k_.1 l with h | h;{exact j c h};rw[V_]at h;omega
def GR{next:List (List Int)}{cells:List (BitVec 256)}{sp:Nat->BitVec 256}(e:∀b,b<256->Bk cells b<cells.length):∀b,b<=256->MOk cells.length b (Bs next cells sp b)
 | 0,_=>⟨rfl,M_ _,rfl,(λc h=>by cases h),(λp h=>by cases h)⟩
 | b+1,hb=>by
   have a:=GR (next:=next) (sp:=sp) e b zO;have h:=T5 (next:=next) a.len a.le a.cols (e b zO);unfold Bs Qg;refine⟨?_,h.2.1,?_,h.2.2.1,?_⟩
   ·simp only[yT];exact h.1
   ·simp[a.cell]
   ·intro p d;simp only[k_,V_]at d;rcases d with d | rfl
    ·exact wV (a.places p d) h.2.2.2.2
    ·exact h.2.2.2.1
structure MapT(P:w_)(t kt et:x_)(d:TypeDesc)(z:v_):Prop where
 under:P.underlying t=zY (.map kt et)
 key:P.underlying kt=zY d
 zero:(P.info? et).bind (·.zero)=zY z
structure AkV(d:TypeDesc){α:Type}(enc:α->v_):Prop where
 isKey:∀a,Go.MapKept.IsKey d (enc a)
 inj:∀a b,enc a=enc b->a=b
def Zab:AkV .string Value.string:=⟨λ_=>trivial,λa b h=>by cases h;rfl⟩
def kA(k:IntKind):AkV (.int k) (Value.int k):=⟨λ_=>rfl,λa b h=>by cases h;rfl⟩
section
variable{α:Type}
def Ux(enc:α->v_)(H:Aa)(b:Nat)(m:α->Option v_):Prop:=∃es clock,H[b]?=zY (.map es clock)/\Go.MapKept.Stamped es clock/\(∀(i:Nat) (x:MapEntry),es[i]?=zY x->∃a,x.key=enc a/\m a=zY x.val)/\
  ∀a v,m a=zY v->∃(i:Nat) (x:MapEntry),es[i]?=zY x/\x.key=enc a/\x.val=v
def Ux.agr{enc:α->v_}{m:α->Option v_}(h:Ux enc H b m)(k:D_ S H H')(c:S b):Ux enc H' b m:=by have⟨d,a,e,f⟩:=h;exact⟨d,a,(k b c).trans e,f⟩
def Jc(enc:α->v_)(H:Aa)(b:Nat)(a:α)(s:Nat):Prop:=∃es clock,H[b]?=zY (.map es clock)/\∀(i:Nat) (x:MapEntry),es[i]?=zY x->(x.born=s↔x.key=enc a)
def Jc.agr{enc:α->v_}{a:α}{s:Nat}(h:Jc enc H b a s)(k:D_ S H H')(d:S b):Jc enc H' b a s:=by have⟨e,c,f,g⟩:=h;exact⟨e,c,(k b d).trans f,g⟩
end
open Classical in
noncomputable def put{α:Type}(m:α->Option v_)(a:α)(v:Option v_):α->Option v_:=λb=>if b=a then v else m b
def D8{α:Type}(m:α->Option v_)(a:α)(v:Option v_):put m a v a=v:=J_ rfl
def GA{α:Type}{m:α->Option v_}{a b:α}{v:Option v_}(h:b≠a):put m a v b=m b:=I_ h
def Gu{a:Nat}(h:Go.MapKept.Stamped es a){x y:MapEntry}(d:es[i]?=zY x)(f:es[j]?=zY y)(e:x.key=y.key):i=j:=by
 have g:=h.2.2;have b:(es.toList.map (·.key))[i]?=zY x.key:=by simp[d]
 have c:(es.toList.map (·.key))[j]?=zY x.key:=by simp[f,e]
 exact(gP (T_.1 b).1 g).1 (b.trans c.symm)
def JI{a:Nat}(h:Go.MapKept.Stamped es a){x y:MapEntry}(d:es[i]?=zY x)(f:es[j]?=zY y)(e:x.born=y.born):i=j:=by
 have g:=h.2.1;have b:(es.toList.map (·.born))[i]?=zY x.born:=by simp[d]
 have c:(es.toList.map (·.born))[j]?=zY x.born:=by simp[f,e]
 exact(gP (T_.1 b).1 g).1 (b.trans c.symm)
def QZ{et:x_}(a:(P.info? et).bind (·.zero)=zY z)(w:y_):(zeroValue et).run P w= .ok z w:=by cases b:P.info? et with|none=>rw[b]at a;cases a|some i=>have c:i.zero=zY z:=by{simpa [b]using a};simp[zeroValue,typeInfo,b,c]
abbrev VS(w:y_)(b:Nat)(o:Obj):y_:={w with heap:=w.heap.setIfInBounds b o}
def KC{o o':Obj}(h:w.heap[b]?=zY o):(VS w b o').heap[b]?=zY o'/\D_ (λk=>k≠b) w.heap (VS w b o').heap/\(VS w b o').heap.size=w.heap.size:=⟨(Go.MapKept.heap_set h).1,λk a=>(Go.MapKept.heap_set h).2 k a,zZ⟩
section
variable{α:Type}{enc:α->v_}
def VE{m:α->Option v_}{a:α}{c:Nat}(hs:Go.MapKept.Stamped es c)(q:∀(i:Nat) (x:MapEntry),es[i]?=zY x->∃a,x.key=enc a/\m a=zY x.val)(r:∀a v,m a=zY v->∃(i:Nat) (x:MapEntry),es[i]?=zY x/\x.key=enc a/\x.val=v)(g:∀x∈es.toList,x.key≠enc a)(n:H'[b]?=zY (.map (es.push ⟨enc a,v,c⟩) (c+1))):Ux enc H' b (put m a (zY v))/\Jc enc H' b a c:=by have j:∀i x,(es.push ⟨enc a,v,c⟩)[i]?=zY x->(i<es.size/\es[i]?=zY x)\/(i=es.size/\x=⟨enc a,v,c⟩):=by{intro i x d;rw[oX]at d;by_cases l:i=es.size;{rw[J_ l]at d;exact .inr ⟨l,by cases d;rfl⟩};rw[I_ l]at d;exact .inl ⟨(vM.1 d).1,d⟩};refine⟨⟨_,_,n,Go.MapKept.stamped_push hs g,λi x d=>?_,λa' s k=>?_⟩,_,_,n,λi x d=>?_⟩;{rcases j i x d with⟨_,d⟩ | ⟨_,rfl⟩;{have⟨a',o,e2⟩:=q i x d;have:a'≠a:=λh=>g x (d_ (by simpa using d)) (by rw[o,h]);exact⟨a',o,by rw[GA this];exact e2⟩};exact⟨a,rfl,D8 _ _ _⟩};{by_cases p:a'=a;{subst p;rw[D8]at k;cases k;exact⟨es.size,⟨enc a',v,c⟩,zZ,rfl,rfl⟩};rw[GA p]at k;have⟨i,x,d,e⟩:=r a' s k;exact⟨i,x,by rw[oX,I_ (by have:=(vM.1 d).1;omega)];exact d,e⟩};rcases j i x d with⟨_,d⟩ | ⟨_,rfl⟩;{have f:x∈es.toList:=d_ (by simpa using d);have:=hs.1 x f;exact⟨λh=>zO,λh=>absurd h (g x f)⟩};simp
def AoC{K:v_->Aa->Prop}(k:∀b H',b=H.size->H'.size=b+1->Ux enc H' b (λ_=>zV)->D_ (λk=>k<b) H H'->K (.map (zY b)) H'):B0 P (Instr.makeMap t zV) H K:=by refine B0.mk λw a=>?_;subst a;exact⟨_,w.alloc (.map #[] 0),by simp[Instr.makeMap],⟨rfl,rfl,rfl⟩,k w.heap.size _ rfl (by rw[Hj];simp) ⟨#[],0,by rw[Hj];simp,Go.MapKept.stamped_empty 0,zZ,zZ⟩ (EC _ _)⟩
end
open Classical in
noncomputable def upd{α β:Type}(f:α->β)(a:α)(v:β):α->β:=λb=>if b=a then v else f b
def QU{α β:Type}(f:α->β)(a:α)(v:β):upd f a v a=v:=J_ rfl
def XI{α β:Type}{f:α->β}{a b:α}{v:β}(h:b≠a):upd f a v b=f b:=I_ h
def EG{α:Type}(m:α->Option v_)(a:α):v_:=(m a).getD (.slice zV 0 0)
def QG{α:Type}(m:α->Option v_)(a:α)(v:v_):EG (put m a (zY v)) a=v:=by simp[EG,D8]
def Ui{α:Type}{m:α->Option v_}{a b:α}{v:Option v_}(h:b≠a):EG (put m a v) b=EG m b:=by simp[EG,GA h]
structure Qs{α β:Type}(enc:α->v_)(T:Ty β)(H:Aa)(lo:Nat)(e:x_)(mb:Nat)(m:α->Option v_)(xs:α->List β):Prop where
 map:Ux enc H mb m
 lt:mb<lo
 own:∀k,Z_ T (λ_=>False) H lo e (EG m k) (xs k)
 apart:∀k k' b,k≠k'->Q_ (EG m k) b->¬Q_ (EG m k') b
def QS{a b:ByteArray}(h:a.data.toList=b.data.toList):a=b:=by cases a;cases b;simp_all [Array.toList_inj]
section
variable{α:Type}
def SlQ(T:Ty α)(S:Nat->Prop)(H:Aa)(e:x_)(v:v_)(xs:List α):Prop:=∃cs,cs.length=xs.length*T.size/\T.reps S H cs xs/\((v= .slice zV 0 0/\xs=[])\/
  ∃b o cap l,v= .slice (zY ⟨b,o,zV⟩) xs.length cap/\S_ H b e l/\xs.length<=cap/\cap<=maxLen/\o+cap*T.size<=l.length/\∀j u,cs[j]?=zY u->l[o+j]?=zY u)
def SlQ.agr{T:Ty α}{S':Nat->Prop}{xs:List α}(h:SlQ T S H e v xs)(k:D_ S' H H')(c:∀b,Q_ v b->S' b)(hs:∀b,S b->S' b):SlQ T S H' e v xs:=by have⟨d,f,g,a⟩:=h;refine⟨d,f,Ty.reps_frame (k.mono hs) g,?_⟩;rcases a with a | ⟨b,o,cap,l,rfl,i,r⟩;{exact .inl a};exact .inr ⟨b,o,cap,l,rfl,i.agr k (c b ⟨_,_,_,rfl⟩),r⟩
def SlQ.hull{T:Ty α}{xs:List α}(h:SlQ T S H e v xs):∃a cap,v= .slice a xs.length cap:=by obtain⟨c,d,f,⟨rfl,rfl⟩ | ⟨b,o,cap,l,rfl,r⟩⟩:=h;{exact⟨_,_,rfl⟩};exact⟨_,_,rfl⟩
def SlQ.lt{T:Ty α}{xs:List α}(h:SlQ T S H e v xs)(d:Q_ v b):b<H.size:=by obtain⟨f,n',g,rfl⟩:=d;obtain⟨i,j,k,⟨a,c⟩ | ⟨b',o,cap,l,a,c,r⟩⟩:=h;{cases a};injection a with a;injection a with a;injection a with a;subst a;exact c.lt
def SlQ.ofO{T:Ty α}{xs:List α}(h:Z_ T S H lo e v xs):SlQ T S H e v xs:=by obtain⟨d,⟨f,c⟩,g⟩:=h;refine⟨d,f,g,?_⟩;rcases c with⟨rfl,c⟩ | ⟨b,cap,l,rfl,o,i,k,m,p,n⟩;{exact .inl ⟨rfl,uO c⟩};refine .inr ⟨b,0,cap,l,rfl,i,k,m,zO,λj u a=>?_⟩;rw[<-n,uC]at a;split at a;{rw[K_];exact a};cases a
def SlQ.view{T:Ty α}{S':Nat->Prop}{xs:List α}(h:SlQ T S H e (.slice a n cap) xs)(g:∀b,Q_ (.slice a n cap) b->S' b)(hs:∀b,S b->S' b):n=xs.length/\Y_ T S' H a cap xs:=by obtain⟨p,q,i,⟨c,d⟩ | ⟨b,o,f,l,c,d,j,k,r,m⟩⟩:=h;{injection c with e1 e2 e3;subst e1;subst e2;subst e3;subst d;exact⟨rfl,rfl,rfl⟩};injection c with e1 e2 e3;subst e1;subst e2;subst e3;exact⟨rfl,Y_.intro (g b ⟨_,_,_,rfl⟩) j k (d.cells m) (Ty.reps_mono hs i)⟩
def AfW{T:Ty α}{xs:List α}{t ty:Nat}{K:v_->Aa->Prop}(J:SlT P t e T.size by_ z){q m:Nat}{ys:List α}{ds:List v_}(hs:SlQ T S H e v xs) (hS:∀k,S k->k<H.size/\¬Q_ v k) (hd:Bi H q o ds) (R:T.reps S H ds ys) (U:m=ys.length) (h1:∀u∈ds,u.oneCell'=zW)(M:xs.length+ys.length<=maxLen) (hby:(xs.length+ys.length)*by_<=140737488355328)(h:∀L H',SlQ T S H' e L (xs++ys)->D_ (λk=>k<H.size/\¬Q_ v k) H H'->H.size<=H'.size->(∀k,Q_ L k->Q_ v k\/H.size<=k)->K L H'):B0 P (Builtin.append_ #[t,t] ty [v,.slice (zY ⟨q,o,zV⟩) m cap].toArray) H K:=by
 subst U;refine B0.mk λw hw=>?_;subst hw;have⟨f,V,y,W,hz⟩:=J.info;have i:Src P f.size t (.slice (zY ⟨q,o,zV⟩) ys.length cap) ys.length ds w:=by{rw[y];refine Src.ofSlice w J.under ⟨q,o,zV⟩ ys.length cap ds (Ty.reps_len R) (λj u D=>?_) h1;rw[Addr.add_mid,Hm];exact hd j u D};have G:ds.length=ys.length*T.size:=Ty.reps_len R;have⟨d,I,hr,X⟩:=hs;have a7:xs.length+ys.length<=9223372036854775807:=by simp only[maxLen]at M;omega
 have A:(d++ds).length=(xs++ys).length*T.size:=by rw[O_,O_,I,G,sN]
 have reps:∀{H':Aa},D_ (λk=>k<w.heap.size/\¬Q_ v k) w.heap H'->T.reps S H' (d++ds) (xs++ys):=λk=>Ty.reps_append (Ty.reps_frame (k.mono hS) hr) (Ty.reps_frame (k.mono hS) R)
 have E:∀(n:Option Addr) (a:Nat),v= .slice n xs.length a->a<xs.length+ys.length->(Builtin.firstCells f.size xs.length (.slice n xs.length a)).run P w.drew= .ok d.toArray w.drew->
   ∃L Y,(Builtin.append_ #[t,t] ty [v,.slice (zY ⟨q,o,zV⟩) ys.length cap].toArray).run P w= .ok L Y/\l_ w Y/\K L Y.heap:=by
  intro n a Z N hold;subst Z;have B:=run_append_grow_src (P:=P) w t t ty e f z J.under V hz n xs.length a d hold _ ys.length ds i N zO (growslice_fits zO (by rw[W];exact hby));refine⟨_,_,B,⟨rfl,rfl,rfl⟩,?_⟩;have a0:=grownCap_ge w (xs.length+ys.length) a e;have a1:=grownCap_le_maxLen w (xs.length+ys.length) a e M;have p:D_ (λk=>k<w.heap.size/\¬Q_ (.slice n xs.length a) k) w.heap (w.drew.alloc (.cells ((d++ds).toArray++Builtin.zeroCells z.cells (grownCap w (xs.length+ys.length) a e-(xs.length+ys.length))) e)).heap:=λk x=>EC w.heap _ k x.1;have O:S_ (w.drew.alloc (.cells ((d++ds).toArray++Builtin.zeroCells z.cells (grownCap w (xs.length+ys.length) a e-(xs.length+ys.length))) e)).heap w.heap.size e
    ((d++ds)++(Builtin.zeroCells z.cells (grownCap w (xs.length+ys.length) a e-(xs.length+ys.length))).toList):=by
   unfold S_;have:(w.drew.alloc (.cells ((d++ds).toArray++Builtin.zeroCells z.cells (grownCap w (xs.length+ys.length) a e-(xs.length+ys.length))) e)).heap=w.heap.push (.cells ((d++ds).toArray++Builtin.zeroCells z.cells (grownCap w (xs.length+ys.length) a e-(xs.length+ys.length))) e):=rfl;rw[this];simp
  refine h _ _ ⟨d++ds,A,reps p,.inr ⟨w.heap.size,0,_,_,by rw[O_],O,by rw[O_];exact a0,a1,?_,?_⟩⟩ p ?_ ?_
  ·have e2:(d++ds).length=(xs.length+ys.length)*T.size:=by rw[A,O_]
   have e3:∀g:Nat,(Builtin.zeroCells z.cells g).toList.length=g*T.size:=λg=>by rw[sJ,size_zeroCells,J.zsz]
   rw[@O_ _ (d++ds) _,e2,e3,<-sN,K_];exact wO _ zO
  ·intro j u D;rw[K_,yB (T_.1 D).1];exact D
  ·show w.heap.size<=(w.heap.push _).size;simp
  ·rintro k ⟨o,n',c,x⟩;cases x;exact .inr (M_ _)
 rcases X with⟨rfl,rfl⟩ | ⟨b,s,a,l,rfl,Q,a9,a2,a3,F⟩;{have a4:d=[]:=uO (by simpa using I);subst a4;by_cases U:ys.length=0;{obtain rfl:ys=[]:=uO U;have hn:ds=[]:=uO (by simpa using G);subst hn;refine⟨.slice zV 0 0,w,?_,l_.refl w,h _ _ ⟨[],zZ,rfl,.inl ⟨rfl,rfl⟩⟩ (D_.refl _ _) (M_ _) (λk x=>.inl x)⟩;have k1:=i.len;have k2:=i.cells;simp only[List.length_nil]at k1 k2;rcases i.kind with⟨e',x⟩ | x<;>simp[Builtin.append_,run_underlying J.under,run_underlying x,sizeOf,typeInfo,V,k1,k2]};exact E zV 0 rfl (by simp;omega) (by simp[Builtin.firstCells])};by_cases r:xs.length+ys.length<=a;{have a8:xs.length*T.size+ds.length<=a*T.size:=by{rw[G,<-sN];exact wO _ r};have B:=run_append_room_src (P:=P) w t t ty e f J.under V b s xs.length a _ ys.length ds i r (λj hj=>by rw[Hm,Q.cell,y];simp;omega) (λj hj=>Ju Q);have C:s+xs.length*f.size+ds.length<=l.length:=by{rw[y];omega};have⟨a5,h2,h3,h4⟩:=GV ds (s+xs.length*f.size) l w Q C;have p:D_ (λk=>k<w.heap.size/\¬Q_ (.slice (zY ⟨b,s,zV⟩) xs.length a) k) w.heap (w.setCells b (s+xs.length*f.size) ds).heap:=h2.mono λk x a6=>by{subst a6;exact x.2 ⟨s,_,a,rfl⟩};refine⟨_,_,B,h4,h _ _ ⟨d++ds,A,reps p,.inr ⟨b,s,a,_,by rw[O_],a5,by rw[O_];exact r,a2,?_,?_⟩⟩ p zO ?_⟩;{rw[DC C];exact a3};{intro j u D;rw[CK C,y];by_cases hj:j<d.length;{rw[yB hj]at D;rw[I_ zO];exact F j u D};rw[zL zO]at D;have:=(T_.1 D).1;rw[J_ zO,(zO:s+j-(s+xs.length*T.size)=j-d.length)];exact D};rintro k ⟨o,n',c,x⟩;cases x;exact .inl ⟨s,xs.length,a,rfl⟩};refine E (zY ⟨b,s,zV⟩) a rfl zO ?_;have hc:Bi w.heap b s d:=Q.cells F;have:=run_firstCells_some (P:=P) w.drew f.size xs.length ⟨b,s,zV⟩ xs.length a d (by rw[y];exact I) (λj v Z=>by{rw[Addr.add_mid];exact TV (w:=w.drew) (H:=w.heap) hc rfl j v Z});exact this
def Ap0{T:Ty α}{xs:List α}{t:Nat}{F:IntKind}{S0:Nat->Prop}{x:α}{H2:Aa}(p:SlT P t e T.size by_ z)(h:SlQ T S H e (.slice a n cap) (x::xs))(k:∀a' f,SlQ T S H e (.slice a' xs.length f) xs->(∀b,Q_ (.slice a' xs.length f) b->Q_ (.slice a n cap) b)->K (.slice a' xs.length f)):AH P (Instr.sliceAt t (.slice a n cap) (zY (.int F 1)) zV zV) S0 H2 K:=by
 obtain⟨G,y,hs,_,_⟩:=p.info;obtain⟨O,A,I,⟨B,m⟩ | ⟨b,o,f,l,B,m,J,Q,R,L⟩⟩:=h;{cases m};injection B with e1 e2 e3;subst e1;subst e2;subst e3;simp only[b_]at J A;obtain⟨c,r,rfl,M,C⟩:=I;have q:=T.len M;have g:K (.slice (if cap=1 then zY ⟨b,o,zV⟩else zY ⟨b,o+T.size,zV⟩) xs.length (cap-1)):=by{refine k _ _ ⟨r,by rw[O_,sN]at A;omega,C,.inr ?_⟩ ?_;{have U:cap*T.size=(cap-1)*T.size+T.size:=by{rw[<-sM];congr 1;omega};by_cases d:cap=1;{rw[J_ d];have N:xs=[]:=uO zO;subst N;have s:r=[]:=by{simpa [Ty.reps]using C};subst s;exact⟨b,o,cap-1,l,rfl,m,zZ,zO,by subst d;simp;omega,λj u v=>by simp at v⟩};rw[I_ d];refine⟨b,o+T.size,cap-1,l,rfl,m,zO,zO,zO,λj u v=>?_⟩;have:=L (c.length+j) u (by rw[zL zO,Nat.add_sub_cancel_left];exact v);rw[q,<-rI]at this;exact this};rintro k ⟨V,n',W,g⟩;by_cases d:cap=1;{rw[J_ d]at g;cases g;exact⟨_,_,_,rfl⟩};rw[I_ d]at g;cases g;exact⟨_,_,_,rfl⟩};refine AH.mk _ (λw _=>?_) g;have D:(⟨b,o,zV⟩:Addr).add (1*T.size)=⟨b,o+T.size,zV⟩:=by rw[mY];exact Addr.add_mid _ _ _
 have E:¬((xs.length:Int)+1<1):=zO;have i:(1:Int)<=(xs.length:Int)+1:=zO;by_cases d:cap=1;{subst d;simp[Instr.sliceAt,Instr.slice,run_underlying p.under,Instr.sliceBounds,Instr.sliceBound,asIntOf,sizeOf,typeInfo,y,hs,E,i]};simp[Instr.sliceAt,Instr.slice,run_underlying p.under,Instr.sliceBounds,Instr.sliceBound,asIntOf,sizeOf,typeInfo,y,hs,d,E,i];simp[mY]at D;exact D
def pQ(T:Ty α)(e:x_)(a:Option Addr)(n cap:Nat)(xs:List α):Pc:=⟨λk=>Q_ (.slice a n cap) k,λH=>SlQ T none_ H e (.slice a n cap) xs,λh hp=>hp.agr h (λ_ hb=>hb) (λ_ f=>f.elim)⟩
def B_.qview{T:Ty α}{xs:List α}(c:B_ B H0 H ps)(i:Nat)(d:ps[i]?=zY (pQ T e a n cap xs)):n=xs.length/\Y_ T (H_ H) H a cap xs:=SlQ.view (c.at_ i d) (λb g=>(c.in_ i d g).2) (λ_ f=>f.elim)
def B_.toQ{T:Ty α}{xs:List α}(b:B_ B H0 H ps)(i:Nat)(c:ps[i]?=zY (pS T e a n cap xs)):B_ B H0 H (ps.set i (pQ T e a n cap xs)):=b.say i c _ (SlQ.ofO (b.at_ i c).1) λk d=>.inl d
def qW{T:Ty α}{xs:List α}{t ty q m g:Nat}{ys:List α}{ds:List v_}{K:v_->Aa->Prop}(p:B_ B H0 H ps)(i:Nat)(s:SlT P t e T.size by_ z)(r:ps[i]?=zY (pQ T e a n cap xs))(v:Bi H q o ds) (w:T.reps none_ H ds ys) (x:m=ys.length) (y:∀u∈ds,u.oneCell'=zW) (j:xs.length+ys.length<=maxLen) (hby:(xs.length+ys.length)*by_<=140737488355328)(k:∀a' b H',B_ B H0 H' (ps.set i (pQ T e a' (xs.length+ys.length) b (xs++ys)))->D_ (λk=>k<H.size/\¬Q_ (.slice a n cap) k) H H'->K (.slice a' (xs.length+ys.length) b) H'):B0 P (Builtin.append_ #[t,t] ty [.slice a n cap,.slice (zY ⟨q,o,zV⟩) m g].toArray) H K:=by refine AfW (T:=T) (S:=none_) s (p.at_ i r) (λk d=>d.elim) v w x y j hby ?_;intro C H' c f l h;obtain⟨a',b,rfl⟩:=c.hull;rw[O_]at c h ⊢;exact k a' b H' (p.upd i r (f.mono λk d=>⟨d.1,λA=>d.2 A⟩) _ c (λk d=>h k d) (λk d=>c.lt d) l) f
def qZ{T:Ty α}{xs:List α}{t:Nat}{f:IntKind}{x:α}{H2:Aa}(c:B_ B H0 H ps)(i:Nat)(g:SlT P t e T.size by_ z)(d:ps[i]?=zY (pQ T e a n cap (x::xs)))(k:∀a' b,B_ B H0 H (ps.set i (pQ T e a' xs.length b xs))->K (.slice a' xs.length b)):AH P (Instr.sliceAt t (.slice a n cap) (zY (.int f 1)) zV zV) S H2 K:=Ap0 (T:=T) g (c.at_ i d) λa' b h j=>k a' b (c.say i d _ h j)
end
section
variable{s d e:Nat}{K:v_->Aa->Prop}
def mS(bs:List Nat)(hs:P.underlying s=zY (.slice e))(c:P.underlying e=zY (.int .u8))(f:P.underlying d=zY .string)(g:∀(j x:Nat),bs[j]?=zY x->cell H b (o+j)=zY (.int .u8 (x:Int))) (h:n=bs.length) (k:K (.string ⟨(bs.map UInt8.ofNat).toArray⟩) H):B0 P (convert s d (.slice (zY ⟨b,o,zV⟩) n cap)) H K:=by subst h;refine B0.mk λw l=>?_;subst l;have:=run_convert_bytes_arg (P:=P) w s e hs c b o bs.length cap (bs.map fun(n:Nat)=>(n:Int)) zZ (λi a=>by{rw[Hm,g i bs[i] (zJ a)];simp[List.getD,a]}) d f;have m:strOfNums (bs.map fun(n:Nat)=>(n:Int))=⟨(bs.map UInt8.ofNat).toArray⟩:=by{unfold strOfNums;rw[List.map_map];congr 2};rw[m]at this;exact⟨_,w,this,l_.refl w,k⟩
def gM(hs:P.underlying s=zY (.slice e))(a:P.underlying e=zY (.int .u8))(b:P.underlying d=zY .string)(k:K (.string ⟨#[]⟩) H):B0 P (convert s d (.slice zV n cap)) H K:=by refine B0.mk λw c=>?_;subst c;exact⟨_,w,run_convert_bytes_nil (P:=P) w s e hs a n cap d b,l_.refl w,k⟩
end
def Mj(ops:Array Oper):Nat->Nat->Nat->Bool | 0,_,_=>zU | f+1,j,i=>match ops[j]? with | none=>zU | some o=>o.after.toList.any λe=>Region.binds .any e&&(AqB e.on i|| Mj ops f e.on i)
def Zac(ops:Array Oper)(listed:Array Bool):Prop:=∀(j:Nat) (o:Oper),ops[j]?=zY o->listed.getD j zU=zW->∀e∈o.after,Region.binds .any e=zW->listed.getD e.on zU=zW
section
variable{b:Array Oper}{a:Array Bool}
def Zac.chain(h:Zac b a):∀(f j:Nat),Mj b f j i=zW->(∀(o:Oper),b[j]?=zY o->∀e∈o.after,Region.binds .any e=zW->a.getD e.on zU=zW)->a.getD i zU=zW
 | 0,_,hn,_=>by simp[Mj]at hn
 | f+1,j,hn,hd=>by
   unfold Mj at hn;split at hn
   ·cases hn
   ·rename_i o n;have⟨e,p,c⟩:=oW.1 hn;simp only[X',vU]at c;have m:=hd o n e (by simpa using p) c.1;rcases c.2 with d | d
    ·rw[<-mZ d];exact m
    ·exact h.chain f e.on d λq g r k l=>h e.on q g m r k l
def Zac.not_ready(h:Zac b a){f:Nat}(g:Mj b f j i=zW)(k:a.getD i zU=zU):j∉Region.ready .any b a:=by
 intro l;obtain⟨_,o,m,c⟩:=mem_ready.1 l;have:=h.chain f j g λq d e n p=>by rw[m]at d;cases d;exact c e n p
 rw[k]at this;cases this
end
def aB{l:Array Bool}{k:Nat}(h:(l.setIfInBounds i zW).getD k zU=zW):k=i\/l.getD k zU=zW:=by by_cases a:k=i;{exact .inl a};rw[getD_set_ne zU (Ne.symm a)]at h;exact .inr h
def Zac.put{b:Array Oper}{a:Array Bool}(h:Zac b a)(m:j∈Region.ready .any b a):Zac b (a.setIfInBounds j zW):=by intro k o g f e i l;rcases aB f with rfl | f;{obtain⟨_,n,c,d⟩:=mem_ready.1 m;rw[g]at c;cases c;exact getD_set_true (d e i l)};exact getD_set_true (h k o g f e i l)
def Ms(P:w_)(ops:Array Oper)(Q:Exit->Act->y_->Prop)(S:y_->Prop)(Z:List Nat):Nat->Array Bool->Act->y_->Prop | 0,listed,a,w=>Region.ready .any ops listed=[]/\Q .normal a w | fuel+1,listed,a,w=>(Region.ready .any ops listed=[]->Q .normal a w)/\ ∀i∈Region.ready .any ops listed,wpOp P ops Q i (λa' w'=>(Z.contains i=zU->S w')/\Ms P ops Q S Z fuel (listed.setIfInBounds i zW) a' w') a w
def JN{P:w_}{d:Array Oper}{Q:Exit->Act->y_->Prop}{S:y_->Prop}{Z:List Nat}:∀(b:Nat) (c:Array Bool) (a:Act) (w:y_),Ms P d Q S Z b c a w->wpAny P .any d Q b c a w | 0,_,_,_,h=>h | b+1,_,_,_,h=>⟨h.1,λi e=>wpOp_mono (λa' f g=>JN b _ a' f g.2) (h.2 i e)⟩
def GX{S:y_->Prop}{f:Nat}{t:Oper}(L:g[i]?=zY t)(r:∀(j:Nat) (o:Oper) A b,g[j]?=zY o->o.op≠ .select A b)(U:∀c a w,Q (.panic c) (a.put t.dst v) w->Q (.panic c) a w) (V:Z.contains i=zU) (W:∀j,Z.contains j=zW->Mj g f j i=zW):∀(l:Nat) (d:Array Bool) (a:Act) (w:y_),Zac g d->(∀j u,g[j]?=zY u->j≠i->d.getD j zW=zU->(∀e∈u.after,Region.binds .any e=zW->e.on≠i)->t.apart g u=zW)->i∈Region.ready .any g d->YieldsIf P g S t v a->S w->Ms P g Q S Z l (d.setIfInBounds i zW) (a.put t.dst v) w->Ms P g Q S Z (l+1) d a w:=by
 intro l;induction l with|zero=>intro d a w _ _ x I B H;refine⟨λh=>(by rw[h]at x;cases x),λj z=>?_⟩;by_cases m:j=i;{subst m;exact I.wpOp L B ⟨λ_=>B,H⟩};have:=ready_mono z m;rw[H.1]at this;cases this|succ l X=>{
 intro d a w C n x I B H;refine⟨λh=>(by rw[h]at x;cases x),λj z=>?_⟩;by_cases m:j=i;{subst m;exact I.wpOp L B ⟨λ_=>B,H⟩};have J:=H.2 j (ready_mono z m);have⟨s,u,y,D⟩:=mem_ready.1 z;have p:d.getD i zU=zU:=by{have M:=(mem_ready.1 x).1;rcases nA i d.size with N | N;{simp[N]at M ⊢;exact M};simp[mX N]at M};have E:∀e∈u.after,Region.binds .any e=zW->e.on≠i:=λe Y hb O=>by{have J:=D e Y hb;rw[O,p]at J;cases J};have F:Z.contains j=zU:=by{cases hc:Z.contains j with|false=>rfl|true=>exact absurd z (C.not_ready (W j hc) p)};have h2:=wpOp_putIf y (n j u y m s E) (λA b=>r i t A b L) (λA b=>r j u A b y) U I J
 have q:∀k ok,g[k]?=zY ok->k≠i->(d.setIfInBounds j zW).getD k zW=zU->
   (∀e∈ok.after,Region.binds .any e=zW->e.on≠i)->t.apart g ok=zW:=λk ok hk R p T=>by
  refine n k ok hk R ?_ T;by_cases G:j=k
  ·subst G;exact s
  ·rw[getD_set_ne zW G]at p;exact p
 refine wpOp_mono (λa' w' K=>⟨λ_=>K.2.1 F,X (d.setIfInBounds j zW) a' w' (C.put z) q (ready_mono x (Ne.symm m)) K.1 (K.2.1 F) ?_⟩) h2;rw[gS _ _ m];exact K.2.2}
def We(P:w_)(S:Nat->Prop)(Z:List Nat)(H0:Aa)(all:List Oper)(i:Nat)(fr:Fr)(H:Aa)(next:Fr->Aa->Prop):Prop:=match all[i]? with
 | none=>False
 | some o=>match o.guard with
   | some _=>False
   | none=>match Z.contains i with
     | true=>wR P zU (λ_=>True) o fr H λv H'=>Di o.dst fr v λfr'=>next fr' H'
     | false=>wR P zU (λ_=>True) o fr H λv H'=>D_ S H0 H'/\Di o.dst fr v λfr'=>next fr' H'
def heldZ(P:w_)(S:Nat->Prop)(Z:List Nat)(H0:Aa)(all:List Oper)(s:Sch):Fr->Aa->(Fr->Aa->Prop)->Prop:=Sch.rec (motive:=λ_=>Fr->Aa->(Fr->Aa->Prop)->Prop) (λfr H K=>K fr H)
  (λi _ ih fr H K=>match all[i]? with
   | none=>False
   | some o=>match o.guard with
     | some _=>False
     | none=>match On o&&HX P o with
       | true=>Rg P S o fr H λv=>Di o.dst fr v λfr'=>ih fr' H K
       | false=>False)
  (λi _ ih fr H K=>We P S Z H0 all i fr H λfr' H'=>ih fr' H' K)
  (λi _ j _ ih ih' fr H K=>(We P S Z H0 all i fr H λfr' H'=>ih fr' H' K)/\We P S Z H0 all j fr H λfr' H'=>ih' fr' H' K) s
def AhS(P:w_)(S:Nat->Prop)(Z:List Nat)(H0:Aa)(all:List Oper)(i:Nat)(s:Sch)(fr:Fr)(H:Aa)(K:Fr->Aa->Prop):heldZ P S Z H0 all (.q i s) fr H K=(match all[i]? with | none=>False | some o=>match o.guard with | some _=>False | none=>match On o&&HX P o with | true=>Rg P S o fr H λv=>Di o.dst fr v λa=>heldZ P S Z H0 all s a H K | false=>False):=rfl
def mM:Sch->Bool | .e=>zU | .q _ _=>zW | .f _ s=>mM s | .b _ s _ s'=>mM s|| mM s'
def Wm(Z:List Nat):Sch->Bool | .e=>zW | .q _ _=>zU | .f i s=>Z.contains i&&Wm Z s | .b i s j s'=>Z.contains i&&Z.contains j&&Wm Z s&&Wm Z s'
def E4(ops:Array Oper)(Z:List Nat):Sch->Array Bool->Bool | .e,listed=>(Region.ready .any ops listed).isEmpty | .q i s,listed=>(Region.ready .any ops listed).contains i&&Region.free .any ops listed i&& !(Z.contains i)&&(Z.all λz=>Mj ops ops.size z i)&&E4 ops Z s (listed.setIfInBounds i zW)| .f i s,listed=>Region.ready .any ops listed==[i]&&(!(Z.contains i)|| Wm Z s)&&E4 ops Z s (listed.setIfInBounds i zW)| .b i s j s',listed=>Region.ready .any ops listed==[i,j]&&((!(Z.contains i)&& !(Z.contains j))|| (Wm Z s&&Wm Z s'))&&E4 ops Z s (listed.setIfInBounds i zW)&&E4 ops Z s' (listed.setIfInBounds j zW)
def KJ{all:List Oper}{a:Act}{next:Fr->Aa->Prop}(c:At fr a) (l:l_ w0 w) (h:We P S Z w0.heap all i fr w.heap next)(n:∀f a' e,At f a'->l_ w0 e->(Z.contains i=zU->xQ w0 S e)->next f e.heap->N a' e):wpOp P all.toArray Q i N a w:=by
 unfold We at h;split at h;{exact h.elim};rename_i o p;have m:all.toArray[i]?=zY o:=by simpa using p
 split at h;{exact h.elim};rename_i q;have d:Region.wanted o (yielded all.toArray a.tmps)=zW:=by simp[Region.wanted,q]
 unfold wpOp;rw[m];dsimp only;rw[J_ d];split at h;{rename_i r;refine .inl (Oper.wp_mono ?_ (DA c h _));rintro a' e ⟨v,rfl,b,g⟩;rw[Cx]at g;exact n _ _ _ (c.put o.dst v) (l.trans b) (λj=>by rw[r]at j;cases j) g};refine .inl (Oper.wp_mono ?_ (DA c h _));rintro a' e ⟨v,rfl,b,k,g⟩;rw[Cx]at g;exact n _ _ _ (c.put o.dst v) (l.trans b) (λ_=>⟨l.trans b,k⟩) g
def Ge{P:w_}{S:Nat->Prop}{Z:List Nat}{w0:y_}{all:List Oper}{Q:Exit->Act->y_->Prop}(hs:Region.noSelect all.toArray=zW)
  (A:∀c a w,¬Q (.panic c) a w):∀(l:Sch) (d:Array Bool) (fr:Fr) (a:Act) (w:y_) (K:Fr->Aa->Prop),At fr a->l_ w0 w->(Wm Z l=zU->xQ w0 S w)->Zac all.toArray d->
  (∀n a' m,At n a'->l_ w0 m->K n m.heap->Q .normal a' m)->E4 all.toArray Z l d=zW->l.even=zW->
  heldZ P S Z w0.heap all l fr w.heap K->Ms P all.toArray Q (xQ w0 S) Z l.len d a w
 | .e,d,fr,a,w,K,hat,he,_,_,hq,hB,_,h=>⟨by simpa [E4]using hB,hq fr a w hat he h⟩
 | .q i s,d,fr,a,w,K,hat,he,x,hsh,hq,hB,hev,h=>by
   have x:=x rfl;simp only[E4,X',vH,yC]at hB;obtain⟨⟨⟨⟨y,g⟩,N⟩,O⟩,p⟩:=hB;rw[AhS]at h;split at h
   ·exact h.elim
   ·rename_i o R;have B:all.toArray[i]?=zY o:=by simpa using R
    have C:i∈Region.ready .any all.toArray d:=by simpa using y
    split at h
    ·exact h.elim
    ·rename_i T;have z:Region.wanted o (yielded all.toArray a.tmps)=zW:=by simp[Region.wanted,T]
     split at h
     ·have⟨v,U,r⟩:=FC h;rw[Cx]at r;refine GX (v:=v) (f:=all.toArray.size) B (Region.noSelect_spec hs) (λc a' m V=>(A _ _ _ V).elim) N (λj D=>O j (by simpa using D)) s.len d a w hsh (Region.free_spec B g) C
       (.inl ⟨z,λm J=>?_⟩) x ?_
      ·rw[hat.evalF];exact U m λk r=>(J.2 k r).trans (x.2 k r).symm
      ·exact Ge hs A s _ _ _ w K (hat.put o.dst v) he (λ_=>x) (hsh.put C) hq p hev r
     ·exact h.elim
 | .f i s,d,fr,a,w,K,hat,he,x,hsh,hq,hB,hev,h=>by
   simp only[E4,X',vU,vH,beq_iff_eq]at hB;obtain⟨⟨y,g⟩,p⟩:=hB;refine⟨(λE=>by rw[y]at E;cases E),λj D=>?_⟩;have L:=D;rw[y]at D;obtain rfl:j=i:=by simpa using D
   refine KJ hat he h λn a' m F G t H=>⟨t,Ge hs A s _ _ _ m K F G (λu=>?_) (hsh.put L) hq p hev H⟩;rcases g with g | g
   ·exact t g
   ·rw[g]at u;cases u
 | .b i s j s',d,fr,a,w,K,hat,he,x,hsh,hq,hB,hev,h=>by
   simp only[E4,X',vU,vH,beq_iff_eq]at hB;obtain⟨⟨⟨y,g⟩,p⟩,M⟩:=hB;simp only[Sch.even,X',beq_iff_eq]at hev;obtain⟨⟨W,e2⟩,X⟩:=hev;refine⟨(λE=>by rw[y]at E;cases E),λk r=>?_⟩;have I:=r;rw[y]at r;rcases zM.1 r with rfl | r
   ·refine KJ hat he h.1 λn a' m F G t H=>⟨t,Ge hs A s _ _ _ m K F G (λu=>?_) (hsh.put I) hq p W H⟩;rcases g with g | g
    ·exact t g.1
    ·rw[g.1]at u;cases u
   ·obtain rfl:k=j:=by simpa using r
    rw[X];refine KJ hat he h.2 λn a' m F G t H=>⟨t,Ge hs A s' _ _ _ m K F G (λu=>?_) (hsh.put I) hq M e2 H⟩;rcases g with g | g
    ·exact t g.2
    ·rw[g.2]at u;cases u
def Ap.heldZ{l:List Oper}{K:Fr->Aa->Prop}(S:Nat->Prop)(Z:List Nat)(b:Sch)(g:P.follows .mixedOrders=zW)(c:(Region.noSelect l.toArray&&(b.len==l.length)&&b.even&&E4 l.toArray Z b (ApF l.length zU))=zW)(h:YtelngokgpnphfaaGreatDoor.heldZ P S Z H l b fr H K):Ap P l fr H K:=by refine⟨?_⟩;intro id Q a w d i k m;subst i;simp only[X',beq_iff_eq]at c;refine wp_region_any g (JN (S:=xQ w S) (Z:=Z) _ _ _ _ ?_);have e:Zac l.toArray (ApF l.length zU):=λj o _ f=>by{rw[Array.getD_eq_getD_getElem?,Array.getElem?_replicate]at f;split at f<;>simp at f};have:=Ge (P:=P) (S:=S) (Z:=Z) (w0:=w) (Q:=Q) c.1.1.1 k b (ApF l.length zU) fr a {w with drawn:=w.drawn+1} K d ⟨rfl,rfl,rfl⟩ (λ_=>⟨⟨rfl,rfl,rfl⟩,D_.refl _ _⟩) e m c.2 c.1.2 h;rw[c.1.1.2]at this;simpa using this
structure Hg(P:w_)(t kt et:x_)(z:v_):Prop where
 under:P.underlying t=zY (.map kt et)
 zero:(P.info? et).bind (·.zero)=zY z
structure Ir(P:w_)(kt:x_){α:Type}(Ok:α->Prop)(enc:α->v_):Prop where
 inj:∀a b,enc a=enc b->a=b
 check:∀(w:y_) (em:Bool) (a:α),Ok a->(Instr.checkKey em 10000 kt (enc a)).run P w= .ok () w
 find:∀(w:y_) (a:α),Ok a->∀es:List MapEntry,(∀e∈es,∃b,Ok b/\e.key=enc b)->
  ((Instr.findKey kt (enc a) es).run P w= .ok zV w/\∀e∈es,e.key≠enc a)\/∃j e,(Instr.findKey kt (enc a) es).run P w= .ok (zY (j,e.val)) w/\es[j]?=zY e/\e.key=enc a
 stays:∀(w:y_) (a:α),Ok a->(Instr.keyThatStays (enc a) (enc a)).run P w= .ok (enc a) w
section
variable{α:Type}
def Ir.ofLaw{Ok:α->Prop}{enc:α->v_}(h:WideMaps.KeyLaw P kt)(g:∀a b,enc a=enc b->a=b)(d:∀a,Ok a->∃l,keyOf P kt (enc a)=zY l):Ir P kt Ok enc:=⟨g,λw i a c=>let⟨_,e⟩:=d a c;h.check w i e,λw a c j f=>let⟨_,e⟩:=d a c;h.find w e j λx k=>by
   have⟨b,m,e⟩:=f x k;rw[e];exact d b m,
  λw a c=>let⟨_,e⟩:=d a c;h.stays w e⟩
def HM(Ok:α->Prop)(enc:α->v_)(H:Aa)(b:Nat)(m:α->Option v_):Prop:=Ux enc H b m/\∀a v,m a=zY v->Ok a
def iS(Ok:α->Prop)(enc:α->v_)(H:Aa)(K:Aa->Prop)(b:Nat)(m:α->Option v_):Prop:=∀H',HM Ok enc H' b m->D_ (λk=>k≠b) H H'->H'.size=H.size->K H'
def HM.agr{Ok:α->Prop}{enc:α->v_}{m:α->Option v_}(h:HM Ok enc H b m)(k:D_ S H H')(a:S b):HM Ok enc H' b m:=⟨h.1.agr k a,h.2⟩
def Q4{Ok:α->Prop}{m:α->Option v_}{a:α}(h:∀a v,m a=zY v->Ok a)(e:Ok a)(v:v_):∀b u,put m a (zY v) b=zY u->Ok b:=λb u d=>by
 by_cases c:b=a
 ·rw[c];exact e
 ·rw[GA c]at d;exact h b u d
def Jo{Ok:α->Prop}{enc:α->v_}{m:α->Option v_}{a:α}(o:Ir P kt Ok enc)(r:Ok a)(g:∀a v,m a=zY v->Ok a)(c:∀(i:Nat) (x:MapEntry),es[i]?=zY x->∃a,x.key=enc a/\m a=zY x.val)(s:∀a v,m a=zY v->∃(i:Nat) (x:MapEntry),es[i]?=zY x/\x.key=enc a/\x.val=v)(w:y_):((Instr.findKey kt (enc a) es.toList).run P w= .ok zV w/\m a=zV/\∀x∈es.toList,x.key≠enc a)\/∃j e,(Instr.findKey kt (enc a) es.toList).run P w= .ok (zY (j,e.val)) w/\es[j]?=zY e/\e.key=enc a/\m a=zY e.val:=by
 have d:∀x∈es.toList,∃b,Ok b/\x.key=enc b:=λx h=>by{have⟨i,t⟩:=xB h;have⟨b,k,e2⟩:=c i x (by simpa using t);exact⟨b,g b _ e2,k⟩};rcases o.find w a r es.toList d with⟨l,f⟩ | ⟨j,e,l,f,p⟩;{refine .inl ⟨l,?_,f⟩;cases n:m a with|none=>rfl|some v=>obtain⟨i,x,h,u,_⟩:=s a v n;exact absurd u (f x (d_ (by simpa using h)))};have q:es[j]?=zY e:=by simpa using f
 refine .inr ⟨j,e,l,q,p,?_⟩;have⟨a',k,e2⟩:=c j e q;rw[o.inj a a' (p.symm.trans k)];exact e2
def Xh{Ok:α->Prop}{enc:α->v_}{et:x_}{m:α->Option v_}{a:α}(d:Hg P t kt et z)(f:Ir P kt Ok enc)(g:Ok a)(h:HM Ok enc H b m)(o:S b)(k:K ((m a).getD z)):AH P (Instr.lookup t (.map (zY b)) (enc a) zU) S H K:=by obtain⟨⟨x,i,p,y,q,r⟩,l⟩:=h;refine AH.mk _ (λw s=>?_) k;have c:=(s b o).trans p;rcases Jo f g l q r w with⟨n,e2,u⟩ | ⟨j,e,n,e2,u,v⟩;{simp[Instr.lookup,run_underlying d.under,Go.MapKept.run_getObj_map c,f.check w _ a g,n,QZ d.zero,e2]};simp[Instr.lookup,run_underlying d.under,Go.MapKept.run_getObj_map c,f.check w _ a g,n,v]
def IM{Ok:α->Prop}{enc:α->v_}{et:x_}{m:α->Option v_}{a:α}(d:Hg P t kt et z)(f:Ir P kt Ok enc)(g:Ok a)(h:HM Ok enc H b m)(o:S b)(k:K (.tuple #[(m a).getD z,.bool (m a).isSome])):AH P (Instr.lookup t (.map (zY b)) (enc a) zW) S H K:=by obtain⟨⟨x,i,p,y,q,r⟩,l⟩:=h;refine AH.mk _ (λw s=>?_) k;have c:=(s b o).trans p;rcases Jo f g l q r w with⟨n,e2,u⟩ | ⟨j,e,n,e2,u,v⟩;{simp[Instr.lookup,run_underlying d.under,Go.MapKept.run_getObj_map c,f.check w _ a g,n,QZ d.zero,e2]};simp[Instr.lookup,run_underlying d.under,Go.MapKept.run_getObj_map c,f.check w _ a g,n,v]
def K1{enc:α->v_}{m:α->Option v_}{a:α}(n:∀a b,enc a=enc b->a=b){d:Nat}(hs:Go.MapKept.Stamped es d)(z:∀(i:Nat) (x:MapEntry),es[i]?=zY x->∃a,x.key=enc a/\m a=zY x.val)(A:∀a v,m a=zY v->∃(i:Nat) (x:MapEntry),es[i]?=zY x/\x.key=enc a/\x.val=v){e:MapEntry}(l:es[j]?=zY e)(s:e.key=enc a){f:MapEntry->MapEntry}(g:(f e).key=enc a) (o:(f e).val=v) (p:∀x,(f x).born=x.born) (y:H'[b]?=zY (.map (es.modify j f) d)):Ux enc H' b (put m a (zY v))/\Jc enc H' b a e.born:=by have q:∀i x,(es.modify j f)[i]?=zY x->(i≠j/\es[i]?=zY x)\/(i=j/\x=f e):=by{intro i x c;rw[qL]at c;by_cases u:j=i;{subst u;rw[J_ rfl,l]at c;exact .inr ⟨rfl,by cases c;rfl⟩};rw[I_ u]at c;exact .inl ⟨Ne.symm u,c⟩};refine⟨⟨_,_,y,Go.MapKept.stamped_modify hs _ _ (λx _=>p x) (λx _ c=>?_),λi x c=>?_,λa' B t=>?_⟩,_,_,y,λi x c=>?_⟩;{rw[l]at c;cases c;rw[g,s]};{rcases q i x c with⟨k,c⟩ | ⟨_,rfl⟩;{have⟨a',r,e2⟩:=z i x c;have:a'≠a:=λh=>k (Gu hs c l (by rw[r,h,s]));exact⟨a',r,by rw[GA this];exact e2⟩};exact⟨a,g,by rw[D8,o]⟩};{by_cases w:a'=a;{subst w;rw[D8]at t;cases t;exact⟨j,f e,by rw[qL,J_ rfl,l]<;>rfl,g,o⟩};rw[GA w]at t;have⟨i,x,c,r,e2⟩:=A a' B t;refine⟨i,x,?_,r,e2⟩;rw[qL,I_ ?_];{exact c};rintro rfl;rw[l]at c;cases c;exact w (n _ _ (r.symm.trans s))};rcases q i x c with⟨k,c⟩ | ⟨_,rfl⟩;{exact⟨λh=>absurd (JI hs c l h) k,λh=>absurd (Gu hs c l (h.trans s.symm)) k⟩};exact⟨λ_=>g,λ_=>p e⟩
def AoE{Ok:α->Prop}{enc:α->v_}{et:x_}{m:α->Option v_}{a:α}(y:Hg P t kt et z)(l:Ir P kt Ok enc)(g:Ok a)(h:HM Ok enc H b m){K:Aa->Prop}(k:iS Ok enc H K b (put m a (zY v))):Co P (Instr.mapUpdate t (.map (zY b)) (enc a) v) H K:=by obtain⟨⟨n,c,i,A,p,q⟩,d⟩:=h;refine Co.mk λw B=>?_;subst B;rcases Jo l g d p q w with⟨r,e2,o⟩ | ⟨j,e,r,e2,o,C⟩;{have⟨s,u,x⟩:=KC (o':=.map (n.push ⟨enc a,v,c⟩) (c+1)) i;exact⟨VS w b (.map (n.push ⟨enc a,v,c⟩) (c+1)),by simp[Instr.mapUpdate,run_underlying y.under,Go.MapKept.run_getObj_map i,l.check w _ a g,r,Go.MapKept.run_setObj_map _ i],⟨rfl,rfl,rfl⟩,k _ ⟨(VE A p q o s).1,Q4 d g v⟩ u x⟩};have⟨s,u,x⟩:=KC (o':=.map (n.modify j λe=>{e with key:=enc a,val:=v}) c) i;exact⟨VS w b (.map (n.modify j λe=>{e with key:=enc a,val:=v}) c),by simp[Instr.mapUpdate,run_underlying y.under,Go.MapKept.run_getObj_map i,l.check w _ a g,r,Go.MapKept.run_setObj_map _ i,e2,o,l.stays w a g],⟨rfl,rfl,rfl⟩,k _ ⟨(K1 l.inj A p q e2 o (f:=λe=>{e with key:=enc a,val:=v}) rfl rfl (λ_=>rfl) s).1,Q4 d g v⟩ u x⟩
def Ai8{Ok:α->Prop}{enc:α->v_}{et:x_}{m:α->Option v_}{a:α}(q:Hg P t kt et z)(l:Ir P kt Ok enc)(g:Ok a)(h:HM Ok enc H b m){K:v_->Aa->Prop}(k:∀H' s,HM Ok enc H' b (put m a (zY ((m a).getD z)))->Jc enc H' b a s->D_ (λk=>k≠b) H H'->H'.size=H.size->K (.tuple #[(m a).getD z,A_ s]) H'):B0 P (Instr.mapEntry t (.map (zY b)) (enc a)) H K:=by obtain⟨⟨o,c,i,C,r,u⟩,d⟩:=h;refine B0.mk λw E=>?_;subst E;rcases Jo l g d r u w with⟨x,e2,p⟩ | ⟨j,e,x,e2,p,D⟩;{have⟨y,A,B⟩:=KC (o':=.map (o.push ⟨enc a,z,c⟩) (c+1)) i;have n:=VE C r u p y;refine⟨.tuple #[z,A_ c],VS w b (.map (o.push ⟨enc a,z,c⟩) (c+1)),by simp[Instr.mapEntry,run_underlying q.under,Go.MapKept.run_getObj_map i,l.check w _ a g,x,Go.MapKept.run_setObj_map _ i,QZ q.zero,goInt],⟨rfl,rfl,rfl⟩,?_⟩;have:=k _ c (by rw[e2];exact⟨n.1,Q4 d g z⟩) n.2 A B;rw[e2]at this;exact this};have⟨y,A,B⟩:=KC (o':=.map (o.modify j λe=>{e with key:=enc a}) c) i;have n:=K1 l.inj C r u e2 p (f:=λe=>{e with key:=enc a}) (v:=e.val) rfl rfl (λ_=>rfl) y;refine⟨.tuple #[e.val,A_ (e.born:Int)],VS w b (.map (o.modify j λe=>{e with key:=enc a}) c),by simp[Instr.mapEntry,run_underlying q.under,Go.MapKept.run_getObj_map i,l.check w _ a g,x,Go.MapKept.run_setObj_map _ i,e2,p,l.stays w a g,goInt],⟨rfl,rfl,rfl⟩,?_⟩;have:=k _ e.born (by rw[D];exact⟨n.1,Q4 d g e.val⟩) n.2 A B;rw[D]at this;exact this
def AiD{Ok:α->Prop}{enc:α->v_}{m:α->Option v_}{a:α}{u:x_}(I:Ir P kt Ok enc)(J:Ok a)(h:HM Ok enc H b m){s:Nat}(hs:Jc enc H b a s)(q:(m a).isSome=zW){K:Aa->Prop}(k:iS Ok enc H K b (put m a (zY v))):Co P (Instr.entryStore u (.map (zY b)) (.int .i64 (s:Int)) v) H K:=by obtain⟨⟨d,c,o,E,L,F⟩,r⟩:=h;have⟨M,p,g,N⟩:=hs;rw[o]at g;cases g;refine Co.mk λw O=>?_;subst O;have⟨Q,t⟩:=rJ.1 q;have⟨i,x,l,y,V⟩:=F a Q t;have G:=(N i x l).2 y;have z:d.findIdx? (λe=>(e.born:Int)==(s:Int))=zY i:=by{rw[Array.findIdx?_eq_some_iff_getElem];have A:=(vM.1 l).1;have B:d[i]=x:=(vM.1 l).2;refine⟨A,by simp[B,G],λj R=>?_⟩;have C:d[j]?=zY d[j]:=uD zO;intro D;have n:d[j].born=s:=by{have:(d[j].born:Int)=(s:Int):=by{simpa using D};omega};have:=JI E C l (n.trans G.symm);omega};have⟨S,T,U⟩:=KC (o':=.map (d.modify i λe=>{e with val:=v}) c) o;exact⟨VS w b (.map (d.modify i λe=>{e with val:=v}) c),by simp[Instr.entryStore,Go.MapKept.run_getObj_map o,asInt,asIntOf,z,Go.MapKept.run_setObj_map _ o],⟨rfl,rfl,rfl⟩,k _ ⟨(K1 I.inj E L F l y (f:=λe=>{e with val:=v}) y rfl (λ_=>rfl) S).1,Q4 r J v⟩ T U⟩
def Mi{Ok:α->Prop}{enc:α->v_}{K:v_->Aa->Prop}(k:∀b H',b=H.size->H'.size=b+1->HM Ok enc H' b (λ_=>zV)->D_ (λk=>k<b) H H'->K (.map (zY b)) H'):B0 P (Instr.makeMap t zV) H K:=AoC λb H' c d e f=>k b H' c d ⟨e,λa v h=>by cases h⟩ f
def JY(Ok:α->Prop)(enc:α->v_)(H:Aa)(b r:Nat)(m:α->Option v_)(D:α->Prop)(last:Option α)(n:Nat):Prop:=(∃es clock seen,H[b]?=zY (.map es clock)/\Go.MapKept.Stamped es clock/\(∀(i:Nat) (x:MapEntry),es[i]?=zY x->∃a,x.key=enc a/\m a=zY x.val)/\
  (∀a v,m a=zY v->∃(i:Nat) (x:MapEntry),es[i]?=zY x/\x.key=enc a/\x.val=v)/\H[r]?=zY (.mapIter (zY b) clock seen clock)/\
  (∀(i:Nat) (x:MapEntry) (a:α),es[i]?=zY x->x.key=enc a->(seen.contains x.born=zW↔D a))/\n=(leftOf es seen).size/\
  ∀a,last=zY a->∃(e:MapEntry) (s0:Array Nat),e∈es.toList/\e.key=enc a/\seen=s0.push e.born)/\(∀a v,m a=zY v->Ok a)
def JY.agr{Ok:α->Prop}{enc:α->v_}{r:Nat}{m:α->Option v_}{D:α->Prop}{last:Option α}(h:JY Ok enc H b r m D last n)(k:D_ S H H')(d:S b)(e:S r):JY Ok enc H' b r m D last n:=by obtain⟨⟨f,a,c,g,i,j,l,o,p⟩,q⟩:=h;exact⟨⟨f,a,c,(k b d).trans g,i,j,l,(k r e).trans o,p⟩,q⟩
def JY.map{Ok:α->Prop}{enc:α->v_}{r:Nat}{m:α->Option v_}{D:α->Prop}{last:Option α}(h:JY Ok enc H b r m D last n):HM Ok enc H b m:=by obtain⟨⟨d,a,c,e,f,g,i,k,l⟩,j⟩:=h;exact⟨⟨d,a,e,f,g,i⟩,j⟩
end
def ZT(es:Array MapEntry)(a:Array Nat){e:MapEntry}(d:e∈(leftOf es a).toList):(leftOf es (a.push e.born)).size<(leftOf es a).size:=by
 have b:leftOf es (a.push e.born)=(leftOf es a).filter λx=> !(x.born==e.born):=by{unfold leftOf;rw[Array.filter_filter];congr 1;funext x;rw[gT];cases b:a.contains x.born<;>cases c:x.born==e.born<;>simp_all};have c:((leftOf es a).filter λx=> !(x.born==e.born)).size=((leftOf es a).toList.filter λx=> !(x.born==e.born)).length:=by rw[<-gU,sJ]
 rw[b,c,<-sJ];exact List.length_filter_lt_length_iff_exists.2 ⟨e,d,zZ⟩
section
variable{α:Type}
def Am8{Ok:α->Prop}{enc:α->v_}{et:x_}{m:α->Option v_}(g:Hg P t kt et z)(h:HM Ok enc H b m){K:v_->Aa->Prop}(k:∀r n H',r=H.size->H'.size=r+1->JY Ok enc H' b r m (λ_=>False) zV n->D_ (λk=>k<H.size) H H'->K (U_ r) H'):B0 P (Instr.range t (.map (zY b))) H K:=by obtain⟨⟨f,c,d,j,l,o⟩,e⟩:=h;refine B0.mk λw p=>?_;subst p;have q:b<w.heap.size:=(vM.1 d).1;refine⟨_,w.alloc (.mapIter (zY b) c #[] c),by simp[Instr.range,run_underlying g.under,Go.MapKept.run_getObj_map d],⟨rfl,rfl,rfl⟩,k w.heap.size (leftOf f #[]).size _ rfl (by rw[Hj];simp) ⟨⟨f,c, #[],?_,j,l,o,by rw[Hj];simp,λi x a s u=>zZ,rfl,λa h=>by cases h⟩,e⟩ (EC _ _)⟩;rw[Hj,oX,I_ zO];exact d
def AoD{Ok:α->Prop}{enc:α->v_}{r:Nat}{m:α->Option v_}{D:α->Prop}{last:Option α}{ty:x_}(T:∀a b,enc a=enc b->a=b)(h:JY Ok enc H b r m D last n){K:v_->Aa->Prop}(U:(∀a,(m a).isSome=zW->D a)->K (.tuple #[.bool zU]) H)(V:∀a v H' n',m a=zY v->¬D a->n'<n->JY Ok enc H' b r m (λx=>D x\/x=a) (zY a) n'->D_ (λk=>k≠r) H H'->H'.size=H.size->K (.tuple #[.bool zW,enc a,v]) H'):B0 P (Instr.next (U_ r) zU ty) H K:=by
 obtain⟨⟨q,c,d,G,C,Q,R,E,I,W,h8⟩,J⟩:=h;refine B0.mk λw X=>?_;subst X;have L:b≠r:=by{rintro rfl;rw[G]at E;cases E};have u:∀x,x∈(leftOf q d).toList↔x∈q.toList/\d.contains x.born=zU:=λx=>by{unfold leftOf;rw[gU,zP,vH]};rcases run_next_at (P:=P) w ty r b c c d q c E G C.1 (M_ _)with⟨Y,e2⟩ | ⟨e,S,F,y,e2⟩;{refine⟨_,w,e2,l_.refl w,U λa Z=>?_⟩;have⟨v,hv⟩:=rJ.1 Z;obtain⟨i,x,p,s,-⟩:=R a v hv;refine(I i x a p s).1 ?_;cases hs:d.contains x.born with|true=>rfl|false=>have:=(u x).2 ⟨d_ (i:=i) (by simpa using p),hs⟩;have h0:(leftOf q d).toList=[]:=uO (by rw[sJ];exact Y);rw[h0]at this;cases this};have⟨z,A⟩:=(u e).1 S;have⟨j,hj⟩:=xB z;have g:q[j]?=zY e:=by simpa using hj
 have⟨a,l,M⟩:=Q j e g;have N:¬D a:=λhd=>by{rw[(I j e a g l).2 hd]at A;cases A};have B:F.heap=w.heap:=by rcases y with rfl | rfl<;>rfl
 have o:l_ w F:=by rcases y with rfl | rfl<;>exact⟨rfl,rfl,rfl⟩
 have O:r<w.heap.size:=(vM.1 E).1;have f:(Go.ChangeMaps.setBlock F r (.mapIter (zY b) c (d.push e.born) c)).heap=w.heap.setIfInBounds r (.mapIter (zY b) c (d.push e.born) c):=by{show F.heap.setIfInBounds r _=_;rw[B]};refine⟨_,_,e2,⟨o.os,o.tape,o.output⟩,?_⟩;rw[l];refine V a e.val _ _ M N (W ▸ ZT q d S) ⟨⟨q,c,d.push e.born,?_,C,Q,R,?_,λi x a' p s=>?_,rfl,λa' t=>?_⟩,J⟩ ?_ ?_;{rw[f,gR (Ne.symm L)];exact G};{rw[f,Array.getElem?_setIfInBounds_self_of_lt O]};{rw[gT,vU,I i x a' p s,beq_iff_eq];refine or_congr Iff.rfl ⟨λhb=>?_,λt=>?_⟩;{obtain rfl:=JI C p g hb;rw[g]at p;cases p;exact T _ _ (s.symm.trans l)};subst t;obtain rfl:=Gu C p g (s.trans l.symm);rw[g]at p;cases p;rfl};{cases t;exact⟨e,d,z,l,rfl⟩};{rw[f];exact λk s=>gR (Ne.symm s)};rw[f];simp
def gH{Ok:α->Prop}{enc:α->v_}{r:Nat}{m:α->Option v_}{D:α->Prop}{a:α}(h:JY Ok enc H b r m D (zY a) n)(I:∀a b,enc a=enc b->a=b)(u:m a=zY v){K:v_->Aa->Prop}(k:K (.tuple #[enc a,v]) H):B0 P (Instr.entry (U_ r)) H K:=by
 obtain⟨⟨o,c,p,y,q,J,z,A,L,M,B⟩,C⟩:=h;obtain⟨e,E,s,t,rfl⟩:=B a rfl;refine B0.mk λw F=>?_;subst F;have⟨i,x,f,g,l⟩:=z a v u;have⟨j,G⟩:=xB s;have d:o[j]?=zY e:=by simpa using G
 obtain rfl:=Gu q f d (g.trans t.symm);rw[d]at f;cases f;refine⟨_,w,run_entry_at w r b c E o c e A y s q.2.1,l_.refl w,?_⟩;rw[t,l];exact k
def kD{Ok:α->Prop}{enc:α->v_}{et:x_}{m:α->Option v_}{vt:x_}(n:Hg P t kt et z)(h:HM Ok enc H b m)(o:S b)(k:∀c:Nat,(c=0↔∀a,m a=zV)->K (.int .i64 (c:Int))):AH P (Builtin.len_ #[t] vt [.map (zY b)].toArray) S H K:=by obtain⟨⟨j,d,p,B,q,r⟩,s⟩:=h;refine AH.mk _ (λw u=>?_) (k j.size ⟨λl a=>?_,λl=>?_⟩);{have f:=(u b o).trans p;simp[Builtin.len_,run_underlying n.under,Go.MapKept.run_getObj_map f,goInt]};{cases g:m a with|none=>rfl|some v=>obtain⟨i,x,y,-⟩:=r a v g;have:=(vM.1 y).1;omega};apply Classical.byContradiction;intro A;obtain⟨a,-,e⟩:=q 0 j[0] (uD zO);rw[l a]at e;cases e
def xN(Ok:α->Prop)(enc:α->v_)(b:Nat)(m:α->Option v_):Pc:=⟨λk=>k=b,λH=>HM Ok enc H b m,λh hp=>hp.agr h rfl⟩
def tN(Ok:α->Prop)(enc:α->v_)(b r:Nat)(m:α->Option v_)(D:α->Prop)(last:Option α)(n:Nat):Pc:=⟨λk=>k=b\/k=r,λH=>JY Ok enc H b r m D last n,λh hp=>hp.agr h (.inl rfl) (.inr rfl)⟩
def B_.mapW{Ok:α->Prop}{enc:α->v_}{m:α->Option v_}(a:B_ B H0 H ps)(i:Nat)(c:ps[i]?=zY (xN Ok enc b m)):HM Ok enc H b m:=a.at_ i c
def B_.iterW{Ok:α->Prop}{enc:α->v_}{r:Nat}{m:α->Option v_}{D:α->Prop}{last:Option α}(a:B_ B H0 H ps)(i:Nat)(c:ps[i]?=zY (tN Ok enc b r m D last n)):JY Ok enc H b r m D last n:=a.at_ i c
def B_.mapNewW{Ok:α->Prop}{enc:α->v_}(c:B_ B H0 H ps)(d:b=H.size)(hs:H'.size=b+1)(e:HM Ok enc H' b (λ_=>zV))(f:D_ (λk=>k<b) H H'):B_ B H0 H' (ps++[xN Ok enc b λ_=>zV]):=by subst d;exact c.add (f.mono λk a=>a) _ e λk a=>by have:k=H.size:=a;omega
def K3{Ok:α->Prop}{enc:α->v_}{m m':α->Option v_}{et:x_}{a:α}{K:Aa->Prop}(d:B_ B H0 H ps)(i:Nat)(l:Hg P t kt et z)(c:Ir P kt Ok enc)(n:Ok a)(e:ps[i]?=zY (xN Ok enc b m))(o:put m a (zY v)=m')(k:∀H',B_ B H0 H' (ps.set i (xN Ok enc b m'))->K H'):Co P (Instr.mapUpdate t (.map (zY b)) (enc a) v) H K:=by refine AoE l c n (d.mapW i e) ?_;intro H' f g h;subst o;exact k H' (d.upd i e (g.mono λk c j=>c.2 j) _ f (λk c=>.inl c) (λk c=>by rw[h];exact(d.in_ i e c).2) zO)
def YO{Ok:α->Prop}{enc:α->v_}{m:α->Option v_}{et:x_}{K:v_->Aa->Prop}(c:B_ B H0 H ps)(i:Nat)(e:Hg P t kt et z)(d:ps[i]?=zY (xN Ok enc b m))(k:∀r n H',B_ B H0 H' (ps.set i (tN Ok enc b r m (λ_=>False) zV n))->K (U_ r) H'):B0 P (Instr.range t (.map (zY b))) H K:=by refine Am8 e (c.mapW i d) λr n H' f hs g h=>?_;subst f;have j:=(c.in_ i d (k:=b) rfl).2;refine k _ n H' (c.upd i d (h.mono λk a=>a.1) _ g (λk a=>?_) (λk a=>?_) zO);{rcases a with a | a;{exact .inl a};exact .inr zO};rcases a with rfl | rfl<;>omega
def jZ{Ok:α->Prop}{enc:α->v_}{r:Nat}{m:α->Option v_}{D:α->Prop}{last:Option α}{ty:x_}{K:v_->Aa->Prop}(d:B_ B H0 H ps)(i:Nat)(g:∀a b,enc a=enc b->a=b)(e:ps[i]?=zY (tN Ok enc b r m D last n))(h:(∀a,(m a).isSome=zW->D a)->K (.tuple #[.bool zU]) H)(j:∀a v H' n',m a=zY v->¬D a->n'<n->B_ B H0 H' (ps.set i (tN Ok enc b r m (λx=>D x\/x=a) (zY a) n'))->K (.tuple #[.bool zW,enc a,v]) H'):B0 P (Instr.next (U_ r) zU ty) H K:=by refine AoD g (d.iterW i e) h λa v H' n' l o p q s t=>j a v H' n' l o p (d.upd i e (s.mono λk c f=>c.2 (.inr f)) _ q (λk c=>.inl c) (λk c=>by rw[t];exact(d.in_ i e c).2) zO)
def B_.iterEnd{Ok:α->Prop}{enc:α->v_}{r:Nat}{m:α->Option v_}{D:α->Prop}{last:Option α}(a:B_ B H0 H ps)(i:Nat)(c:ps[i]?=zY (tN Ok enc b r m D last n)):B_ B H0 H (ps.set i (xN Ok enc b m)):=a.upd i c (D_.refl _ _) _ (a.iterW i c).map (λk d=>.inl (.inl d)) (λk d=>(a.in_ i c (.inl d)).2) (M_ _)
def GM{T:Ty α}{xs:List α}{t ty q m g:Nat}{ys:List α}{ds:List v_}{K:v_->Aa->Prop}(r:B_ B H0 H ps)(i:Nat)(v:SlT P t e T.size by_ z)(s:ps[i]?=zY (pS T e a n cap xs))(w:Bi H q o ds) (x:T.reps none_ H ds ys) (y:m=ys.length) (A:∀u∈ds,u.oneCell'=zW) (l:xs.length+ys.length<=maxLen) (hby:(xs.length+ys.length)*by_<=140737488355328)(k:∀a' c H',B_ B H0 H' (ps.set i (pS T e a' (xs.length+ys.length) c (xs++ys)))->D_ (λk=>k<H.size/\¬Q_ (.slice a n cap) k) H H'->K (.slice a' (xs.length+ys.length) c) H'):B0 P (Builtin.append_ #[t,t] ty [.slice a n cap,.slice (zY ⟨q,o,zV⟩) m g].toArray) H K:=by refine BN (T:=T) (S:=none_) (lo:=0) v (r.at_ i s).1 (p_ _) (λk b=>b.elim) w x y A l hby ?_;intro D H' d f p j;obtain⟨a',c,rfl⟩:=d.hull;rw[O_]at d j ⊢;refine k a' c H' (r.upd i s (f.mono λk b=>⟨b.1,λC=>b.2 (.inl C)⟩) _ ⟨d,λk b=>b.elim⟩ (λk b=>?_) (λk b=>?_) p) f;{rcases b with b | b;{rcases j k b with h | h;{exact .inl (.inl h)};exact .inr h};exact b.elim};rcases b with b | b;{exact(d.lt b).2};exact b.elim
end
section
variable{α β:Type}
def vG(Ok:α->Prop)(enc:α->v_)(T:Ty β)(e:x_)(b:Nat)(m:α->Option v_)(xs:α->List β):Pc where
 foot k:=k=b\/∃a,Q_ (EG m a) k
 ok H:=HM Ok enc H b m/\(∀a,Z_ T none_ H 0 e (EG m a) (xs a))/\(∀a a' k,a≠a'->Q_ (EG m a) k->¬Q_ (EG m a') k)/\∀a,¬Q_ (EG m a) b
 fr h hp:=⟨hp.1.agr h (.inl rfl),λa=>(hp.2.1 a).agr h (λk hk=>.inr ⟨a,hk⟩) (λ_ hk=>hk.elim),hp.2.2⟩
def B_.mqMap{Ok:α->Prop}{enc:α->v_}{T:Ty β}{m:α->Option v_}{xs:α->List β}(a:B_ B H0 H ps)(i:Nat)(c:ps[i]?=zY (vG Ok enc T e b m xs)):HM Ok enc H b m:=(a.at_ i c).1
def B_.mqView{Ok:α->Prop}{enc:α->v_}{T:Ty β}{m:α->Option v_}{xs:α->List β}(f:B_ B H0 H ps)(i:Nat)(g:ps[i]?=zY (vG Ok enc T e b m xs))(a:α):∃c cap,EG m a= .slice c (xs a).length cap/\Y_ T (H_ H) H c cap (xs a):=by obtain⟨c,cap,h,j,-⟩:=((f.at_ i g).2.1 a).view (S':=H_ H) (λk d=>(f.in_ i g (.inr ⟨a,d⟩)).2) (λ_ d=>d.elim);exact⟨c,cap,h,j⟩
def rC(Ok:α->Prop)(enc:α->v_)(T:Ty β)(e:x_)(b:Nat)(m:α->Option v_)(xs:α->List β)(a:α)(v':v_)(x':List β):Pc where
 foot k:=k=b\/Q_ v' k\/∃c,c≠a/\Q_ (EG m c) k
 ok H:=HM Ok enc H b m/\(m a).isSome=zW/\Z_ T none_ H 0 e v' x'/\(∀c,c≠a->Z_ T none_ H 0 e (EG m c) (xs c))/\(∀c c' k,c≠a->c'≠a->c≠c'->Q_ (EG m c) k->¬Q_ (EG m c') k)/\(∀c k,c≠a->Q_ (EG m c) k->¬Q_ v' k)/\(∀c,c≠a->¬Q_ (EG m c) b)/\¬Q_ v' b
 fr h hp:=⟨hp.1.agr h (.inl rfl),hp.2.1,hp.2.2.1.agr h (λk hk=>.inr (.inl hk)) (λ_ hk=>hk.elim),λc hc=>(hp.2.2.2.1 c hc).agr h (λk hk=>.inr (.inr ⟨c,hc,hk⟩)) (λ_ hk=>hk.elim),hp.2.2.2.2⟩
def Ai7{Ok:α->Prop}{enc:α->v_}{T:Ty β}{m:α->Option v_}{xs:α->List β}{et:x_}{a:α}(l:B_ B H0 H ps)(i:Nat)(v:Hg P t kt et (.slice zV 0 0))(d:Ir P kt Ok enc)(w:Ok a)(n:ps[i]?=zY (vG Ok enc T e b m xs)){K:v_->Aa->Prop}
  (k:∀s m' H',Jc enc H' b a s->D_ (λk=>k≠b) H H'->(∀c,(m' c).isSome=zW↔(m c).isSome=zW\/c=a)->B_ B H0 H' (ps.set i (rC Ok enc T e b m' xs a (EG m a) (xs a)))->K (.tuple #[EG m a,A_ s]) H'):B0 P (Instr.mapEntry t (.map (zY b)) (enc a)) H K:=by have⟨o,h,p,q⟩:=l.at_ i n;refine Ai8 v d w o λH' s x y r z=>?_;have j:∀c,EG (put m a (zY ((m a).getD (.slice zV 0 0)))) c=EG m c:=λc=>by{by_cases f:c=a;{subst f;rw[QG];rfl};{rw[Ui f]}};refine k s _ H' y r (λc=>?_) (l.upd i n (r.mono λk d g=>d.2 (.inl g)) (rC Ok enc T e b (put m a (zY ((m a).getD (.slice zV 0 0)))) xs a (EG m a) (xs a)) ⟨x,by rw[D8];rfl,?_,λc f=>?_,λc A k f C u=>?_,λc k f=>?_,λc f=>?_,q a⟩ (λk d=>?_) (λk d=>?_) zO);{by_cases f:c=a;{subst f;rw[D8];simp};{rw[GA f];simp[f]}};{exact(h a).agr r (λk d g=>q a (g ▸ d)) (λ_ d=>d.elim)};{rw[j];exact(h c).agr r (λk d g=>q c (g ▸ d)) (λ_ d=>d.elim)};{rw[j,j];exact p c A k u};{rw[j];exact p c a k f};{rw[j];exact q c};{refine .inl ?_;rcases d with d | d | ⟨c,-,d⟩;{exact .inl d};{exact .inr ⟨a,d⟩};{rw[j]at d;exact .inr ⟨c,d⟩}};{rw[z];rcases d with d | d | ⟨c,-,d⟩;{exact(l.in_ i n (.inl d)).2};{exact(l.in_ i n (.inr ⟨a,d⟩)).2};{rw[j]at d;exact(l.in_ i n (.inr ⟨c,d⟩)).2}}
def AnG{Ok:α->Prop}{enc:α->v_}{T:Ty β}{m:α->Option v_}{xs:α->List β}{a:α}{ty q l s:Nat}{x:List β}{ys:List β}{ds:List v_}{E:x_}{K:v_->Aa->Prop}(C:B_ B H0 H ps)(i:Nat)(O:SlT P E e T.size by_ z)(D:ps[i]?=zY (rC Ok enc T e b m xs a v x))
  (Q:Bi H q o ds) (R:T.reps none_ H ds ys) (U:l=ys.length) (V:∀u∈ds,u.oneCell'=zW) (F:x.length+ys.length<=maxLen) (hby:(x.length+ys.length)*by_<=140737488355328)
  (k:∀t H',B_ B H0 H' (ps.set i (rC Ok enc T e b m xs a t (x++ys)))->D_ (λk=>k<H.size/\¬Q_ v k) H H'->¬Q_ v b->K t H'):
  B0 P (Builtin.append_ #[E,E] ty [v,.slice (zY ⟨q,o,zV⟩) l s].toArray) H K:=by have⟨w,G,W,y,I,j,J,n⟩:=C.at_ i D;have p:∀c,c≠a->∀k,Q_ (EG m c) k->k<H.size:=λc g k d=>(C.in_ i D (.inr (.inr ⟨c,g,d⟩))).2;have L:b<H.size:=(C.in_ i D (.inl rfl)).2;refine BN (T:=T) (S:=none_) (lo:=0) O W (p_ _) (λk d=>d.elim) Q R U V F hby ?_;intro t H' A f M r;refine k t H' (C.upd i D (f.mono λk d=>⟨d.1,λJ=>d.2 (.inr (.inl J))⟩) (rC Ok enc T e b m xs a t (x++ys)) ⟨w.agr f ⟨L,n⟩,G,A,λc g=>(y c g).agr f (λk d=>⟨p c g k d,j c k g d⟩) (λ_ d=>d.elim),I,λc k g d N=>?_,J,λd=>?_⟩ (λk d=>?_) (λk d=>?_) M) f n;{rcases r k N with h | h;{exact j c k g d h};{have:=p c g k d;omega}};{rcases r b d with h | h;{exact n h};{omega}};{rcases d with d | d | d;{exact .inl (.inl d)};{rcases r k d with h | h;{exact .inl (.inr (.inl h))};{exact .inr h}};{exact .inl (.inr (.inr d))}};{rcases d with d | d | ⟨c,g,d⟩;{have:k=b:=d;omega};{exact(A.lt d).2};{have:=p c g k d;omega}}
def AiC{Ok:α->Prop}{enc:α->v_}{T:Ty β}{m:α->Option v_}{xs:α->List β}{a:α}{u:x_}{s:Nat}{x:List β}{K:Aa->Prop}(o:B_ B H0 H ps)(i:Nat)(d:Ir P kt Ok enc)(E:Ok a)(p:ps[i]?=zY (rC Ok enc T e b m xs a v x))(hs:Jc enc H b a s)
  (k:∀m' H',(∀c,(m' c).isSome=zW↔(m c).isSome=zW)->B_ B H0 H' (ps.set i (vG Ok enc T e b m' (upd xs a x)))->K H'):Co P (Instr.entryStore u (.map (zY b)) (.int .i64 (s:Int)) v) H K:=by have⟨q,r,F,t,A,h,D,w⟩:=o.at_ i p;refine AiD d E q hs r ?_;intro H' C y G;have n:EG (put m a (zY v)) a=v:=QG m a v;have e2:∀c,c≠a->EG (put m a (zY v)) c=EG m c:=λc f=>Ui f;refine k _ H' (λc=>?_) (o.upd i p (y.mono λk d g=>d.2 (.inl g)) (vG Ok enc T e b (put m a (zY v)) (upd xs a x)) ⟨C,λc=>?_,λc z k j=>?_,λc=>?_⟩ (λk d=>?_) (λk d=>?_) zO);{by_cases f:c=a;{subst f;rw[D8];simp[r]};{rw[GA f]}};{by_cases f:c=a;{subst f;rw[n,QU];exact F.agr y (λk d g=>w (g ▸ d)) (λ_ d=>d.elim)};{rw[e2 c f,XI f];exact(t c f).agr y (λk d g=>D c f (g ▸ d)) (λ_ d=>d.elim)}};{by_cases f:c=a;{subst f;rw[n,e2 z (Ne.symm j)];exact λC y=>h z _ (Ne.symm j) y C};{by_cases l:z=a;{subst l;rw[n,e2 c f];exact h c _ f};{rw[e2 c f,e2 z l];exact A c z k f l j}}};{by_cases f:c=a;{subst f;rw[n];exact w};{rw[e2 c f];exact D c f}};{refine .inl ?_;rcases d with d | ⟨c,d⟩;{exact .inl d};{by_cases f:c=a;{subst f;rw[n]at d;exact .inr (.inl d)};{rw[e2 c f]at d;exact .inr (.inr ⟨c,f,d⟩)}}};{rw[G];rcases d with d | ⟨c,d⟩;{exact(o.in_ i p (.inl d)).2};{by_cases f:c=a;{subst f;rw[n]at d;exact(o.in_ i p (.inr (.inl d))).2};{rw[e2 c f]at d;exact(o.in_ i p (.inr (.inr ⟨c,f,d⟩))).2}}}
end
structure I9 where
 ok:Aa->v_->Prop
 fr:∀{S:Nat->Prop} {H H':Aa} {v:v_},D_ S H H'->(∀k,Q_ v k->S k)->ok H v->ok H' v
 lt:∀{H:Aa} {v:v_} {k:Nat},ok H v->Q_ v k->k<H.size
def HQ{α:Type}(T:Ty α)(e:x_)(xs:List α):I9:=⟨λH v=>Z_ T none_ H 0 e v xs,λh hb hv=>hv.agr h hb (λ_ f=>f.elim),λh hk=>(h.lt hk).2⟩
def Um(ss:Nat->I9)(j:Nat)(s:I9):Nat->I9:=λi=>if i=j then s else ss i
def Ja(ss:Nat->I9)(j:Nat)(s:I9):Um ss j s j=s:=J_ rfl
variable{ss:Nat->I9}
def Ly{s:I9}(h:i≠j):Um ss j s i=ss i:=I_ h
def pF(te:x_)(b:Nat)(vs:List v_)(ss:Nat->I9):Pc where
 foot k:=k=b\/∃(i:Nat) (v:v_),vs[i]?=zY v/\Q_ v k
 ok H:=S_ H b te vs/\(∀(i:Nat) (v:v_),vs[i]?=zY v->(ss i).ok H v)/\(∀(i j:Nat) (v w:v_) (k:Nat),i≠j->vs[i]?=zY v->vs[j]?=zY w->Q_ v k->¬Q_ w k)/\∀(i:Nat) (v:v_),vs[i]?=zY v->¬Q_ v b
 fr h hp:=⟨hp.1.agr h (.inl rfl),λi v hv=>(ss i).fr h (λk hk=>.inr ⟨i,v,hv,hk⟩) (hp.2.1 i v hv),hp.2.2⟩
def EL{k:Nat}:¬Q_ (.slice zV 0 0) k:=λ⟨_,_,_,h⟩=>by cases h
def B_.fldNew{te:x_}(e:B_ B H0 H ps)(i:Nat)(f:ps[i]?=zY (pB te b (AnS n (.slice zV 0 0))))(hs:∀j H,(ss j).ok H (.slice zV 0 0)):B_ B H0 H (ps.set i (pF te b (AnS n (.slice zV 0 0)) ss)):=by have d:∀(j:Nat) (v:v_),(AnS n (Value.slice zV 0 0))[j]?=zY v->v= .slice zV 0 0:=λj v c=>by{exact List.eq_of_mem_replicate (d_ c)};refine e.upd i f (D_.refl _ _) (pF te b (AnS n (.slice zV 0 0)) ss) ⟨e.blk i f,λj v c=>by rw[d j v c];exact hs j H,λi j v w k _ c g a=>?_,λj v c a=>?_⟩ (λk a=>?_) (λk a=>?_) (M_ _);{rw[d i v c]at a;exact absurd a EL};{rw[d j v c]at a;exact EL a};{rcases a with a | ⟨j,v,c,a⟩;{exact .inl a};{rw[d j v c]at a;exact absurd a EL}};{rcases a with a | ⟨j,v,c,a⟩;{exact(e.in_ i f a).2};{rw[d j v c]at a;exact absurd a EL}}
def B_.fblk{te:x_}{vs:List v_}(a:B_ B H0 H ps)(i:Nat)(c:ps[i]?=zY (pF te b vs ss)):S_ H b te vs:=(a.at_ i c).1
def B_.fview{α:Type}{T:Ty α}{te:x_}{vs:List v_}{xs:List α}(c:B_ B H0 H ps)(i:Nat)(d:ps[i]?=zY (pF te b vs ss))(g:vs[j]?=zY v)(hs:ss j=HQ T e xs):∃a cap,v= .slice a xs.length cap/\Y_ T (H_ H) H a cap xs:=by have h:=(c.at_ i d).2.1 j v g;rw[hs]at h;obtain⟨a,cap,l,m,-⟩:=Z_.view (S':=H_ H) (h:Z_ T none_ H 0 e v xs) (λk n=>(c.in_ i d (.inr ⟨j,v,g,n⟩)).2) (λ_ f=>f.elim);exact⟨a,cap,l,m⟩
def kP(te:x_)(b:Nat)(vs:List v_)(ss:Nat->I9)(j:Nat)(s:I9)(v':v_):Pc where
 foot k:=k=b\/Q_ v' k\/∃(i:Nat) (v:v_),i≠j/\vs[i]?=zY v/\Q_ v k
 ok H:=S_ H b te vs/\j<vs.length/\s.ok H v'/\(∀(i:Nat) (v:v_),i≠j->vs[i]?=zY v->(ss i).ok H v)/\(∀(i l:Nat) (v w:v_) (k:Nat),i≠j->l≠j->i≠l->vs[i]?=zY v->vs[l]?=zY w->Q_ v k->¬Q_ w k)/\
  (∀(i:Nat) (v:v_) (k:Nat),i≠j->vs[i]?=zY v->Q_ v k->¬Q_ v' k)/\(∀(i:Nat) (v:v_),i≠j->vs[i]?=zY v->¬Q_ v b)/\¬Q_ v' b
 fr h hp:=⟨hp.1.agr h (.inl rfl),hp.2.1,s.fr h (λk hk=>.inr (.inl hk)) hp.2.2.1,λi v hi hv=>(ss i).fr h (λk hk=>.inr (.inr ⟨i,v,hi,hv,hk⟩)) (hp.2.2.2.1 i v hi hv),hp.2.2.2.2⟩
def qV{α:Type}{T:Ty α}{te:x_}{vs:List v_}{xs:List α}{G ty q m y:Nat}{ys:List α}{ds:List v_}{K:v_->Aa->Prop}(D:B_ B H0 H ps)(i:Nat)(Q:SlT P G e T.size by_ z)(E:ps[i]?=zY (pF te b vs ss))(f:vs[j]?=zY v)(hs:ss j=HQ T e xs)
  (R:Bi H q o ds) (U:T.reps none_ H ds ys) (V:m=ys.length) (W:∀u∈ds,u.oneCell'=zW) (I:xs.length+ys.length<=maxLen) (hby:(xs.length+ys.length)*by_<=140737488355328)
  (k:∀x H',B_ B H0 H' (ps.set i (kP te b vs ss j (HQ T e (xs++ys)) x))->D_ (λk=>k<H.size/\¬Q_ v k) H H'->x.oneCell'=zW->K x H'):
  B0 P (Builtin.append_ #[G,G] ty [v,.slice (zY ⟨q,o,zV⟩) m y].toArray) H K:=by have⟨A,g,p,C⟩:=D.at_ i E;have n:=g j v f;rw[hs]at n;have J:=(T_.1 f).1;have L:b<H.size:=(D.in_ i E (.inl rfl)).2;have r:∀(l:Nat) (w:v_),vs[l]?=zY w->∀k,Q_ w k->k<H.size:=λl w c k a=>(D.in_ i E (.inr ⟨l,w,c,a⟩)).2;refine BN (T:=T) (S:=none_) (lo:=0) Q (n:Z_ T none_ H 0 e v xs) (p_ _) (λk a=>a.elim) R U V W I hby ?_;intro x H' s d M t;refine k x H' (D.upd i E (d.mono λk a=>⟨a.1,λC=>a.2 (.inr ⟨j,v,f,C⟩)⟩) (kP te b vs ss j (HQ T e (xs++ys)) x) ⟨A.agr d ⟨L,C j v f⟩,J,s,λl w F c=>(ss l).fr d (λk a=>⟨r l w c k a,p l j w v k F c f a⟩) (g l w c),λl X w Y k _ _ N=>p l X w Y k N,λl w k F c a O=>?_,λl w _ c=>C l w c,λa=>?_⟩ (λk a=>?_) (λk a=>?_) M) d s.one;{rcases t k O with h | h;{exact p l j w v k F c f a h};{have:=r l w c k a;omega}};{rcases t b a with h | h;{exact C j v f h};{omega}};{rcases a with a | a | ⟨l,w,-,c,a⟩;{exact .inl (.inl a)};{rcases t k a with h | h;{exact .inl (.inr ⟨j,v,f,h⟩)};{exact .inr h}};{exact .inl (.inr ⟨l,w,c,a⟩)}};{rcases a with a | a | ⟨l,w,F,c,a⟩;{have:k=b:=a;omega};{exact(s.lt a).2};{have:=r l w c k a;omega}}
def eI{te:x_}{vs:List v_}{s:I9}{K:Aa->Prop}(p:B_ B H0 H ps)(i:Nat)(O:BM P t)(q:ps[i]?=zY (kP te b vs ss j s v))(Q:o=j)(R:v.oneCell'=zW)
  (k:∀H',B_ B H0 H' (ps.set i (pF te b (vs.set j v) (Um ss j s)))->K H'):Co P (Instr.storeAt t (.pointer (zY ⟨b,o,zV⟩)) v) H K:=by subst Q;have⟨r,u,D,x,E,f,N,y⟩:=p.at_ i q;refine uU O r u R ?_;intro H' F h G;have n:∀(l:Nat) (w:v_),(vs.set o v)[l]?=zY w->(l=o/\w=v)\/(l≠o/\vs[l]?=zY w):=λl w a=>by{by_cases d:l=o;{subst d;rw[yQ u]at a;cases a;exact .inl ⟨rfl,rfl⟩};{rw[yX (Ne.symm d)]at a;exact .inr ⟨d,a⟩}};refine k H' (p.upd i q (h.mono λk c e=>c.2 (.inl e)) (pF te b (vs.set o v) (Um ss o s)) ⟨F,λl w a=>?_,λl I w J L z a M c m=>?_,λl w a=>?_⟩ (λk c=>?_) (λk c=>?_) zO);{rcases n l w a with⟨rfl,rfl⟩ | ⟨d,a⟩;{rw[Ja];exact s.fr h (λk c e=>y (e ▸ c)) D};{rw[Ly d];exact(ss l).fr h (λk c e=>N l w d a (e ▸ c)) (x l w d a)}};{rcases n l w a with⟨rfl,rfl⟩ | ⟨d,A⟩<;>rcases n I J M with⟨rfl,rfl⟩ | ⟨C,g⟩;{exact z rfl};{exact f I J L C g m c};{exact f l w L d A c m};{exact E l I w J L d C z A g c m}};{rcases n l w a with⟨rfl,rfl⟩ | ⟨d,a⟩;{exact y};{exact N l w d a}};{refine .inl ?_;rcases c with c | ⟨l,w,a,c⟩;{exact .inl c};{rcases n l w a with⟨rfl,rfl⟩ | ⟨d,a⟩;{exact .inr (.inl c)};{exact .inr (.inr ⟨l,w,d,a,c⟩)}}};{rw[G];rcases c with c | ⟨l,w,a,c⟩;{exact(p.in_ i q (.inl c)).2};{rcases n l w a with⟨rfl,rfl⟩ | ⟨d,a⟩;{exact(p.in_ i q (.inr (.inl c))).2};{exact(p.in_ i q (.inr (.inr ⟨l,w,d,a,c⟩))).2}}}
end Go.Proofs.YtelngokgpnphfaaGreatDoor
