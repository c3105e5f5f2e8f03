import Derived.OrdersHeld
import Derived.Deep.Quiet
import Derived.StillTail
import Derived.Tactics
import Derived.NoCompiler
import Derived.WalkKit
import Derived.Deep.MidRow
import Derived.Deep.AppendSrc
import Derived.DeepKeys
import Derived.Test.YtdopnglgekglgaaGreatDoorProg
import Derived.Laws.Pointers
set_option linter.unusedVariables false
set_option linter.unusedSimpArgs false
set_option linter.defProp false
set_option maxHeartbeats 100000000
open Array renaming ext' → AlH, map → AlM, replicate → AlW
open BitVec renaming allOnes → Am2, ofInt → Am9, twoPow → AmY
open Int renaming reducePow → AlT, ofNat → AmI
open List renaming replicate → AgJ, rec → AlL, range → AlX
open Nat renaming noConfusion → Ag4, reduceSub → AlS, beq → Am8, cast → AmA, reducePow → AnL
set_option maxRecDepth 100000
open Go renaming Value → v_, World → y_, Program → w_, Operand → z_, TypeId → x_
abbrev V_:=@List.mem_singleton
abbrev k_:=@List.length_singleton
abbrev Ya2:=@List.getElem?_eq_getElem
abbrev Ya3:=@List.getElem?_set_self
abbrev Ya4:=@List.getElem?_set_ne
abbrev Ya5:=@List.getD_eq_getElem?_getD
abbrev Ya6:=@List.pairwise_iff_getElem
abbrev Q_:=@List.length_append
abbrev q_:=@List.mem_append
abbrev Ya9:=@List.getElem?_replicate
abbrev YaA:=@List.eq_nil_of_length_eq_zero
abbrev YaB:=@List.take_length
abbrev YaC:=@List.append_assoc
abbrev YaD:=@List.getElem?_append_right
abbrev YaE:=@List.getElem?_eq_none
abbrev YaF:=@List.length_set
abbrev Z_:=@List.length_map
abbrev YaH:=@List.ext_getElem?
abbrev j_:=@List.length_cons
abbrev t_:=@List.getElem?_map
abbrev YaK:=@List.getElem?_append_left
abbrev YaL:=@List.getElem?_cons_succ
abbrev YaM:=@List.getElem?_take
abbrev YaN:=@List.length_take
abbrev YaO:=@List.cons_append
abbrev YaP:=@List.getElem?_set
abbrev YaQ:=@List.map_cons
abbrev YaR:=@List.set_getElem_self
abbrev YaS:=@List.set_append_right
abbrev YaT:=@List.getElem?_of_mem
abbrev YaU:=@List.mem_append_left
abbrev YaV:=@List.take_length_add_append
abbrev YaW:=@List.set_cons_succ
abbrev YaX:=@List.all_eq_false
abbrev YaY:=@List.pairwise_singleton
abbrev YaZ:=@List.all_append
abbrev Yaa:=@Array.getElem?_eq_some_iff
abbrev Yab:=@Array.toArray_toList
abbrev Yac:=@Array.toList_map
abbrev Yad:=@Array.getElem?_eq_getElem
abbrev Yae:=@Array.getElem?_eq_none
abbrev Yaf:=@Array.getElem?_modify
abbrev Yag:=@Array.getElem?_toList
abbrev Yah:=@BitVec.eq_of_getLsbD_eq
abbrev Yai:=@BitVec.getLsbD_or
abbrev Yaj:=@BitVec.getLsbD_allOnes
abbrev Yak:=@BitVec.getLsbD_twoPow
abbrev Yal:=@BitVec.ofInt_natCast
abbrev Yam:=@BitVec.toNat_ofNat
abbrev h_:=@Bool.and_eq_true
abbrev Yao:=@Bool.false_eq_true
abbrev Yap:=@Bool.not_eq_true'
abbrev Yaq:=@Bool.true_and
abbrev Yar:=@Bool.or_eq_true
abbrev Yas:=@Bool.false_and
abbrev Yat:=@Bool.false_or
abbrev Yau:=@Int.toNat_natCast
abbrev Yav:=@Int.eq_ofNat_of_zero_le
abbrev Yaw:=@Int.natCast_inj
abbrev Yax:=@Int.negSucc_lt_zero
abbrev X_:=@List.getElem?_eq_some_iff
abbrev d_:=@List.mem_of_getElem?
abbrev Yb0:=@Nat.eq_of_testBit_eq
abbrev Yb1:=@Nat.lt_or_gt_of_ne
abbrev Yb2:=@Nat.le_of_eq
abbrev Yb3:=@Nat.mul_one
abbrev l_:=@Nat.zero_le
abbrev Yb5:=@Nat.eq_of_beq_eq_true
abbrev Yb6:=@Nat.testBit_or
abbrev Yb7:=@Nat.mod_lt
abbrev Yb8:=@Nat.testBit_two_pow
abbrev Yb9:=@Nat.lt_or_ge
abbrev YbA:=@Nat.eq_zero_or_pos
abbrev YbB:=@Nat.add_zero
abbrev YbC:=@Nat.le_trans
abbrev YbD:=@Nat.sub_self
abbrev YbE:=@Nat.add_mul
abbrev YbF:=@Nat.mul_le_mul
abbrev YbG:=@Option.bind_some
abbrev YbH:=@Option.getD_some
abbrev YbI:=@Array.length_toList
abbrev YbJ:=@Array.getElem?_setIfInBounds_ne
abbrev YbK:=@Array.getElem?_push
abbrev YbL:=@Array.getD_eq_getD_getElem?
abbrev YbM:=@Array.getElem?_replicate
abbrev YbN:=@Array.contains_push
abbrev YbO:=@Array.toList_filter
abbrev YbP:=@BitVec.getLsbD_and
abbrev YbQ:=@BitVec.getLsbD_not
abbrev YbR:=@BitVec.toNat_xor
abbrev YbS:=@BitVec.toNat_not
abbrev YbT:=@Bool.and_false
abbrev YbU:=@List.filter_cons_of_pos
abbrev YbV:=@List.mem_filter
abbrev YbW:=@List.filter_cons_of_neg
abbrev YbX:=@List.mem_cons_of_mem
abbrev YbY:=@List.flatMap_cons
abbrev YbZ:=@List.mem_cons_self
abbrev Yba:=@List.append_nil
abbrev Ybb:=@List.take_append_drop
abbrev Ybc:=@List.mem_append_right
abbrev Ybd:=@List.findIdx?_append
abbrev Ybe:=@List.mem_cons
abbrev Ybf:=@List.getElem?_range
abbrev Ybg:=@List.replicate_succ
abbrev Ybh:=@List.getElem_set
abbrev Ybi:=@List.take_left'
abbrev Ybj:=@List.nil_append
abbrev Ybk:=@List.map_append
abbrev Ybl:=@List.count_cons
abbrev J':=@List.length_nil
abbrev Ybn:=@List.all_cons
abbrev P_:=@Nat.zero_add
abbrev J_:=@Nat.le_refl
abbrev Ybq:=@Nat.lt_of_lt_of_le
abbrev Ybr:=@Nat.testBit_lt_two_pow
abbrev Ybs:=@Nat.mod_eq_of_lt
abbrev Ybt:=@Nat.or_lt_two_pow
abbrev Ybu:=@Nat.min_eq_left
abbrev Ybv:=@Nat.mul_le_mul_right
abbrev Ybw:=@Nat.pow_le_pow_right
abbrev Ybx:=@Nat.ne_of_beq_eq_false
abbrev Yby:=@Nat.succ_mul
abbrev Ybz:=@Nat.and_two_pow_sub_one_eq_mod
abbrev Yc0:=@List.pairwise_lt_range
abbrev Yc1:=@List.length_replicate
abbrev Yc2:=@List.filterMap_append
abbrev Yc3:=@List.length_take_le
abbrev Yc4:=@List.set_cons_zero
abbrev Yc5:=@List.getElem?_inj
abbrev Yc6:=@List.pairwise_map
abbrev Yc7:=@List.size_toArray
abbrev Yc8:=@List.any_eq_true
abbrev Yc9:=@List.prefix_refl
abbrev YcA:=@List.filter_nil
abbrev YcB:=@List.sum_append
abbrev YcC:=@List.sum_cons
abbrev YcD:=@Nat.min_eq_right
abbrev YcE:=@Nat.one_mul
abbrev YcF:=@Nat.le_add_right
abbrev YcG:=@Option.isSome_iff_exists
abbrev YcH:=@Option.map_some
abbrev YcI:=@Bool.eq_iff_iff
abbrev YcJ:=@List.findIdx?_cons
abbrev YcK:=@List.nodup_append
abbrev YcL:=@List.take_append_of_le_length
abbrev YcM:=@List.count_append
abbrev YcN:=@List.count_singleton_self
abbrev YcO:=@List.pairwise_flatMap
abbrev YcP:=@List.mem_of_mem_take
abbrev YcQ:=@List.getElem_of_mem
abbrev YcR:=@List.mem_filterMap
abbrev YcS:=@List.ne_nil_of_mem
abbrev YcT:=@Nat.lt_trichotomy
abbrev YcU:=@Nat.add_right_cancel_iff
abbrev YcV:=@Nat.le_mul_of_pos_left
abbrev YcW:=@Nat.mul_le_mul_left
abbrev YcX:=@Nat.add_assoc
abbrev YcY:=@Option.map_none
abbrev YcZ:=@List.append_sublist_append_left
abbrev Yca:=@List.foldl_append
abbrev Ycb:=@List.getElem?_cons_zero
abbrev Ycc:=@List.all_eq_true
abbrev Ycd:=@List.mem_flatMap
abbrev Yce:=@List.filter_append
abbrev Ycf:=@List.foldl_cons
abbrev Ycg:=@List.length_filter_le
abbrev Ych:=@List.mem_range
abbrev Yci:=@List.filter_cons
abbrev Ycj:=@List.pairwise_append
abbrev Yck:=@List.flatMap_append
abbrev Ycl:=@List.drop_eq_getElem_cons
abbrev Ycm:=@List.findIdx?_eq_some_iff_getElem
abbrev Ycn:=@List.drop_eq_nil_of_le
abbrev Yco:=@List.range_succ
abbrev Ycp:=@List.mem_map
abbrev Ycq:=@List.map_congr_left
abbrev Ycr:=@List.take_zero
abbrev Ycs:=@List.foldl_nil
abbrev Yct:=@List.pairwise_cons
abbrev Ycu:=@List.mem_of_find?_eq_some
abbrev Ycv:=@List.map_map
abbrev Ycw:=@List.map_nil
abbrev Ycx:=@List.length_filterMap_le
abbrev Ycy:=@List.take_of_length_le
abbrev Ycz:=@List.length_pos_of_mem
abbrev Yd0:=@List.take_add_one
abbrev Yd1:=@List.length_range
abbrev Yd2:=@List.eq_replicate_iff
abbrev Yd3:=@List.getElem?_zipWith
abbrev Yd4:=@List.nodup_nil
abbrev Yd5:=@List.flatten_append
abbrev Yd6:=@List.length_pos_iff
abbrev Yd7:=@List.not_mem_nil
abbrev Yd8:=@Nat.sub_sub
abbrev Yd9:=@Option.bind_eq_some_iff
abbrev Yda:=@List.perm_append_singleton
abbrev Ydb:=@List.set_set
abbrev Ydc:=@List.nil_sublist
abbrev Ydd:=@List.sublist_cons_self
abbrev Yde:=@List.mapM_cons
abbrev Ydf:=@Nat.lt_succ_self
abbrev Ydg:=@Nat.le_of_lt
abbrev Ydh:=@Array.toList_extract
abbrev Ydi:=@Array.toList_append
abbrev Ydj:=@Int.le_refl
abbrev Ydk:=@List.extract_eq_take_drop
abbrev Ydl:=@List.eq_nil_iff_forall_not_mem
abbrev Ydm:=@List.findIdx?_eq_none_iff
abbrev Ydn:=@List.contains_iff_mem
abbrev Ydo:=@List.flatten_cons
abbrev Ydp:=@List.length_drop
abbrev Ydq:=@List.drop_one
abbrev Ydr:=@Nat.lt_of_not_le
abbrev Yds:=@Nat.le_max_left
abbrev Ydt:=@Option.map_eq_some_iff
abbrev Ydu:=@Array.setIfInBounds_comm
abbrev Ydv:=@List.headD_cons
abbrev Ydw:=@Nat.sub_add_eq
abbrev Ydx:=@Array.getElem?_extract
abbrev Ydy:=@Array.size_extract
abbrev Ydz:=@Bool.and_assoc
abbrev G_:=@if_neg
abbrev I_:=@if_pos
abbrev b_(b:Nat):Option Go.Addr:=some ⟨b,0,none⟩
abbrev H_(b:Nat):Go.Value:=.pointer (some ⟨b,0,none⟩)
abbrev C_:Int→Go.Value:=Go.Value.int .i64
open Go.Proofs.Tryz
theorem a_{p:Prop}[h:Decidable p](k:¬p):decide p=false:=decide_eq_false k
theorem g_{p:Prop}[h:Decidable p](k:p):decide p=true:=decide_eq_true k
theorem m_{p:Prop}[h:Decidable p](k:¬p:=by omega):decide p=false:=decide_eq_false k
theorem s_{p:Prop}[h:Decidable p](k:p:=by omega):decide p=true:=decide_eq_true k
theorem Zzi{p:Prop}[h:Decidable p]:(decide p=false)=¬p:=propext decide_eq_false_iff_not
theorem Zzj{p:Prop}[h:Decidable p]:(decide p=true)=p:=decide_eq_true_eq
namespace Go.Proofs.YtdopnglgekglgaaGreatDoor
abbrev Aa:=Array Obj
abbrev Fr:=List v_
structure Y_(w w':y_):Prop where
 os:w'.os=w.os
 tape:w'.tape=w.tape
 output:w'.output=w.output
theorem Y_.refl(w:y_):Y_ w w:=⟨rfl,rfl,rfl⟩
theorem Y_.trans{a b c:y_}(h:Y_ a b)(k:Y_ b c):Y_ a c:=
 ⟨k.os.trans h.os,k.tape.trans h.tape,k.output.trans h.output⟩
def Al(P:w_)(f:FuncId)(args:Array v_)(H:Aa)(R:v_→Aa→Prop):Prop:=
 ∀w:y_,w.heap=H→(callFunc f args).run P w= .ok (.enter f args) w∧
  Calls P f args w fun e w'=>∃v,e= .returned v∧Y_ w w'∧R v w'.heap
theorem Al.mono{P:w_}{f:FuncId}{a:Array v_}{H:Aa}{R R':v_→Aa→Prop}
  (h:Al P f a H R) (c:∀v H',R v H'→R' v H'):Al P f a H R':=fun w b=>
 ⟨(h w b).1,(h w b).2.mono fun _ _ ⟨v,d,e,r⟩=>⟨v,d,e,c _ _ r⟩⟩
def A_(S:Nat→Prop)(H H':Aa):Prop:=∀k,S k→H'[k]?=H[k]?
theorem A_.refl(S:Nat→Prop)(H:Aa):A_ S H H:=fun _ _=>rfl
theorem A_.trans{S:Nat→Prop}{a b c:Aa}(h:A_ S a b)(k:A_ S b c):A_ S a c:=
 fun i d=>(k i d).trans (h i d)
theorem A_.mono{S S':Nat→Prop}{a b:Aa}(h:A_ S a b)(hs:∀k,S' k→S k):A_ S' a b:=
 fun i c=>h i (hs i c)
structure A7(P:w_)(m:Sem v_)(S:Nat→Prop)(H:Aa)(K:v_→Prop):Prop where
 in_::
 out_:∃v,(∀w:y_,A_ S H w.heap→m.run P w= .ok v w)∧K v
structure Ba(P:w_)(m:Sem v_)(H:Aa)(K:v_→Aa→Prop):Prop where
 in_::
 out_:∀w:y_,w.heap=H→∃v w',m.run P w= .ok v w'∧Y_ w w'∧K v w'.heap
structure By(P:w_)(m:Sem Unit)(H:Aa)(K:Aa→Prop):Prop where
 in_::
 out_:∀w:y_,w.heap=H→∃w',m.run P w= .ok () w'∧Y_ w w'∧K w'.heap
structure Aj(P:w_)(f:FuncId)(args:Array v_)(H:Aa)(K:v_→Aa→Prop):Prop where
 in_::
 out_:Al P f args H K
structure IF(P:w_)(f:FuncId)(args:Array v_)(S:Nat→Prop)(H:Aa)(K:v_→Prop):Prop where
 in_::
 out_:∃v,(∀H',A_ S H H'→Al P f args H' fun v' H''=>v'=v∧A_ S H' H'')∧K v
theorem A7.mk{P:w_}{m:Sem v_}{S:Nat→Prop}{H:Aa}{K:v_→Prop}(v:v_)
  (h:∀w:y_,A_ S H w.heap→m.run P w= .ok v w) (k:K v):A7 P m S H K:=by
 exact⟨⟨v,h,k⟩⟩
theorem Ba.mk{P:w_}{m:Sem v_}{H:Aa}{K:v_→Aa→Prop}
  (h:∀w:y_,w.heap=H→∃v a,m.run P w= .ok v a∧Y_ w a∧K v a.heap):Ba P m H K:=by
 exact⟨h⟩
theorem By.mk{P:w_}{m:Sem Unit}{H:Aa}{K:Aa→Prop}
  (h:∀w:y_,w.heap=H→∃a,m.run P w= .ok () a∧Y_ w a∧K a.heap):By P m H K:=by
 exact⟨h⟩
theorem Aj.mk{P:w_}{f:FuncId}{a:Array v_}{H:Aa}{K R:v_→Aa→Prop}
  (h:Al P f a H R) (k:∀v H',R v H'→K v H'):Aj P f a H K:=by
 exact⟨h.mono k⟩
theorem IF.mk{P:w_}{f:FuncId}{a:Array v_}{S:Nat→Prop}{H:Aa}{K:v_→Prop}(v:v_)
  (h:∀H',A_ S H H'→Al P f a H' fun b H''=>b=v∧A_ S H' H'') (k:K v):IF P f a S H K:=by
 exact⟨⟨v,h,k⟩⟩
def Ag(b:Bool)(p q:Prop):Prop:=match b with | true=>p | false=>q
theorem Ag.mk{b:Bool}{p q:Prop}(h:b=true→p)(k:b=false→q):Ag b p q:=by
 cases b;exact k rfl;exact h rfl
theorem Ag.m2{d p q:Prop}[h:Decidable d](k:d→p)(l:¬d→q):Ag (decide d) p q:=Ag.mk (fun e=>k (of_decide_eq_true e)) (fun e=>l (of_decide_eq_false e))
theorem Ag.tt{b:Bool}{p q:Prop}(a:b=true)(h:p):Ag b p q:=by subst a;exact h
theorem Ag.ff{b:Bool}{p q:Prop}(a:b=false)(h:q):Ag b p q:=by subst a;exact h
noncomputable def rdK{R:Type}(l:Fr):Nat→(v_→R)→R:=
 AlL (motive:=fun _=>Nat→(v_→R)→R) (fun _ K=>K undef) (fun v _ ih n K=>Nat.casesOn n (K v) fun m=>ih m K) l
noncomputable def wrK{R:Type}(l:Fr):Nat→v_→(Fr→R)→R:=
 AlL (motive:=fun _=>Nat→v_→(Fr→R)→R) (fun _ _ K=>K []) (fun x l ih n v K=>Nat.casesOn n (K (v::l)) fun m=>ih m v fun l'=>K (x::l')) l
noncomputable def U'{R:Type}(fr:Fr)(x:z_)(K:v_→R):R:=
 match x with
 | .tmp t=>rdK fr t K
 | .const v=>K v
 | .global g=>K (H_ g)
 | .func f=>K (.func (.func f) #[] #[])
noncomputable def HG{R:Type}(fr:Fr)(l:List z_):(List v_→R)→R:=
 AlL (motive:=fun _=>(List v_→R)→R) (fun K=>K []) (fun x _ ih K=>U' fr x fun v=>ih fun vs=>K (v::vs)) l
noncomputable def Ck{R:Type}(dst:Option Tmp)(fr:Fr)(v:v_)(K:Fr→R):R:=
 match dst with
 | none=>K fr
 | some d=>wrK fr d v K
def rd(fr:Fr)(i:Nat):v_:=fr.getD i undef
def evF(fr:Fr):z_→v_
 | .tmp t=>rd fr t
 | .const v=>v
 | .global g=>H_ g
 | .func f=>.func (.func f) #[] #[]
theorem Dk{R:Type}(K:v_→R):∀(fr:Fr) (i:Nat),rdK fr i K=K (rd fr i)
 | [],_=>rfl
 | _::_,0=>rfl
 | _::l,n+1=>by show rdK l n K=_;rw[Dk K l n];simp[rd]
theorem EG{R:Type}:∀(fr:Fr) (i:Nat) (v:v_) (K:Fr→R),wrK fr i v K=K (fr.set i v)
 | [],_,_,_=>rfl
 | _::_,0,_,_=>rfl
 | x::l,n+1,v,K=>by show wrK l n v (fun a=>K (x::a))=_;rw[EG l n v];rfl
theorem HF{R:Type}(fr:Fr)(x:z_)(K:v_→R):U' fr x K=K (evF fr x):=by
 cases x<;>first | rfl | exact Dk K fr _
theorem Im{R:Type}(fr:Fr):∀(l:List z_) (K:List v_→R),HG fr l K=K (l.map (evF fr))
 | [],_=>rfl
 | x::l,K=>by show U' fr x (fun v=>HG fr l fun vs=>K (v::vs))=_;simp only[HF,Im fr l,YaQ]
theorem Bi{R:Type}(a:Option Tmp)(fr:Fr)(v:v_)(K:Fr→R):
  Ck a fr v K=K (match a with | none=>fr | some d=>fr.set d v):=by
 cases a with
 | none=>rfl
 | some d=>exact EG fr d v K
structure At(fr:Fr)(a:Act):Prop where
 tmps:a.tmps.toList=fr
 defers:a.defers=[]
theorem At.eval{fr:Fr}{a:Act}(h:At fr a)(x:z_):a.eval x=evF fr x:=by
 cases x with
 | tmp t=>obtain⟨rfl,_⟩:=h;simp[Act.eval,evF,rd]
 | const v=>rfl
 | global g=>rfl
 | func f=>rfl
theorem At.evalF{fr:Fr}{a:Act}(h:At fr a):a.eval=evF fr:=funext h.eval
theorem At.put{fr:Fr}{a:Act}(h:At fr a)(b:Option Tmp)(v:v_):
  At (match b with | none=>fr | some d=>fr.set d v) (a.put b v):=by
 obtain⟨rfl,c⟩:=h;cases b with
 | none=>exact⟨rfl,c⟩
 | some d=>exact⟨by simp[Act.put],c⟩
def kEq:IntKind→IntKind→Bool
 | .i8,.i8 | .i16,.i16 | .i32,.i32 | .i64,.i64 | .u8,.u8 | .u16,.u16 | .u32,.u32 | .u64,.u64=>true
 | _,_=>false
theorem AeH{a b:IntKind}(h:kEq a b=true):a=b:=by cases a<;>cases b<;>first | rfl | simp[kEq]at h
def OF:BinOp→v_→v_→Option v_
 | .add,.int k a,.int k' b=>match kEq k k' with | true=>some (.int k (k.wrap (a+b))) | false=>none
 | .sub,.int k a,.int k' b=>match kEq k k' with | true=>some (.int k (k.wrap (a-b))) | false=>none
 | .mul,.int k a,.int k' b=>match kEq k k' with | true=>some (.int k (k.wrap (a*b))) | false=>none
 | .eql,.int k a,.int k' b=>match kEq k k' with | true=>some (.bool (a==b)) | false=>none
 | .neq,.int k a,.int k' b=>match kEq k k' with | true=>some (.bool (a != b)) | false=>none
 | .lss,.int k a,.int k' b=>match kEq k k' with | true=>some (.bool (decide (a<b))) | false=>none
 | .leq,.int k a,.int k' b=>match kEq k k' with | true=>some (.bool (decide (a≤b))) | false=>none
 | .gtr,.int k a,.int k' b=>match kEq k k' with | true=>some (.bool (decide (b<a))) | false=>none
 | .geq,.int k a,.int k' b=>match kEq k k' with | true=>some (.bool (decide (b≤a))) | false=>none
 | .eql,.string a,.string b=>some (.bool (a.toList==b.toList))
 | .neq,.string a,.string b=>some (.bool (!(a.toList==b.toList)))
 | _,_,_=>none
theorem C8{P:w_}(op:BinOp)(t:x_)(x y:z_)(k c:IntKind)(a b:Int)(w:y_):
  (eqGuard op t x y (.int k a) (.int c b)).run P w= .ok () w:=by
 cases op<;>simp[eqGuard]
theorem Ft{P:w_}(op:BinOp)(t:x_)(x y:z_)(a b:ByteArray)(w:y_):
  (eqGuard op t x y (.string a) (.string b)).run P w= .ok () w:=by
 cases op<;>simp[eqGuard]
theorem Qr{P:w_}{op:BinOp}{t:x_}{x y:z_}{a b v:v_}(h:OF op a b=some v)(w:y_):
  (do eqGuard op t x y a b;binOp op t a b:Sem v_).run P w= .ok v w:=by
 unfold OF at h;split at h
 all_goals try (split at h)
 all_goals first
  | (cases h;done)
  | (rename_i c;obtain rfl:=AeH c;cases h;simp[C8,binOp,Op.intArith,Op.intCmp];done)
  | (cases h;simp[Ft,binOp,Op.stringOp];done)
def Tt:UnOp→v_→Option v_
 | .not,.bool b=>some (.bool (!b))
 | .neg,.int k n=>some (.int k (k.wrap (0-n)))
 | _,_=>none
theorem Tu{P:w_}{op:UnOp}{a v:v_}(h:Tt op a=some v)(w:y_):(Op.unary op a).run P w= .ok v w:=by
 unfold Tt at h;split at h<;>cases h<;>simp[Op.unary,Op.intArith]
noncomputable def Vj{R:Type}(fr:Fr)(x:Option z_)(K:Option v_→R):R:=
 match x with
 | none=>K none
 | some x=>U' fr x fun v=>K (some v)
theorem TU{R:Type}(fr:Fr)(x:Option z_)(K:Option v_→R):Vj fr x K=K (x.map (evF fr)):=by
 cases x<;>simp[Vj,HF]
noncomputable def ZL{R:Type}(fr:Fr)(l:List (Nat×z_)):(List (Nat×v_)→R)→R:=
 AlL (motive:=fun _=>(List (Nat×v_)→R)→R) (fun K=>K []) (fun p _ ih K=>U' fr p.2 fun v=>ih fun vs=>K ((p.1,v)::vs)) l
theorem OU{R:Type}(fr:Fr):∀(l:List (Nat×z_)) (K:List (Nat×v_)→R),ZL fr l K=K (l.map fun(i,x)=>(i,evF fr x))
 | [],_=>rfl
 | (i,x)::l,K=>by show U' fr x (fun v=>ZL fr l fun vs=>K ((i,v)::vs))=_;simp only[HF,OU fr l,YaQ]
def Pg:Option TypeDesc→List v_→Option v_
 | some (.slice _),[.slice _ n _]=>some (.int .i64 n)
 | some .string,[.string s]=>some (.int .i64 s.size)
 | _,_=>none
theorem QM{P:w_}{t ty:x_}{vs:List v_}{v:v_}(h:Pg (P.underlying t) vs=some v)(w:y_):
  (Builtin.len_ #[t] ty vs.toArray).run P w= .ok v w:=by
 unfold Pg at h;split at h<;>cases h<;>rename_i hu<;>simp[Builtin.len_,run_underlying hu,goInt]
def Ml:Option TypeDesc→Option TypeDesc→v_→Option v_
 | some _,some (.int k),.int _ n=>some (.int k (k.wrap n))
 | some _,some .string,.string s=>some (.string s)
 | _,_,_=>none
theorem OM{P:w_}{s d:x_}{x v:v_}(h:Ml (P.underlying s) (P.underlying d) x=some v)(w:y_):
  (convert s d x).run P w= .ok v w:=by
 unfold Ml at h;split at h<;>cases h<;>rename_i a b
 ·simp[convert,run_underlying a,run_underlying b,Conv.intToInt]
 ·simp[convert,run_underlying a,run_underlying b]
def Jw(P:w_)(S:Nat→Prop)(o:Oper)(fr:Fr)(H:Aa)(K:v_→Prop):Prop:=
 match o.op with
 | .move x=>U' fr x K
 | .assign x=>U' fr x K
 | .pick c a b=>U' fr c fun vc=>match vc with
   | .bool b'=>Ag b' (U' fr a K) (U' fr b K)
   | _=>False
 | .binOp op t x y _=>U' fr x fun a=>U' fr y fun b=>match OF op a b with
   | some v=>K v
   | none=>A7 P (do eqGuard op t x y a b;binOp op t a b) S H K
 | .unOp op _ x=>U' fr x fun a=>match Tt op a with
   | some v=>K v
   | none=>A7 P (Op.unary op a) S H K
 | .convert s d x=>U' fr x fun a=>match Ml (P.underlying s) (P.underlying d) a with
   | some v=>K v
   | none=>A7 P (convert s d a) S H K
 | .extract x i=>U' fr x fun a=>match a with
   | .tuple vs=>match vs.toList[i]? with
     | some v=>K v
     | none=>False
   | _=>False
 | .nilCheck x=>U' fr x fun a=>match a with
   | .pointer (some p)=>K (.pointer (some p))
   | _=>False
 | .makeInterface t x=>U' fr x fun a=>match P.underlying t with
   | some (.interface _)=>False
   | some _=>K (.iface t a)
   | none=>False
 | .makeFunc fn first cap=>HG fr first.toList fun vs=>HG fr cap.toList fun us=>K (.func fn vs.toArray us.toArray)
 | .load t a=>U' fr a fun p=>A7 P (Instr.loadAt t p) S H K
 | .index t x i=>U' fr x fun a=>U' fr i fun j=>A7 P (Instr.index t a j) S H K
 | .indexAddr t x i=>U' fr x fun a=>U' fr i fun j=>A7 P (Instr.indexAt t a j) S H K
 | .fieldAddr s x f=>U' fr x fun a=>A7 P (Instr.fieldAt s a f) S H K
 | .field t x f=>U' fr x fun a=>A7 P (Instr.field t a f) S H K
 | .slice t x lo hi mx=>U' fr x fun a=>Vj fr lo fun l=>Vj fr hi fun h=>Vj fr mx fun m=>A7 P (Instr.sliceAt t a l h m) S H K
 | .lookup t x i ok=>U' fr x fun a=>U' fr i fun j=>A7 P (Instr.lookup t a j ok) S H K
 | .build t ps=>ZL fr ps.toList fun vs=>A7 P (Instr.build t vs.toArray) S H K
 | .typeAssert x t a ok=>U' fr x fun v=>A7 P (Instr.typeAssert v t a ok) S H K
 | .call {callee:=.builtin .len,args,argTypes}=>HG fr args.toList fun vs=>
   match argTypes.toList with
   | [t]=>match Pg (P.underlying t) vs with
     | some v=>K v
     | none=>A7 P (Builtin.len_ argTypes o.type vs.toArray) S H K
   | _=>A7 P (Builtin.len_ argTypes o.type vs.toArray) S H K
 | .call {callee:=.builtin .cap,args,argTypes}=>HG fr args.toList fun vs=>A7 P (Builtin.cap_ argTypes o.type vs.toArray) S H K
 | .call {callee:=.builtin .min,args,argTypes}=>HG fr args.toList fun vs=>A7 P (Builtin.min_ argTypes o.type vs.toArray) S H K
 | .call {callee:=.builtin .max,args,argTypes}=>HG fr args.toList fun vs=>A7 P (Builtin.max_ argTypes o.type vs.toArray) S H K
 | _=>False
def I7(o:Oper):Bool:=
 match o.op with
 | .move _ | .assign _ | .pick .. | .binOp .. | .unOp .. | .convert .. | .extract .. | .nilCheck _ | .makeInterface .. | .makeFunc .. | .load .. | .index ..
 | .indexAddr .. | .fieldAddr .. | .field .. | .slice .. | .lookup .. | .build .. | .typeAssert .. =>true
 | .call {callee:=.builtin .len, .. } | .call {callee:=.builtin .cap, .. } | .call {callee:=.builtin .min, .. } | .call {callee:=.builtin .max, .. }=>true
 | _=>false
theorem A7.out{P:w_}{m:Sem v_}{S:Nat→Prop}{H:Aa}{K:v_→Prop}(h:A7 P m S H K):
  ∃v,(∀w:y_,A_ S H w.heap→m.run P w= .ok v w)∧K v:=by exact h.out_
theorem Bk{P:w_}{m:Sem v_}{v:v_}{w w':y_}(h:m.run P w= .ok v w'):
  (do pure (Next.value (←m)):Sem Next).run P w= .ok (.value v) w':=by simp[h]
theorem Yp{P:w_}{m:Sem Unit}{w w':y_}(h:m.run P w= .ok () w'):
  (do m;pure Next.skip:Sem Next).run P w= .ok .skip w':=by simp[h]
theorem C2{P:w_}{S:Nat→Prop}{o:Oper}{fr:Fr}{H:Aa}{K:v_→Prop}(h:Jw P S o fr H K):
  ∃v,(∀w:y_,A_ S H w.heap→(execOp (evF fr) o).run P w= .ok (.value v) w)∧K v:=by
 unfold Jw at h;split at h<;>rename_i ho<;>simp only[HF,Im,TU,OU]at h
 all_goals simp only[execOp,ho]
 case h_1=>exact⟨_,fun w _=>by simp,h⟩
 case h_2=>exact⟨_,fun w _=>by simp,h⟩
 case h_3=>
  split at h
  ·rename_i b g;cases b
   ·exact⟨_,fun w _=>by simp[g,asBool],h⟩
   ·exact⟨_,fun w _=>by simp[g,asBool],h⟩
  ·exact h.elim
 case h_4=>
  split at h
  ·rename_i v a;exact⟨v,fun w _=>Bk (Qr a w),h⟩
  ·have⟨v,a,k⟩:=h.out;exact⟨v,fun w c=>Bk (a w c),k⟩
 case h_5=>
  split at h
  ·rename_i v a;exact⟨v,fun w _=>Bk (Tu a w),h⟩
  ·have⟨v,a,k⟩:=h.out;exact⟨v,fun w c=>Bk (a w c),k⟩
 case h_6=>
  split at h
  ·rename_i v a;exact⟨v,fun w _=>Bk (OM a w),h⟩
  ·have⟨v,a,k⟩:=h.out;exact⟨v,fun w c=>Bk (a w c),k⟩
 case h_7=>
  split at h
  ·split at h
   ·rename_i vs f _ v a;refine⟨v,fun w _=>Bk ?_,h⟩;simp at a;simp[Instr.extract,f,a]
   ·exact h.elim
  ·exact h.elim
 case h_8=>
  split at h
  ·rename_i p j;exact⟨_,fun w _=>by simp[j],h⟩
  ·exact h.elim
 case h_9=>
  split at h
  ·exact h.elim
  ·rename_i d l hd;refine⟨_,fun w _=>Bk ?_,h⟩;cases d<;>first | (exact(l _ rfl).elim) | simp[Instr.makeInterface,run_underlying hd]
  ·exact h.elim
 case h_10=>
  refine⟨_,fun w _=>Bk ?_,h⟩;simp only[←Yac,Yab];simp[Instr.makeFunc]
 all_goals try
  have⟨v,a,k⟩:=h.out;exact⟨v,fun w c=>Bk (a w c),k⟩
 case h_18=>
  have⟨v,a,k⟩:=h.out;simp only[←Yac,Yab]at a;exact⟨v,fun w c=>Bk (a w c),k⟩
 all_goals simp only[←Yac,Yab]at h
 case h_20=>
  split at h
  ·rename_i t n;split at h
   ·rename_i v a;refine⟨v,fun w _=>Bk (m:=Builtin.len_ _ _ _) ?_,h⟩;have e:∀{A:Array x_},A.toList=[t]→A= #[t]:=fun h=>AlH (by simpa using h);obtain rfl:=e n;have q:=QM (ty:=o.type) a w;rwa [Yab]at q
   ·have⟨v,a,k⟩:=h.out;exact⟨v,fun w c=>Bk (m:=Builtin.len_ _ _ _) (a w c),k⟩
  ·have⟨v,a,k⟩:=h.out;exact⟨v,fun w c=>Bk (m:=Builtin.len_ _ _ _) (a w c),k⟩
 case h_21=>
  have⟨v,a,k⟩:=h.out;exact⟨v,fun w c=>Bk (m:=Builtin.cap_ _ _ _) (a w c),k⟩
 case h_22=>
  have⟨v,a,k⟩:=h.out;exact⟨v,fun w c=>Bk (m:=Builtin.min_ _ _ _) (a w c),k⟩
 case h_23=>
  have⟨v,a,k⟩:=h.out;exact⟨v,fun w c=>Bk (m:=Builtin.max_ _ _ _) (a w c),k⟩
 all_goals exact h.elim
structure Gg(P:w_)(t:x_)(x:v_)(name:String)(args:Array v_)(H:Aa)(K:v_→Aa→Prop):Prop where
 in_::
 out_:∃f as1,(∀w:y_,w.heap=H→(callMethod (.iface t x) name args).run P w= .ok (.enter f as1) w)∧Al P f as1 H K
def TD(P:w_)(q:Bool)(S:Nat→Prop)(f:v_)(args:List v_)(H:Aa)(K:v_→Aa→Prop):Prop:=
 match f with
 | .func (.func g) first cap=>match q with
   | true=>IF P g (first.toList++args++cap.toList).toArray S H fun v=>K v H
   | false=>Aj P g (first.toList++args++cap.toList).toArray H K
 | _=>False
def Ae4(P:w_)(o:Oper)(fr:Fr)(H:Aa)(K:v_→Aa→Prop):Prop:=
 match o.op with
 | .alloc t=>Ba P (Instr.alloc t true (.tuple #[])) H K
 | .box t x=>U' fr x fun v=>Ba P (Instr.box t v) H K
 | .buildSlice t n ps=>ZL fr ps.toList fun vs=>Ba P (Instr.buildSlice t n vs.toArray) H K
 | .store t a x=>U' fr a fun p=>U' fr x fun v=>By P (Instr.storeAt t p v) H fun H'=>K undef H'
 | .makeMap t r=>Vj fr r fun v=>Ba P (Instr.makeMap t v) H K
 | .makeSlice t l c=>U' fr l fun n=>U' fr c fun m=>Ba P (Instr.makeSlice t n m) H K
 | .mapUpdate t m k x=>U' fr m fun r=>U' fr k fun j=>U' fr x fun v=>By P (Instr.mapUpdate t r j v) H fun H'=>K undef H'
 | .insert t m k x=>U' fr m fun r=>U' fr k fun j=>U' fr x fun v=>By P (Instr.mapUpdate t r j v) H fun H'=>K undef H'
 | .mapEntry t m k=>U' fr m fun r=>U' fr k fun j=>Ba P (Instr.mapEntry t r j) H K
 | .entryStore t m s x=>U' fr m fun r=>U' fr s fun j=>U' fr x fun v=>By P (Instr.entryStore t r j v) H fun H'=>K undef H'
 | .range t x=>U' fr x fun v=>Ba P (Instr.range t v) H K
 | .next it s=>U' fr it fun v=>Ba P (Instr.next v s o.type) H K
 | .entry it=>U' fr it fun v=>Ba P (Instr.entry v) H K
 | .convert s d x=>U' fr x fun v=>Ba P (convert s d v) H K
 | .call {callee:=.builtin .append,args,argTypes}=>HG fr args.toList fun vs=>Ba P (Builtin.append_ argTypes o.type vs.toArray) H K
 | .call {callee:=.builtin .copy,args,argTypes}=>HG fr args.toList fun vs=>Ba P (Builtin.copy_ argTypes o.type vs.toArray) H K
 | .call {callee:=.builtin .delete,args,argTypes}=>HG fr args.toList fun vs=>Ba P (Builtin.delete_ argTypes o.type vs.toArray) H K
 | .call {callee:=.builtin .clear,args,argTypes}=>HG fr args.toList fun vs=>Ba P (Builtin.clear_ argTypes o.type vs.toArray) H K
 | .call {callee:=.invoke r name,args, .. }=>U' fr r fun v=>HG fr args.toList fun vs=>match v with
   | .iface t x=>Gg P t x name vs.toArray H K
   | _=>False
 | .call {callee:=.value f,args, .. }=>U' fr f fun g=>HG fr args.toList fun vs=>TD P false (fun _=>True) g vs H K
 | _=>False
def Eg(P:w_)(o:Oper):Bool:=
 match o.op with
 | .convert s d _=>match P.underlying s,P.underlying d with
   | some (.slice _),_=>false
   | some .string,some (.slice _)=>false
   | _,_=>true
 | _=>true
def opK(P:w_)(q:Bool)(S:Nat→Prop)(o:Oper)(fr:Fr)(H:Aa)(K:v_→Aa→Prop):Prop:=
 match I7 o&&Eg P o with
 | true=>Jw P S o fr H fun v=>K v H
 | false=>match q with
   | true=>match o.op with
     | .call {callee:=.value f,args, .. }=>U' fr f fun g=>HG fr args.toList fun vs=>TD P true S g vs H K
     | _=>False
   | false=>Ae4 P o fr H K
theorem Ba.out{P:w_}{m:Sem v_}{H:Aa}{K:v_→Aa→Prop}(h:Ba P m H K):
  ∀w:y_,w.heap=H→∃v a,m.run P w= .ok v a∧Y_ w a∧K v a.heap:=by exact h.out_
theorem By.out{P:w_}{m:Sem Unit}{H:Aa}{K:Aa→Prop}(h:By P m H K):
  ∀w:y_,w.heap=H→∃a,m.run P w= .ok () a∧Y_ w a∧K a.heap:=by exact h.out_
theorem Aj.out{P:w_}{f:FuncId}{a:Array v_}{H:Aa}{K:v_→Aa→Prop}(h:Aj P f a H K):Al P f a H K:=by
 exact h.out_
theorem IF.out{P:w_}{f:FuncId}{a:Array v_}{S:Nat→Prop}{H:Aa}{K:v_→Prop}(h:IF P f a S H K):
  ∃v,(∀H',A_ S H H'→Al P f a H' fun b H''=>b=v∧A_ S H' H'')∧K v:=by exact h.out_
theorem Gg.out{P:w_}{t:x_}{x:v_}{a:String}{b:Array v_}{H:Aa}{K:v_→Aa→Prop}(h:Gg P t x a b H K):
  ∃f c,(∀w:y_,w.heap=H→(callMethod (.iface t x) a b).run P w= .ok (.enter f c) w)∧Al P f c H K:=by exact h.out_
theorem Gg.mk{P:w_}{t:x_}{x:v_}{a:String}{b:Array v_}{H:Aa}{K R:v_→Aa→Prop}(f:FuncId)(c:Array v_)
  (d:∀w:y_,(callMethod (.iface t x) a b).run P w= .ok (.enter f c) w) (h:Al P f c H R) (k:∀v H',R v H'→K v H'):Gg P t x a b H K:=by
 exact⟨⟨f,c,fun w _=>d w,h.mono k⟩⟩
def RQ(P:w_)(o:Oper)(a:Act)(w:y_)(K:v_→Aa→Prop):Prop:=
 ∀Q:Exit→Act→y_→Prop,o.wp P a w (fun a' w'=>∃v,a'=a.put o.dst v∧Y_ w w'∧K v w'.heap) Q
theorem MF{P:w_}{o:Oper}{a:Act}{w w':y_}{K:v_→Aa→Prop}{v:v_}
  (h:(execOp a.eval o).run P w= .ok (.value v) w') (b:Y_ w w') (k:K v w'.heap):RQ P o a w K:=by
 intro Q;unfold Oper.wp;rw[h];exact⟨v,rfl,b,k⟩
theorem V6{P:w_}{o:Oper}{a:Act}{w w':y_}{K:v_→Aa→Prop}
  (h:(execOp a.eval o).run P w= .ok .skip w') (b:Y_ w w') (k:K undef w'.heap):RQ P o a w K:=by
 intro Q;unfold Oper.wp;rw[h];exact⟨undef,rfl,b,k⟩
theorem ME{P:w_}{o:Oper}{a:Act}{w:y_}{K:v_→Aa→Prop}{f:FuncId}{b:Array v_}
  (h:(execOp a.eval o).run P w=(callFunc f b).run P w) (k:Al P f b w.heap K):RQ P o a w K:=by
 intro Q;unfold Oper.wp;rw[h,(k w rfl).1];refine(k w rfl).2.mono ?_;rintro e g ⟨v,rfl,c,d⟩;exact⟨v,rfl,c,d⟩
theorem Sq{P:w_}{o:Oper}{fr:Fr}{a:Act}{w:y_}{K:v_→Aa→Prop}(k:At fr a)
  (h:Ae4 P o fr w.heap K):RQ P o a w K:=by
 have j:=k.evalF;unfold Ae4 at h;split at h<;>rename_i ho<;>try simp only[HF,Im,TU,OU,←Yac,Yab]at h
 all_goals try (
  have⟨v,p,l,d,m⟩:=h.out w rfl;exact MF (by rw[j];simp only[execOp,ho];exact Bk l) d m)
 all_goals try (
  have⟨p,l,d,m⟩:=h.out w rfl;exact V6 (by rw[j];simp only[execOp,ho];exact Yp l) d m)
 case h_19=>
  split at h
  ·rename_i t x q;have⟨f,r,u,n⟩:=h.out;refine ME ?_ n;rw[j];simp only[execOp,ho,resolve,q];rw[(n w rfl).1,←u w rfl];have y:∀A:Array v_,(#[Value.iface t x]++A)[0]?=some (Value.iface t x):=fun A=>by simp[Array.getElem?_append]
   rename_i b c _;have e2:(AlM (evF fr) b).extract 0 b.size=AlM (evF fr) b:=by
    rw[show b.size=(AlM (evF fr) b).size by simp];exact Array.extract_size
   simp[invoke,y,e2]
  ·exact h.elim
 case h_20=>
  unfold TD at h;rename_i B b c;split at h
  ·rename_i g first cap z
   refine ME ?_ h.out;rw[j];have e:(first.toList++(AlM (evF fr) b).toList++cap.toList).toArray=first++AlM (evF fr) b++cap:=AlH (by simp)
   rw[e];simp only[execOp,ho,resolve,z,Deferred.ofValue];simp[invoke]
  ·exact h.elim
 all_goals exact h.elim
theorem Cc{P:w_}{o:Oper}{fr:Fr}{a:Act}{w:y_}{K:v_→Aa→Prop}(b:At fr a)
  (h:opK P false (fun _=>True) o fr w.heap K):RQ P o a w K:=by
 unfold opK at h;split at h
 ·have⟨v,c,d⟩:=C2 h;exact MF (by rw[b.evalF];exact c w (A_.refl _ _)) (Y_.refl w) d
 ·exact Sq b h
def Cls(w0:y_)(S:Nat→Prop)(w:y_):Prop:=Y_ w0 w∧A_ S w0.heap w.heap
theorem V5{P:w_}{S:Nat→Prop}{o:Oper}{fr:Fr}{a:Act}{w0:y_}{K:v_→Aa→Prop}(d:At fr a)
  (h:opK P true S o fr w0.heap K):∃v,(∀w,Cls w0 S w→o.quietAt P a (Cls w0 S) w v)∧K v w0.heap:=by
 unfold opK at h;split at h
 ·have⟨v,m,l⟩:=C2 h;refine⟨v,fun w j=>?_,l⟩;unfold Oper.quietAt;rw[d.evalF,m w j.2];exact⟨rfl,rfl⟩
 ·dsimp only at h;split at h
  ·rename_i f b c n;simp only[HF,Im,←Yac]at h;unfold TD at h;split at h
   ·rename_i g first cap p
    have⟨v,q,l⟩:=h.out;refine⟨v,fun w j=>?_,l⟩;have⟨r,t⟩:=q w.heap j.2 w rfl;have u:(execOp a.eval o).run P w=(callFunc g (first.toList++(AlM (evF fr) b).toList++cap.toList).toArray).run P w:=by
     rw[d.evalF];have e:(first.toList++(AlM (evF fr) b).toList++cap.toList).toArray=first++AlM (evF fr) b++cap:=AlH (by simp)
     rw[e];simp only[execOp,n,resolve,p,Deferred.ofValue];simp[invoke]
    unfold Oper.quietAt;rw[u,r];refine⟨rfl,t.mono ?_⟩;rintro e y ⟨z,rfl,k,rfl,x⟩;exact⟨rfl,j.1.trans k,j.2.trans x⟩
   ·exact h.elim
  ·exact h.elim
def apK(K:Fr→Aa→Prop)(fr:Fr)(H:Aa):Prop:=K fr H
def Pb(P:w_)(q:Bool)(S:Nat→Prop)(o:Oper)(want:Bool)(t:Nat)(fr:Fr)(H:Aa)(K:Fr→Aa→Prop):Prop:=
 rdK fr t fun v=>match v with
  | .bool b=>Ag b
    (wrK fr t (.bool true) fun fr1=>match want with
     | true=>opK P q S o fr1 H fun v H'=>Ck o.dst fr1 v fun fr'=>apK K fr' H'
     | false=>Ck o.dst fr1 undef fun fr'=>apK K fr' H)
    (wrK fr t (.bool false) fun fr1=>match want with
     | false=>opK P q S o fr1 H fun v H'=>Ck o.dst fr1 v fun fr'=>apK K fr' H'
     | true=>Ck o.dst fr1 undef fun fr'=>apK K fr' H)
  | .tuple _=>Ck o.dst fr undef fun fr'=>apK K fr' H
  | _=>False
def JK(P:w_)(q:Bool)(S:Nat→Prop)(all:List Oper)(l:List Oper):Fr→Aa→(Fr→Aa→Prop)→Prop:=
 AlL (motive:=fun _=>Fr→Aa→(Fr→Aa→Prop)→Prop) (fun fr H K=>K fr H) (fun o _ ih fr H K=>
  match o.guard with
  | none=>opK P q S o fr H fun v H'=>Ck o.dst fr v fun fr'=>ih fr' H' K
  | some (j,want)=>match(all[j]?).bind (·.dst)with
    | none=>False
    | some t=>Pb P q S o want t fr H fun fr' H'=>ih fr' H' K) l
theorem Of(P:w_)(q:Bool)(S:Nat→Prop)(all rest:List Oper)(o:Oper)(fr:Fr)(H:Aa)(K:Fr→Aa→Prop):JK P q S all (o::rest) fr H K=
  (match o.guard with
  | none=>opK P q S o fr H fun v H'=>Ck o.dst fr v fun a=>JK P q S all rest a H' K
  | some (j,want)=>match(all[j]?).bind (·.dst)with
    | none=>False
    | some t=>Pb P q S o want t fr H fun a H'=>JK P q S all rest a H' K):=rfl
theorem D5{fr:Fr}{t:Nat}{v:v_}(h:rd fr t=v)(b:v≠undef):fr.set t v=fr:=by
 unfold rd at h;rcases Yb9 t fr.length with a | a
 ·rw[Ya5,Ya2 a]at h;subst h;exact YaR a
 ·rw[Ya5,YaE a]at h;exact absurd h.symm b
theorem Hg{c:List Oper}{fr:Fr}{a:Act}(e:At fr a){j t:Nat}(f:(c[j]?).bind (·.dst)=some t){b:Bool}(d:rd fr t= .bool b):
  yielded c.toArray a.tmps j=some b:=by
 obtain⟨rfl,_⟩:=e;unfold yielded;have:((c.toArray[j]?).bind (·.dst))=some t:=by simpa using f
 rw[this];unfold rd at d;rw[Ya5]at d;simp only[YbG];cases h:a.tmps[t]? with
 | none=>simp[h,undef]at d
 | some v=>simp[h]at d;simp[d]
theorem Hh{b:List Oper}{fr:Fr}{a:Act}(d:At fr a){j t:Nat}(e:(b[j]?).bind (·.dst)=some t){vs:Array v_}(c:rd fr t= .tuple vs):
  yielded b.toArray a.tmps j=none:=by
 obtain⟨rfl,_⟩:=d;unfold yielded;have:((b.toArray[j]?).bind (·.dst))=some t:=by simpa using e
 rw[this];unfold rd at c;rw[Ya5]at c;simp only[YbG];cases h:a.tmps[t]? with
 | none=>rfl
 | some v=>simp[h]at c;simp[c]
theorem IX{P:w_}{all:List Oper}{Q:Exit→Act→y_→Prop}:∀(l:List Oper) (fr:Fr) (a:Act) (w:y_) (K:Fr→Aa→Prop),At fr a→
  (∀d a' g,At d a'→Y_ w g→K d g.heap→Q .normal a' g)→
  JK P false (fun _=>True) all l fr w.heap K→wpList P all.toArray Q l a w
 | [],fr,a,w,K,hat,hq,h=>hq fr a w hat (Y_.refl w) h
 | o::l,fr,a,w,K,hat,hq,h=>by
   have go:∀(c:Bool),(c=true→RQ P o a w fun v H'=>Ck o.dst fr v fun d=>JK P false (fun _=>True) all l d H' K)→
     (c=false→Ck o.dst fr undef fun d=>JK P false (fun _=>True) all l d w.heap K)→
     Region.wanted o (yielded all.toArray a.tmps)=c→wpList P all.toArray Q (o::l) a w:=by
    intro c p q y;unfold wpList;rw[y];cases c with
    | true=>
      refine .inl (Oper.wp_mono ?_ (p rfl _));rintro a' g ⟨v,rfl,f,u⟩;rw[Bi]at u;exact IX l _ _ _ K (hat.put o.dst v) (fun d a' r p q k=>hq d a' r p (f.trans q) k) u
    | false=>
      have k:=q rfl;rw[Bi]at k;exact IX l _ _ _ K (hat.put o.dst undef) hq k
   rw[Of]at h;split at h
   ·rename_i e;exact go true (fun _=>Cc hat h) (fun h=>by cases h) (by simp[Region.wanted,e])
   ·rename_i j c e;split at h
    ·exact h.elim
    ·rename_i t x;unfold Pb at h;simp only[apK]at h;rw[Dk]at h;split at h
     ·rename_i b m;have n:=Hg hat x m;have hs:fr.set t (.bool b)=fr:=D5 m (by simp[undef]);cases b<;>cases c<;>simp only[Ag,EG,hs]at h
      ·exact go true (fun _=>Cc hat h) (fun h=>by cases h) (by simp[Region.wanted,e,n])
      ·exact go false (fun h=>by cases h) (fun _=>h) (by simp[Region.wanted,e,n])
      ·exact go false (fun h=>by cases h) (fun _=>h) (by simp[Region.wanted,e,n])
      ·exact go true (fun _=>Cc hat h) (fun h=>by cases h) (by simp[Region.wanted,e,n])
     ·rename_i vs m;exact go false (fun h=>by cases h) (fun _=>h) (by simp[Region.wanted,e,Hh hat x m])
     ·exact h.elim
theorem AbW{P:w_}{id:Nat}{l:List Oper}{Q:Exit→Act→y_→Prop}{fr:Fr}{a:Act}{w:y_}{K:Fr→Aa→Prop}(c:At fr a)
  (e:∀b a' d,At b a'→Y_ w d→K b d.heap→Q .normal a' d)
  (h:JK P false (fun _=>True) l l fr w.heap K):(Code.region id l.toArray false).wp P Q a w:=
 wp_region_lit (IX l fr a w K c e h)
theorem GV{P:w_}{S:Nat→Prop}{all:List Oper}{w0:y_}:∀(l:List Oper) (fr:Fr) (a:Act) (K:Fr→Aa→Prop) (Q:Act→Prop),At fr a→
  (∀d a',At d a'→K d w0.heap→Q a')→
  JK P true S all l fr w0.heap K→wpQuiet P all.toArray (Cls w0 S) Q l a
 | [],fr,a,K,Q,hat,hq,h=>hq fr a hat h
 | o::l,fr,a,K,Q,hat,hq,h=>by
   have go:∀(c:Bool),(c=true→opK P true S o fr w0.heap fun v H'=>Ck o.dst fr v fun d=>JK P true S all l d H' K)→
     (c=false→Ck o.dst fr undef fun d=>JK P true S all l d w0.heap K)→
     Region.wanted o (yielded all.toArray a.tmps)=c→wpQuiet P all.toArray (Cls w0 S) Q (o::l) a:=by
    intro c p q r;unfold wpQuiet;rw[r];cases c with
    | true=>
      have⟨v,u,k⟩:=V5 hat (p rfl);rw[Bi]at k;exact⟨v,u,GV l _ _ K Q (hat.put o.dst v) hq k⟩
    | false=>
      have m:=q rfl;rw[Bi]at m;exact GV l _ _ K Q (hat.put o.dst undef) hq m
   rw[Of]at h;split at h
   ·rename_i e;exact go true (fun _=>h) (fun h=>by cases h) (by simp[Region.wanted,e])
   ·rename_i j c e;split at h
    ·exact h.elim
    ·rename_i t n;unfold Pb at h;simp only[apK]at h;rw[Dk]at h;split at h
     ·rename_i b f;have g:=Hg hat n f;have hs:fr.set t (.bool b)=fr:=D5 f (by simp[undef]);cases b<;>cases c<;>simp only[Ag,EG,hs]at h
      ·exact go true (fun _=>h) (fun h=>by cases h) (by simp[Region.wanted,e,g])
      ·exact go false (fun h=>by cases h) (fun _=>h) (by simp[Region.wanted,e,g])
      ·exact go false (fun h=>by cases h) (fun _=>h) (by simp[Region.wanted,e,g])
      ·exact go true (fun _=>h) (fun h=>by cases h) (by simp[Region.wanted,e,g])
     ·rename_i vs f;exact go false (fun h=>by cases h) (fun _=>h) (by simp[Region.wanted,e,Hh hat n f])
     ·exact h.elim
structure Au(P:w_)(l:List Oper)(fr:Fr)(H:Aa)(K:Fr→Aa→Prop):Prop where
 in_::
 out_:∀(id:Nat) (Q:Exit→Act→y_→Prop) (a:Act) (w:y_),At fr a→w.heap=H→(∀c a w,¬Q (.panic c) a w)→
  (∀fr' a' w',At fr' a'→Y_ w w'→K fr' w'.heap→Q .normal a' w')→(Code.region id l.toArray true).wp P Q a w
theorem Au.quiet{P:w_}{l:List Oper}{fr:Fr}{H:Aa}{K:Fr→Aa→Prop}(S:Nat→Prop)(f:P.follows .mixedOrders=true)
  (g:Region.lexB .any l.toArray=true) (h:JK P true S l l fr H fun b _=>∀H',A_ S H H'→K b H'):Au P l fr H K:=by
 refine⟨?_⟩;intro id Q a w e j _ k;subst j;refine wp_region_quiet (C:=Cls w S) f g ⟨⟨rfl,rfl,rfl⟩,A_.refl _ _⟩ ?_;exact GV l fr a _ _ e (fun b a' c m n d=>k b a' n c d.1 (m _ d.2)) h
theorem Zj{H H':Aa}(h:A_ (fun _=>True) H H'):H'=H:=Array.ext_getElem? fun i=>h i trivial
theorem Au.lex{P:w_}{l:List Oper}{fr:Fr}{H:Aa}{K:Fr→Aa→Prop}(f:P.follows .mixedOrders=true)
  (g:Region.lexB .any l.toArray=true) (h:JK P true (fun _=>True) l l fr H K):Au P l fr H K:=by
 refine⟨?_⟩;intro id Q a w d j _ k;subst j;refine wp_region_quiet (C:=Cls w fun _=>True) f g ⟨⟨rfl,rfl,rfl⟩,A_.refl _ _⟩ ?_;exact GV l fr a K _ d (fun e a' b m n c=>k e a' n b c.1 (by rw[Zj c.2];exact m)) h
def Ns(P:w_)(ops:Array Oper)(Q:Exit→Act→y_→Prop)(S:y_→Prop)(z:Nat):Nat→Array Bool→Act→y_→Prop
 | 0,listed,a,w=>Region.ready .any ops listed=[]∧Q .normal a w
 | fuel+1,listed,a,w=>
   (Region.ready .any ops listed=[]→Q .normal a w)∧
   ∀i∈Region.ready .any ops listed,wpOp P ops Q i (fun a' w'=>(i≠z→S w')∧Ns P ops Q S z fuel (listed.setIfInBounds i true) a' w') a w
theorem Nu{P:w_}{d:Array Oper}{Q:Exit→Act→y_→Prop}{S:y_→Prop}{z:Nat}:∀(b:Nat) (c:Array Bool) (a:Act) (w:y_),
  Ns P d Q S z b c a w→wpAny P .any d Q b c a w
 | 0,_,_,_,h=>h
 | b+1,_,_,_,h=>⟨h.1,fun i e=>wpOp_mono (fun a' f g=>Nu b _ a' f g.2) (h.2 i e)⟩
theorem Qc{P:w_}{f:Array Oper}{Q:Exit→Act→y_→Prop}{S:y_→Prop}{z:Nat}{i:Nat}{y:Oper}{v:v_}(hi:f[i]?=some y)
  (r:∀(j:Nat) (o:Oper) C b,f[j]?=some o→o.op≠ .select C b)
  (X:∀c a w,Q (.panic c) (a.put y.dst v) w→Q (.panic c) a w) (Y:i≠z) (Z:∀V,f[z]?=some V→∃e∈V.after,Region.binds .any e=true∧e.on=i):
  ∀(g:Nat) (d:Array Bool) (a:Act) (w:y_),
   (∀j t,f[j]?=some t→j≠i→d.getD j true=false→(∀e∈t.after,Region.binds .any e=true→e.on≠i)→y.apart f t=true)→
   i∈Region.ready .any f d→YieldsIf P f S y v a→S w→
   Ns P f Q S z g (d.setIfInBounds i true) (a.put y.dst v) w→Ns P f Q S z (g+1) d a w:=by
 intro g
 induction g with
 | zero=>
   intro d a w _ A I D H;refine⟨fun h=>(by rw[h]at A;cases A),fun j J=>?_⟩;by_cases l:j=i
   ·subst l;exact I.wpOp hi D ⟨fun _=>D,H⟩
   ·have:=ready_mono J l;rw[H.1]at this;cases this
 | succ g ih=>
   intro d a w m A I D H;refine⟨fun h=>(by rw[h]at A;cases A),fun j J=>?_⟩;by_cases l:j=i
   ·subst l;exact I.wpOp hi D ⟨fun _=>D,H⟩
   ·have B:=H.2 j (ready_mono J l);have⟨u,t,n,E⟩:=mem_ready.1 J;have x:∀e∈t.after,Region.binds .any e=true→e.on≠i:=fun e L M N=>by
     have B:=E e L M;have W:=(mem_ready.1 A).1;rw[N]at B;rcases Yb9 i d.size with O | O
     ·simp[O]at W B;rw[W]at B;cases B
     ·simp[Yae O]at B
    have p:j≠z:=by
     intro p;subst p;have⟨e,L,M,R⟩:=Z t n;exact x e L M R
    have h2:=wpOp_putIf n (m j t n l u x) (fun C b=>r i y C b hi) (fun C b=>r j t C b n) X I B;have q:∀k ok,f[k]?=some ok→k≠i→(d.setIfInBounds j true).getD k true=false→
      (∀e∈ok.after,Region.binds .any e=true→e.on≠i)→y.apart f ok=true:=fun k ok hk T F U=>by
     refine m k ok hk T ?_ U;by_cases G:j=k
     ·subst G;exact u
     ·rw[getD_set_ne true G]at F;exact F
    refine wpOp_mono (fun a' w' K=>⟨fun _=>K.2.1 p,ih (d.setIfInBounds j true) a' w' q (ready_mono A (Ne.symm l)) K.1 (K.2.1 p) ?_⟩) h2;rw[Array.setIfInBounds_comm _ _ l];exact K.2.2
inductive Sch where
 | e
 | q (i:Nat) (s:Sch)
 | f (i:Nat) (s:Sch)
 | b (i:Nat) (s:Sch) (j:Nat) (s':Sch)
def sq:List Nat→Sch→Sch
 | [],s=>s
 | i::l,s=>.q i (sq l s)
def R3(P:w_)(S:Nat→Prop)(z:Nat)(H0:Aa)(all:List Oper)(i:Nat)(fr:Fr)(H:Aa)(next:Fr→Aa→Prop):Prop:=
 match all[i]? with
 | none=>False
 | some o=>match o.guard with
   | some _=>False
   | none=>match Am8 i z with
     | true=>opK P false (fun _=>True) o fr H fun v H'=>Ck o.dst fr v fun fr'=>next fr' H'
     | false=>opK P false (fun _=>True) o fr H fun v H'=>A_ S H0 H'∧Ck o.dst fr v fun fr'=>next fr' H'
def QF(P:w_)(S:Nat→Prop)(z:Nat)(H0:Aa)(all:List Oper)(s:Sch):Fr→Aa→(Fr→Aa→Prop)→Prop:=
 Sch.rec (motive:=fun _=>Fr→Aa→(Fr→Aa→Prop)→Prop) (fun fr H K=>K fr H)
  (fun i _ ih fr H K=>match all[i]? with
   | none=>False
   | some o=>match o.guard with
     | some _=>False
     | none=>match I7 o&&Eg P o with
       | true=>Jw P S o fr H fun v=>Ck o.dst fr v fun fr'=>ih fr' H K
       | false=>False)
  (fun i _ ih fr H K=>R3 P S z H0 all i fr H fun fr' H'=>ih fr' H' K)
  (fun i _ j _ ih ih' fr H K=>(R3 P S z H0 all i fr H fun fr' H'=>ih fr' H' K)∧R3 P S z H0 all j fr H fun fr' H'=>ih' fr' H' K) s
theorem ZX(P:w_)(S:Nat→Prop)(z:Nat)(H0:Aa)(all:List Oper)(i:Nat)(s:Sch)(fr:Fr)(H:Aa)(K:Fr→Aa→Prop):QF P S z H0 all (.q i s) fr H K=
  (match all[i]? with
   | none=>False
   | some o=>match o.guard with
     | some _=>False
     | none=>match I7 o&&Eg P o with
       | true=>Jw P S o fr H fun v=>Ck o.dst fr v fun a=>QF P S z H0 all s a H K
       | false=>False):=rfl
def HI(ops:Array Oper)(z:Nat):Sch→Array Bool→Bool
 | .e,listed=>(Region.ready .any ops listed).isEmpty
 | .q i s,listed=>(Region.ready .any ops listed).contains i&&Region.free .any ops listed i&& !(Am8 i z)&&(decide (ops.size≤z)|| Region.waitsFor .any ops z i)&&HI ops z s (listed.setIfInBounds i true)
 | .f i s,listed=>Region.ready .any ops listed==[i]&&(!(Am8 i z)|| (match s with | .e=>true | _=>false))&&HI ops z s (listed.setIfInBounds i true)
 | .b i s j s',listed=>Region.ready .any ops listed==[i,j]&& !(Am8 i z)&& !(Am8 j z)&&HI ops z s (listed.setIfInBounds i true)&&HI ops z s' (listed.setIfInBounds j true)
def Sch.len:Sch→Nat
 | .e=>0
 | .q _ s=>s.len+1
 | .f _ s=>s.len+1
 | .b _ s _ _=>s.len+1
def Sch.even:Sch→Bool
 | .e=>true
 | .q _ s=>s.even
 | .f _ s=>s.even
 | .b _ s _ s'=>s.even&&s'.even&&s.len==s'.len
theorem HU{P:w_}{S:Nat→Prop}{z:Nat}{w0:y_}{all:List Oper}{Q:Exit→Act→y_→Prop}{i:Nat}{fr:Fr}{a:Act}{w:y_}{next:Fr→Aa→Prop}{N:Act→y_→Prop}
  (c:At fr a) (k:Y_ w0 w) (h:R3 P S z w0.heap all i fr w.heap next)
  (n:∀f a' e,At f a'→Y_ w0 e→(i≠z→Cls w0 S e)→next f e.heap→N a' e):wpOp P all.toArray Q i N a w:=by
 unfold R3 at h;split at h
 ·exact h.elim
 ·rename_i o p;have l:all.toArray[i]?=some o:=by simpa using p
  split at h
  ·exact h.elim
  ·rename_i q;have d:Region.wanted o (yielded all.toArray a.tmps)=true:=by simp[Region.wanted,q]
   unfold wpOp;rw[l];dsimp only;rw[I_ d];split at h
   ·rename_i r;refine .inl (Oper.wp_mono ?_ (Cc c h _));rintro a' e ⟨v,rfl,b,g⟩;rw[Bi]at g;exact n _ _ _ (c.put o.dst v) (k.trans b) (fun m=>absurd (Yb5 r) m) g
   ·refine .inl (Oper.wp_mono ?_ (Cc c h _));rintro a' e ⟨v,rfl,b,j,g⟩;rw[Bi]at g;exact n _ _ _ (c.put o.dst v) (k.trans b) (fun _=>⟨k.trans b,j⟩) g
theorem Eo{P:w_}{S:Nat→Prop}{z:Nat}{w0:y_}{all:List Oper}{Q:Exit→Act→y_→Prop}(hs:Region.noSelect all.toArray=true)
  (C:∀c a w,¬Q (.panic c) a w):∀(l:Sch) (d:Array Bool) (fr:Fr) (a:Act) (w:y_) (K:Fr→Aa→Prop),At fr a→(l= .e→Y_ w0 w)→(l≠ .e→Cls w0 S w)→
  (∀m a' g,At m a'→Y_ w0 g→K m g.heap→Q .normal a' g)→HI all.toArray z l d=true→l.even=true→
  QF P S z w0.heap all l fr w.heap K→Ns P all.toArray Q (Cls w0 S) z l.len d a w
 | .e,d,fr,a,w,K,hat,J,_,hq,hB,_,h=>⟨by simpa [HI]using hB,hq fr a w hat (J rfl) h⟩
 | .q i s,d,fr,a,w,K,hat,_,p,hq,hB,hev,h=>by
   have p:=p (by simp);simp only[HI,h_,Yar,Zzj,Yap]at hB;obtain⟨⟨⟨⟨y,t⟩,L⟩,D⟩,n⟩:=hB;rw[ZX]at h;split at h
   ·exact h.elim
   ·rename_i o W;have E:all.toArray[i]?=some o:=by simpa using W
    split at h
    ·exact h.elim
    ·rename_i X;have A:Region.wanted o (yielded all.toArray a.tmps)=true:=by simp[Region.wanted,X]
     split at h
     ·have⟨v,Y,r⟩:=C2 h;rw[Bi]at r;refine Qc (v:=v) E (Region.noSelect_spec hs) (fun c a' g Z=>(C _ _ _ Z).elim) (Ybx L) ?_ s.len d a w (Region.free_spec E t) (by simpa using y)
       (.inl ⟨A,fun g M=>?_⟩) p ?_
      ·intro oz B;rcases D with D | D
       ·rw[Yae D]at B;cases B
       ·have⟨oj,N,e,J,hb,O⟩:=Region.waitsFor_spec D;have:oj=oz:=Option.some.inj (N.symm.trans B);subst this;exact⟨e,J,hb,O⟩
      ·rw[hat.evalF];exact Y g fun k r=>(M.2 k r).trans (p.2 k r).symm
      ·exact Eo hs C s _ _ _ w K (hat.put o.dst v) (fun _=>p.1) (fun _=>p) hq n hev r
     ·exact h.elim
 | .f i s,d,fr,a,w,K,hat,_,p,hq,hB,hev,h=>by
   have u:=p (by simp);simp only[HI,h_,Yar,Yap,beq_iff_eq]at hB;obtain⟨⟨y,t⟩,n⟩:=hB;refine⟨(fun F=>by rw[y]at F;cases F),fun j V=>?_⟩;rw[y]at V;obtain rfl:j=i:=by simpa using V
   refine HU hat u.1 h fun m a' g G H x I=>⟨x,Eo hs C s _ _ _ g K G (fun _=>H) (fun R=>x fun T=>?_) hq n hev I⟩;rcases t with t | t
   ·exact Ybx t T
   ·cases s<;>first | exact R rfl | cases t
 | .b i s j s',d,fr,a,w,K,hat,_,p,hq,hB,hev,h=>by
   have u:=p (by simp);simp only[HI,h_,Yap,beq_iff_eq]at hB;obtain⟨⟨⟨⟨y,t⟩,L⟩,n⟩,U⟩:=hB;simp only[Sch.even,h_,beq_iff_eq]at hev;obtain⟨⟨e1,e2⟩,e3⟩:=hev;refine⟨(fun F=>by rw[y]at F;cases F),fun k r=>?_⟩;rw[y]at r;rcases Ybe.1 r with rfl | r
   ·exact HU hat u.1 h.1 fun m a' g G H x I=>⟨x,Eo hs C s _ _ _ g K G (fun _=>H) (fun _=>x (Ybx t)) hq n e1 I⟩
   ·obtain rfl:k=j:=by simpa using r
    rw[e3];exact HU hat u.1 h.2 fun m a' g G H x I=>⟨x,Eo hs C s' _ _ _ g K G (fun _=>H) (fun _=>x (Ybx L)) hq U e2 I⟩
theorem Au.held{P:w_}{l:List Oper}{fr:Fr}{H:Aa}{K:Fr→Aa→Prop}(S:Nat→Prop)(z:Nat)(b:Sch)(e:P.follows .mixedOrders=true)
  (c:(Region.noSelect l.toArray&&(b.len==l.length)&&b.even&&HI l.toArray z b (AlW l.length false))=true)
  (h:QF P S z H l b fr H K):Au P l fr H K:=by
 refine⟨?_⟩;intro id Q a w d f g j;subst f;simp only[h_,beq_iff_eq]at c;refine wp_region_any e (Nu (S:=Cls w S) (z:=z) _ _ _ _ ?_);have:=Eo (P:=P) (S:=S) (z:=z) (w0:=w) (Q:=Q) c.1.1.1 g b (AlW l.length false) fr a {w with drawn:=w.drawn+1} K d (fun _=>⟨rfl,rfl,rfl⟩) (fun _=>⟨⟨rfl,rfl,rfl⟩,A_.refl _ _⟩) j c.2 c.1.2 h;rw[c.1.1.2]at this;simpa using this
theorem Au.tail{P:w_}{l:List Oper}{fr:Fr}{H:Aa}{K:Fr→Aa→Prop}(z:Nat)(a:Sch)(b:P.follows .mixedOrders=true)
  (c:(Region.noSelect l.toArray&&(a.len==l.length)&&a.even&&HI l.toArray z a (AlW l.length false))=true)
  (h:QF P (fun _=>True) z H l a fr H K):Au P l fr H K:=Au.held _ z a b c h
theorem Au.out{P:w_}{l:List Oper}{fr:Fr}{H:Aa}{K:Fr→Aa→Prop}(h:Au P l fr H K):
  ∀(id:Nat) (Q:Exit→Act→y_→Prop) (a:Act) (w:y_),At fr a→w.heap=H→(∀c a w,¬Q (.panic c) a w)→
  (∀b a' d,At b a'→Y_ w d→K b d.heap→Q .normal a' d)→(Code.region id l.toArray true).wp P Q a w:=by
 exact h.out_
def FP(w0:y_)(Q:Exit→Fr→Aa→Prop):Exit→Act→y_→Prop
 | .panic _,_,_=>False
 | .outgrown,_,_=>False
 | e,a,w=>∃fr,At fr a∧Y_ w0 w∧Q e fr w.heap
def NN(X:List (Nat×(Fr→Aa→Prop)))(id:Nat)(fr:Fr)(H:Aa):Prop:=
 match X with
 | []=>False
 | (j,k)::X=>match Am8 j id with
   | true=>k fr H
   | false=>NN X id fr H
def Qx(kn:Fr→Aa→Prop)(X:List (Nat×(Fr→Aa→Prop)))(kr:Fr→Aa→Prop)(e:Exit)(fr:Fr)(H:Aa):Prop:=
 match e with
 | .normal=>kn fr H
 | .exit id=>NN X id fr H
 | .ret=>kr fr H
 | _=>False
structure A8(P:w_)(c:Code)(fr:Fr)(H:Aa)(X:List (Nat×(Fr→Aa→Prop)))(kr:Fr→Aa→Prop):Prop where
 in_::
 out_:∀(a:Act) (w:y_),At fr a→w.heap=H→(Code.loop c).wp P (FP w (Qx (fun _ _=>False) X kr)) a w
def IN:Code→Bool
 | .ret | .exit _ | .goto _=>false
 | .seq a b=>IN a&&IN b
 | .cond _ a b=>IN a|| IN b
 | _=>true
def GL(id:Nat):Code→Nat
 | .exit j=>match Am8 j id with
   | true=>1
   | false=>0
 | .seq a b=>GL id a+GL id b
 | .cond _ a b=>GL id a+GL id b
 | .block _ c=>GL id c
 | .loop c=>GL id c
 | _=>0
def Ku:Code→Bool
 | .seq _ b=>Ku b
 | .cond _ a b=>IN a&&IN b
 | .block id (.loop c)=>Nat.blt 1 (GL id c)
 | .block id c=>(IN c&&Nat.blt 0 (GL id c))|| Nat.blt 1 (GL id c)|| Ku c
 | _=>false
structure Af(P:w_)(x y:Code)(fr:Fr)(H:Aa)(kn:Fr→Aa→Prop)(X:List (Nat×(Fr→Aa→Prop)))(kr:Fr→Aa→Prop):Prop where
 in_::
 out_:∀(a:Act) (w:y_),At fr a→w.heap=H→(Code.seq x y).wp P (FP w (Qx kn X kr)) a w
def vc(P:w_)(c:Code):Fr→Aa→(Fr→Aa→Prop)→List (Nat×(Fr→Aa→Prop))→(Fr→Aa→Prop)→Prop:=
 Code.rec (motive:=fun _=>Fr→Aa→(Fr→Aa→Prop)→List (Nat×(Fr→Aa→Prop))→(Fr→Aa→Prop)→Prop)
  (fun fr H kn _ _=>kn fr H)
  (fun _ ops draw fr H kn _ _=>match draw with
   | false=>JK P false (fun _=>True) ops.toList ops.toList fr H kn
   | true=>Au P ops.toList fr H kn)
  (fun a b iha ihb fr H kn X kr=>match Ku a with
   | true=>Af P a b fr H kn X kr
   | false=>iha fr H (fun fr' H'=>ihb fr' H' kn X kr) X kr)
  (fun c _ _ ihx ihy fr H kn X kr=>match c with
   | .tmp t=>rdK fr t fun v=>match v with
     | .bool b=>Ag b (wrK fr t (.bool true) fun fr1=>ihx fr1 H kn X kr) (wrK fr t (.bool false) fun fr1=>ihy fr1 H kn X kr)
     | _=>False
   | .const (.bool b)=>Ag b (ihx fr H kn X kr) (ihy fr H kn X kr)
   | _=>False)
  (fun id _ ih fr H kn X kr=>ih fr H kn ((id,kn)::X) kr)
  (fun c _ fr H _ X kr=>A8 P c fr H X kr)
  (fun _ _ _ _ _ _ _ _ _ _ _=>False)
  (fun id fr H _ X _=>NN X id fr H)
  (fun _ _ _ _ _ _ _=>False)
  (fun _ _ _ _ _ _=>False)
  (fun _ _ _ _ _ _=>False)
  (fun fr H _ _ kr=>kr fr H)
  (fun _ _ _ _ _ _=>False) c
section
variable(P:w_)(a b:Code)(fr:Fr)(H:Aa)(kn:Fr→Aa→Prop)(X:List (Nat×(Fr→Aa→Prop)))(kr:Fr→Aa→Prop)
theorem Wd(id:Nat)(a:Array Oper)(b:Bool):vc P (.region id a b) fr H kn X kr=(match b with
   | false=>JK P false (fun _=>True) a.toList a.toList fr H kn
   | true=>Au P a.toList fr H kn):=rfl
theorem AfW:vc P (.seq a b) fr H kn X kr=(match Ku a with
   | true=>Af P a b fr H kn X kr
   | false=>vc P a fr H (fun c H'=>vc P b c H' kn X kr) X kr):=rfl
theorem AbU(c:z_):vc P (.cond c a b) fr H kn X kr=(match c with
   | .tmp t=>rdK fr t fun v=>match v with
     | .bool x=>Ag x (wrK fr t (.bool true) fun d=>vc P a d H kn X kr) (wrK fr t (.bool false) fun d=>vc P b d H kn X kr)
     | _=>False
   | .const (.bool x)=>Ag x (vc P a fr H kn X kr) (vc P b fr H kn X kr)
   | _=>False):=rfl
theorem YQ(id:Nat):vc P (.block id a) fr H kn X kr=vc P a fr H kn ((id,kn)::X) kr:=rfl
end
theorem A8.out{P:w_}{c:Code}{fr:Fr}{H:Aa}{X:List (Nat×(Fr→Aa→Prop))}{kr:Fr→Aa→Prop}(h:A8 P c fr H X kr):
  ∀(a:Act) (w:y_),At fr a→w.heap=H→(Code.loop c).wp P (FP w (Qx (fun _ _=>False) X kr)) a w:=by exact h.out_
theorem Af.out{P:w_}{x y:Code}{fr:Fr}{H:Aa}{kn:Fr→Aa→Prop}{X:List (Nat×(Fr→Aa→Prop))}{kr:Fr→Aa→Prop}(h:Af P x y fr H kn X kr):
  ∀(a:Act) (w:y_),At fr a→w.heap=H→(Code.seq x y).wp P (FP w (Qx kn X kr)) a w:=by exact h.out_
theorem FP.env{w0 c:y_}{Q:Exit→Fr→Aa→Prop}(b:Y_ w0 c):∀{e:Exit} {a:Act} {w:y_},FP c Q e a w→FP w0 Q e a w
 | .normal,_,_,⟨fr,h1,h2,h3⟩ | .exit _,_,_,⟨fr,h1,h2,h3⟩ | .goto _,_,_,⟨fr,h1,h2,h3⟩ | .ret,_,_,⟨fr,h1,h2,h3⟩=>⟨fr,h1,b.trans h2,h3⟩
theorem FP.mono{w0:y_}{Q Q':Exit→Fr→Aa→Prop}(b:∀e fr H,Q e fr H→Q' e fr H):∀{e:Exit} {a:Act} {w:y_},FP w0 Q e a w→FP w0 Q' e a w
 | .normal,_,_,⟨fr,h1,h2,h3⟩ | .exit _,_,_,⟨fr,h1,h2,h3⟩ | .goto _,_,_,⟨fr,h1,h2,h3⟩ | .ret,_,_,⟨fr,h1,h2,h3⟩=>⟨fr,h1,h2,b _ _ _ h3⟩
theorem MX{P:w_}{x y:Code}{kn d:Fr→Aa→Prop}{X:List (Nat×(Fr→Aa→Prop))}{kr:Fr→Aa→Prop}{a:Act}{w:y_}
  (g:x.wp P (FP w (Qx d X kr)) a w)
  (j:∀fr a' b,At fr a'→Y_ w b→d fr b.heap→y.wp P (FP b (Qx kn X kr)) a' b):(Code.seq x y).wp P (FP w (Qx kn X kr)) a w:=by
 refine wp_seq (Code.wp_mono ?_ g);intro e a' b h;cases e with
 | normal=>
   have⟨fr,k,f,m⟩:=h;exact Code.wp_mono (fun e a w h=>FP.env f h) (j fr a' b k f m)
 | exit id=>exact h
 | goto l=>exact h
 | ret=>exact h
 | panic c=>exact h
 | outgrown=>exact h
theorem BS{P:w_}:∀(c:Code) (fr:Fr) (kn:Fr→Aa→Prop) (X:List (Nat×(Fr→Aa→Prop))) (kr:Fr→Aa→Prop) (a:Act) (w:y_),At fr a→
  vc P c fr w.heap kn X kr→c.wp P (FP w (Qx kn X kr)) a w
 | .skip,fr,kn,X,kr,a,w,hat,h=>wp_skip ⟨fr,hat,Y_.refl w,h⟩
 | .region id ops draw,fr,kn,X,kr,a,w,hat,h=>by
   rw[Wd]at h;cases draw with
   | false=>
     have:=AbW (P:=P) (id:=id) (l:=ops.toList) (Q:=FP w (Qx kn X kr)) hat (fun d a' m g k f=>⟨d,g,k,f⟩) h;simpa using this
   | true=>
     have:=h.out id (FP w (Qx kn X kr)) a w hat rfl (fun _ _ _ h=>h) (fun d a' m g k f=>⟨d,g,k,f⟩);simpa using this
 | .seq x y,fr,kn,X,kr,a,w,hat,h=>by
   rw[AfW]at h;split at h
   ·exact h.out a w hat rfl
   ·exact MX (BS x fr _ X kr a w hat h) fun d a' m g _ f=>BS y d kn X kr a' m g f
 | .cond c x y,fr,kn,X,kr,a,w,hat,h=>by
   rw[AbU]at h;split at h
   ·rename_i t;rw[Dk]at h;split at h
    ·rename_i b p;have hs:fr.set t (.bool b)=fr:=D5 p (by simp[undef]);have q:a.eval (.tmp t)= .bool b:=by rw[hat.eval];exact p
     cases b<;>simp only[Ag,EG,hs]at h
     ·exact wp_cond_false q (BS y fr kn X kr a w hat h)
     ·exact wp_cond_true q (BS x fr kn X kr a w hat h)
    ·exact h.elim
   ·rename_i b;cases b<;>simp only[Ag]at h
    ·exact wp_cond_false rfl (BS y fr kn X kr a w hat h)
    ·exact wp_cond_true rfl (BS x fr kn X kr a w hat h)
   ·exact h.elim
 | .block id c,fr,kn,X,kr,a,w,hat,h=>by
   rw[YQ]at h;refine wp_block (Code.wp_mono ?_ (BS c fr kn _ kr a w hat h));intro e a' m h;cases e with
   | exit n=>
     have⟨d,g,k,f⟩:=h;simp only[Qx,NN]at f;simp only[Exit.inBlock];split at f
     ·rename_i j;have:=Yb5 j;rw[I_ this.symm];exact⟨d,g,k,f⟩
     ·rename_i j;have:id≠n:=Ybx j;rw[G_ (Ne.symm this)];exact⟨d,g,k,f⟩
   | normal=>exact h
   | goto l=>exact h
   | ret=>exact h
   | panic c=>exact h
   | outgrown=>exact h
 | .loop c,fr,kn,X,kr,a,w,hat,h=>Code.wp_mono (fun e a w=>FP.mono fun e fr H r=>by
   cases e<;>first | exact r | exact r.elim) (h.out a w hat rfl)
 | .exit id,fr,kn,X,kr,a,w,hat,h=>wp_exit ⟨fr,hat,Y_.refl w,h⟩
 | .ret,fr,kn,X,kr,a,w,hat,h=>wp_ret ⟨fr,hat,Y_.refl w,h⟩
 | .rangeFunc ..,_,_,_,_,_,_,_,h=>h.elim
 | .scope _,_,_,_,_,_,_,_,h=>h.elim
 | .label _,_,_,_,_,_,_,_,h=>h.elim
 | .goto _,_,_,_,_,_,_,_,h=>h.elim
 | .refuse _,_,_,_,_,_,_,_,h=>h.elim
noncomputable def P3{R:Type}(fr:Fr)(ts:List Nat):(List v_→R)→R:=
 AlL (motive:=fun _=>(List v_→R)→R) (fun K=>K []) (fun t _ ih K=>rdK fr t fun v=>ih fun vs=>K (v::vs)) ts
noncomputable def Tx{R:Type}(fr:Fr)(ts:List Nat)(vs:List v_)(K:Fr→R):R:=
 AlL (motive:=fun _=>List v_→Fr→R) (fun _ fr=>K fr) (fun t _ ih vs fr=>List.casesOn vs (K fr) fun v vs=>wrK fr t v fun fr'=>ih vs fr') ts vs fr
noncomputable def GR{R:Type}(f:Nat→v_)(fr:Fr)(ts:List Nat)(K:Fr→R):R:=
 AlL (motive:=fun _=>Fr→R) (fun fr=>K fr) (fun t _ ih fr=>wrK fr t (f t) fun fr'=>ih fr') ts fr
def wrs(fr:Fr):List Nat→List v_→Fr
 | t::ts,v::vs=>wrs (fr.set t v) ts vs
 | _,_=>fr
def Fj(f:Nat→v_)(fr:Fr):List Nat→Fr
 | []=>fr
 | t::ts=>Fj f (fr.set t (f t)) ts
theorem FL{R:Type}(fr:Fr):∀(ts:List Nat) (K:List v_→R),P3 fr ts K=K (ts.map (rd fr))
 | [],_=>rfl
 | t::ts,K=>by show rdK fr t (fun v=>P3 fr ts fun vs=>K (v::vs))=_;simp only[Dk,FL fr ts,YaQ]
theorem I0{R:Type}:∀(ts:List Nat) (vs:List v_) (fr:Fr) (K:Fr→R),Tx fr ts vs K=K (wrs fr ts vs)
 | [],vs,fr,K=>by cases vs<;>rfl
 | _::_,[],_,_=>rfl
 | t::ts,v::vs,fr,K=>by show wrK fr t v (fun a=>Tx a ts vs K)=_;simp only[EG,wrs];exact I0 ts vs _ K
theorem Ct{R:Type}(f:Nat→v_):∀(ts:List Nat) (fr:Fr) (K:Fr→R),GR f fr ts K=K (Fj f fr ts)
 | [],_,_=>rfl
 | t::ts,fr,K=>by show wrK fr t (f t) (fun a=>GR f a ts K)=_;simp only[EG,Fj];exact Ct f ts _ K
theorem Kr(f:Nat→v_):∀(ts:List Nat) (fr:Fr) (i:Nat),(Fj f fr ts)[i]?=if i∈ts∧i<fr.length then some (f i)else fr[i]?
 | [],fr,i=>by simp[Fj]
 | t::ts,fr,i=>by
   simp only[Fj,Kr f ts,YaF,Ybe,YaP];by_cases c:i∈ts<;>by_cases b:i<fr.length<;>by_cases a:t=i
   all_goals simp[c,b,a]
   all_goals first | (subst a;simp[b];done) | (rw[G_ (by omega)];done) | (have:¬i=t:=fun h=>a h.symm;simp[this];done) | skip
theorem J8(f:Nat→v_):∀(ts:List Nat) (fr:Fr),(Fj f fr ts).length=fr.length
 | [],_=>rfl
 | t::ts,fr=>by simp only[Fj,J8 f ts,YaF]
theorem CT{ws:List Nat}{fr a:Fr}(h:Fj (fun _=>undef) a ws=Fj (fun _=>undef) fr ws):Fj (rd a) fr ws=a:=by
 have d:a.length=fr.length:=by have:=congrArg List.length h;simpa [J8]using this
 apply YaH;intro i;rw[Kr];have b:=congrArg (fun l:List v_=>l[i]?) h;simp only[Kr,d]at b;by_cases c:i∈ws∧i<fr.length
 ·rw[I_ c];simp[rd,Ya2 (d ▸ c.2)]
 ·rw[G_ c]at b ⊢;rw[G_ c]at b;exact b.symm
theorem GD:∀(ts:List Nat) (fr:Fr),wrs fr ts (ts.map (rd fr))=fr
 | [],_=>rfl
 | t::ts,fr=>by
   have hs:fr.set t (rd fr t)=fr:=by
    unfold rd;rcases Yb9 t fr.length with a | a
    ·rw[Ya5,Ya2 a];exact YaR a
    ·exact List.set_eq_of_length_le a
   simp only[YaQ,wrs,hs];exact GD ts fr
def I9(ws:List Nat)(fr fr':Fr)(p:Prop):Prop:=
 GR (fun _=>undef) fr' ws fun a=>GR (fun _=>undef) fr ws fun b=>a=b∧p
theorem Lj{P:w_}{c:Code}{Q:Exit→Act→y_→Prop}(J:Nat→Act→y_→Prop)
  (g:∀n a w,J n a w→c.wp P (Exit.then (fun a' j=>∃q,q<n∧J q a' j) Q) a w):∀n a w,J n a w→(Code.loop c).wp P Q a w:=by
 intro A B w0 C b k r;have t:∀n a w,J n a w→∃e a' j,Q e a' j∧Arrives P (lone (b.at a (.code c:: .inLoop c::k)) r w) b k r e a' j:=by
  intro n
  induction n using Nat.strongRecOn with
  | _ n ih=>
    intro a w D;have⟨e,m,p,f,d⟩:=g n a w D b (.inLoop c::k) r;cases e with
    | normal=>
      have⟨q,u,y⟩:=f;have⟨E,F,G,z,h⟩:=ih q u m p y;exact⟨E,F,G,z,.of_steps (Steps.trans d (.one step_inLoop)) h⟩
    | exit id=>exact⟨_,m,p,f,.pass (x:=.inLoop c) rfl (fun _ _=>.inl (by simp)) d⟩
    | goto l=>exact⟨_,m,p,f,.pass (x:=.inLoop c) rfl (fun _ _=>.inl (by simp)) d⟩
    | ret=>exact⟨_,m,p,f,.pass (x:=.inLoop c) rfl (fun _ _=>.inl (by simp)) d⟩
    | panic H=>exact⟨_,m,p,f,.pass (x:=.inLoop c) rfl (fun _ _=>.inl (by simp)) d⟩
    | outgrown=>exact⟨_,m,p,f,.pass (x:=.inLoop c) rfl (fun _ _=>.inl (by simp)) d⟩
 have⟨e,a',j,f,d⟩:=t A B w0 C;exact⟨e,a',j,f,.of_steps (.one step_loop) d⟩
def O5:List Oper→List Nat→List Nat
 | [],acc=>acc
 | o::l,acc=>match o.dst with
   | some d=>d::O5 l acc
   | none=>O5 l acc
def Hf:Code→List Nat→List Nat
 | .region _ ops _,acc=>O5 ops.toList acc
 | .seq a b,acc=>Hf a (Hf b acc)
 | .cond _ a b,acc=>Hf a (Hf b acc)
 | .block _ c,acc=>Hf c acc
 | .loop c,acc=>Hf c acc
 | .scope c,acc=>Hf c acc
 | _,acc=>acc
theorem A8.mk{P:w_}{c:Code}{fr:Fr}{H:Aa}{X:List (Nat×(Fr→Aa→Prop))}{kr:Fr→Aa→Prop}{α:Type}(ts:List Nat)(enc:α→List v_)(I:α→Aa→Prop)(m:α→Aa→Nat)
  (L:P3 fr ts fun vs=>∃x,vs=enc x∧I x H)
  (G:∀(x:α) (H1:Aa) (k:Nat→v_),I x H1→GR k fr (Hf c []) fun t=>Tx t ts (enc x) fun f=>
   vc P c f H1 (fun d H'=>I9 (Hf c []) fr d (P3 d ts fun vs=>∃y,vs=enc y∧I y H'∧m y H'<m x H1)) X kr):A8 P c fr H X kr:=by
 generalize Hf c []=ws at G;refine⟨?_⟩;intro a w u M;subst M;have p:=L;rw[FL]at p;have⟨N,z,A⟩:=p
 let J (n:Nat) (a':Act) (w':y_):Prop:=∃d x,At d a'∧Y_ w w'∧Fj (fun _=>undef) d ws=Fj (fun _=>undef) fr ws∧ts.map (rd d)=enc x∧I x w'.heap∧m x w'.heap=n
 refine Lj J ?_ _ a w ⟨fr,N,u,Y_.refl w,rfl,z,A,rfl⟩;rintro n a1 K ⟨f,O,q,b,B,C,D,rfl⟩;have h:=G O K.heap (rd f) D;rw[Ct,I0,CT B,←C,GD ts f]at h;refine Code.wp_mono ?_ (BS c f _ X kr a1 K q h);intro e a2 Q g;cases e with
 | normal=>
   have⟨fr2,r,j,g⟩:=g;simp only[Qx,I9,Ct,FL]at g;have⟨E,y,R,F,S⟩:=g;exact⟨m y Q.heap,S,fr2,y,r,b.trans j,E,R,F,rfl⟩
 | exit id=>exact FP.env b g
 | goto l=>exact FP.env b g
 | ret=>exact FP.env b g
 | panic c=>exact g
 | outgrown=>exact g
theorem Af.run{P:w_}{x y:Code}{fr:Fr}{H:Aa}{kn:Fr→Aa→Prop}{X:List (Nat×(Fr→Aa→Prop))}{kr:Fr→Aa→Prop}
  (h:vc P x fr H (fun b H'=>vc P y b H' kn X kr) X kr):Af P x y fr H kn X kr:=by
 refine⟨?_⟩;intro a w c d;subst d;exact MX (BS x fr _ X kr a w c h) fun b a' e f _ g=>BS y b kn X kr a' e f g
theorem Af.cut{P:w_}{x y:Code}{fr:Fr}{H:Aa}{kn:Fr→Aa→Prop}{X:List (Nat×(Fr→Aa→Prop))}{kr:Fr→Aa→Prop}{α:Type}(ts:List Nat)(enc:α→List v_)(I:α→Aa→Prop)
  (h:vc P x fr H (fun c H'=>I9 (Hf x []) fr c (P3 c ts fun vs=>∃y,vs=enc y∧I y H')) X kr)
  (k:∀(z:α) (H1:Aa) (d:Nat→v_),I z H1→GR d fr (Hf x []) fun e=>Tx e ts (enc z) fun b=>vc P y b H1 kn X kr):Af P x y fr H kn X kr:=by
 generalize Hf x []=ws at h k;refine⟨?_⟩;intro a w f l;subst l;refine MX (BS x fr _ X kr a w f h) fun b a1 g m _ j=>?_;simp only[I9,Ct,FL]at j;have⟨n,z,p,q⟩:=j;have h:=k z g.heap (rd b) q;rw[Ct,I0,CT n,←p,GD ts b]at h;exact BS y b kn X kr a1 g m h
def ldK(P:w_)(t:x_)(p:v_)(H:Aa)(K:v_→Prop):Prop:=
 match p with
 | .pointer (some a)=>A7 P (Instr.loadAt t (.pointer (some a))) (fun _=>True) H K
 | _=>False
def P7(P:w_)(rs:List ResultVar)(fr:Fr)(H:Aa)(R:v_→Aa→Prop):Prop:=
 match rs with
 | [.tmp t]=>rdK fr t fun v=>R v H
 | []=>R (.tuple #[]) H
 | [.tmp t,.tmp u]=>rdK fr t fun v=>rdK fr u fun x=>R (.tuple #[v,x]) H
 | [.tmp t,.tmp u,.tmp y]=>rdK fr t fun v=>rdK fr u fun x=>rdK fr y fun z=>R (.tuple #[v,x,z]) H
 | [.cell a t]=>rdK fr a fun p=>ldK P t p H fun v=>R v H
 | [.cell a t,.tmp u]=>rdK fr a fun p=>ldK P t p H fun v=>rdK fr u fun x=>R (.tuple #[v,x]) H
 | [.tmp u,.cell a t]=>rdK fr a fun p=>ldK P t p H fun v=>rdK fr u fun x=>R (.tuple #[x,v]) H
 | [.cell a t,.cell b u]=>rdK fr a fun p=>ldK P t p H fun v=>rdK fr b fun q=>ldK P u q H fun x=>R (.tuple #[v,x]) H
 | _=>False
theorem EZ{P:w_}{t:x_}{p:v_}{w:y_}{K:v_→Prop}(h:ldK P t p w.heap K):
  ∃a v,p= .pointer (some a)∧(loadVar t a).run P w= .ok v w∧K v:=by
 unfold ldK at h;split at h
 ·rename_i a;have⟨v,c,k⟩:=h.out;have b:=c w (A_.refl _ _);simp[Instr.loadAt,Instr.sureAddr]at b;exact⟨a,v,rfl,b,k⟩
 ·exact h.elim
theorem MP{P:w_}{fn:Func}{fr:Fr}{a:Act}{w:y_}{R:v_→Aa→Prop}(g:At fr a)(h:P7 P fn.results.toList fr w.heap R):
  ∃v,(results fn a.tmps).run P w= .ok v w∧R v w.heap:=by
 have c:∀t,a.tmps.getD t undef=rd fr t:=fun t=>g.eval (.tmp t);have mk:∀l:List ResultVar,fn.results.toList=l→fn.results=l.toArray:=fun l m=>AlH (by simpa using m);unfold P7 at h;split at h<;>rename_i hr<;>(try simp only[Dk]at h)<;>have b:=mk _ hr
 ·exact⟨_,by simp[results,b,c],h⟩
 ·exact⟨_,by simp[results,b],h⟩
 ·exact⟨_,by simp[results,b,c],h⟩
 ·exact⟨_,by simp[results,b,c],h⟩
 ·have⟨p,v,e,f,d⟩:=EZ h;exact⟨v,by simp[results,b,c,e,asAddr,f],d⟩
 ·have⟨p,v,e,f,d⟩:=EZ h;exact⟨_,by simp[results,b,c,e,asAddr,f],d⟩
 ·have⟨p,v,e,f,d⟩:=EZ h;exact⟨_,by simp[results,b,c,e,asAddr,f],d⟩
 ·have⟨p,v,e,f,d⟩:=EZ h;have⟨n,q,j,k,d⟩:=EZ d;exact⟨_,by simp[results,b,c,e,j,asAddr,f,k],d⟩
noncomputable def MD{R:Type}(l:Fr):(Fr→R)→R:=
 AlL (motive:=fun _=>(Fr→R)→R) (fun K=>K []) (fun v _ ih K=>ih fun l'=>K (v::l')) l
theorem HM{R:Type}:∀(l:Fr) (K:Fr→R),MD l K=K l
 | [],_=>rfl
 | v::l,K=>by show MD l (fun a=>K (v::a))=_;exact HM l _
theorem Al.of_vc{P:w_}{f:FuncId}{fn:Func}{c:Code}{a:Array v_}{H:Aa}{R:v_→Aa→Prop}(q:P.funcs[f]?=some fn)(r:fn.body=some c)
  (j:∀w:y_,(callFunc f a).run P w= .ok (.enter f a) w)
  (h:MD (a.toList++AgJ (fn.ntmps-a.size) undef) fun fr=>vc P c fr H (fun k H'=>P7 P fn.results.toList k H' R) [] (fun k H'=>P7 P fn.results.toList k H' R)):
  Al P f a H R:=by
 intro w t;subst t;refine⟨j w,?_⟩;refine calls_of_wp q r ?_;rw[HM]at h;have n:At (a.toList++AgJ (fn.ntmps-a.size) undef) {tmps:=a++AlW (fn.ntmps-a.size) undef,defers:=[]}:=⟨by simp,rfl⟩;refine Code.wp_mono ?_ (BS c _ _ _ _ _ w n h);intro e a' m b;have fin:∀fr,At fr a'→Y_ w m→P7 P fn.results.toList fr m.heap R→a'.defers=[]∧∃v,(results fn a'.tmps).run P m= .ok v m∧∃p,Ending.returned v= .returned p∧Y_ w m∧R p m.heap:=by
  intro fr g b d;have⟨v,u,x⟩:=MP g d;exact⟨g.defers,v,u,v,rfl,b,x⟩
 cases e with
 | normal=>have⟨fr,g,b,d⟩:=b;exact fin fr g b d
 | ret=>have⟨fr,g,b,d⟩:=b;exact fin fr g b d
 | exit id=>have⟨fr,g,b,d⟩:=b;exact d.elim
 | goto l=>have⟨fr,g,b,d⟩:=b;exact d.elim
 | panic c=>exact b.elim
 | outgrown=>exact b.elim
structure SlT(P:w_)(t e:x_)(sz by_:Nat)(z:v_):Prop where
 under:P.underlying t=some (.slice e)
 info:∃i,P.info? e=some i∧i.size=sz∧i.bytes=by_∧i.zero=some z
 zsz:z.cells.size=sz
class CellT (P:w_) (t:x_):Prop where
 under:∃d,P.underlying t=some d∧d.isRow=false
 size:(P.info? t).map (·.size)=some 1
class AggT (P:w_) (t:x_) (n:outParam Nat):Prop where
 under:∃d,P.underlying t=some d∧d.isRow=true
 size:(P.info? t).map (·.size)=some n
class FieldT (P:w_) (s f:Nat) (off ft n:outParam Nat):Prop where
 under:∃fs fd,P.underlying s=some (.struct fs)∧fs[f]?=some fd∧fd.offset=off∧fd.type=ft
 size:(P.info? ft).map (·.size)=some n
 pos:n≠0
structure O6(P:w_)(t len e sz:Nat):Prop where
 under:P.underlying t=some (.array len e)
 size:(P.info? e).map (·.size)=some sz
def cell(H:Aa)(b o:Nat):Option v_:=match H[b]? with
 | some (.cells c _ _)=>c[o]?
 | _=>none
def AL(H:Aa)(b o:Nat)(cs:List v_):Prop:=∀j v,cs[j]?=some v→cell H b (o+j)=some v
def K_(H:Aa)(b:Nat)(e:x_)(l:List v_):Prop:=H[b]?=some (.cells l.toArray e (0,0))
theorem DF(w:y_)(b o:Nat):w.cell? ⟨b,o,none⟩=cell w.heap b o:=by
 unfold World.cell? cell;cases h:w.heap[b]? with
 | none=>rfl
 | some x=>cases x<;>rfl
theorem Lx{H H':Aa}{b o:Nat}(h:H'[b]?=H[b]?):cell H' b o=cell H b o:=by unfold cell;rw[h]
theorem AL.eq{H H':Aa}{b o:Nat}{cs:List v_}(a:AL H b o cs)(h:H'[b]?=H[b]?):AL H' b o cs:=
 fun j v c=>by rw[Lx h];exact a j v c
theorem K_.cell{H:Aa}{b:Nat}{e:x_}{l:List v_}(h:K_ H b e l)(o:Nat):YtdopnglgekglgaaGreatDoor.cell H b o=l[o]? :=by
 unfold YtdopnglgekglgaaGreatDoor.cell;rw[h];simp
theorem K_.ce{H b e l}(h:K_ H b e l){o}{v:v_}(k:l[o]?=some v):YtdopnglgekglgaaGreatDoor.cell H b o=some v:=(h.cell o).trans k
theorem K_.cellE{H:Aa}{b:Nat}{e:x_}{l:List v_}(h:K_ H b e l){o:Nat}{v:v_}(k:l[o]?=some v):YtdopnglgekglgaaGreatDoor.cell H b o=some v:=by
 rw[h.cell];exact k
theorem K_.cells{H:Aa}{b:Nat}{e:x_}{l cs:List v_}(h:K_ H b e l){o:Nat}(a:∀j v,cs[j]?=some v→l[o+j]?=some v):AL H b o cs:=
 fun j v c=>by rw[h.cell];exact a j v c
theorem K_.lt{H:Aa}{b:Nat}{e:x_}{l:List v_}(h:K_ H b e l):b<H.size:=(Yaa.1 h).1
theorem K_.eq{H H':Aa}{b:Nat}{e:x_}{l:List v_}(h:K_ H b e l)(k:H'[b]?=H[b]?):K_ H' b e l:=k.trans h
theorem K_.agr{S:Nat→Prop}{H H':Aa}{b:Nat}{e:x_}{l:List v_}(h:K_ H b e l)(k:A_ S H H')(a:S b):K_ H' b e l:=(k b a).trans h
theorem Wo{n:Nat}{H H':Aa}(h:A_ (fun k=>k<n) H H')(b:n≤H.size):n≤H'.size:=by
 rcases YbA n with a | a
 ·omega
 ·have:=h (n-1) (by omega);rw[Yad (show n-1<H.size by omega)]at this;have:=(Yaa.1 this).1;omega
theorem P2{w:y_}{H:Aa}{b o:Nat}{cs:List v_}(a:AL H b o cs)(h:w.heap[b]?=H[b]?):w.rangeAt b o cs:=fun j v c=>by
 rw[DF,Lx h];exact a j v c
theorem B_{P:w_}{t:x_}{b o:Nat}{S:Nat→Prop}{H:Aa}{K:v_→Prop}{v:v_} [ht:CellT P t](c:cell H b o=some v)(e:S b)(k:K v):
  A7 P (Instr.loadAt t (.pointer (some ⟨b,o,none⟩))) S H K:=by
 refine A7.mk v (fun w f=>?_) k;have⟨d,g,hd⟩:=ht.under;have h:w.cell? ⟨b,o,none⟩=some v:=by rw[DF,Lx (f b e)];exact c
 have a:(isAgg t).run P w= .ok false w:=by
  unfold isAgg;rw[Sem.run_bind,run_underlying g w];cases d<;>simp_all
 simp[Instr.loadAt,Instr.sureAddr,loadVar,a,load,Sem.run,h]
theorem lT{P:w_}{t:x_}{b o:Nat}{H:Aa}{K:v_→Prop}{v:v_} [ht:CellT P t](a:cell H b o=some v)(k:K v):A7 P (Instr.loadAt t (.pointer (some ⟨b,o,none⟩))) (fun _=>True) H K:=B_ a trivial k
theorem L_{P:w_}{t:x_}{b o:Nat}{S:Nat→Prop}{H:Aa}{K:v_→Prop}{cs:List v_} [ht:AggT P t cs.length](a:AL H b o cs)(c:S b)(k:K (.agg cs.toArray)):
  A7 P (Instr.loadAt t (.pointer (some ⟨b,o,none⟩))) S H K:=by
 refine A7.mk _ (fun w e=>?_) k;have⟨d,f,hd⟩:=ht.under;exact run_loadAt_mid w b o t cs d (P2 a (e b c)) f hd ht.size
theorem lN{P:w_}{t:x_}{b o:Nat}{H:Aa}{K:v_→Prop}{cs:List v_} [ht:AggT P t cs.length](a:AL H b o cs)(k:K (.agg cs.toArray)):A7 P (Instr.loadAt t (.pointer (some ⟨b,o,none⟩))) (fun _=>True) H K:=L_ a trivial k
theorem ix{P:w_}{t e:x_}{sz by_:Nat}{z:v_}{b o n cap:Nat}{k:IntKind}{i:Int}{S:Nat→Prop}{H:Aa}{K:v_→Prop}(a:SlT P t e sz by_ z)(c:0≤i)(d:i<n)
  (f:K (.pointer (some ⟨b,o+i.toNat*sz,none⟩))):A7 P (Instr.indexAt t (.slice (some ⟨b,o,none⟩) n cap) (.int k i)) S H K:=by
 obtain⟨g,h,hs,_,_⟩:=a.info;refine A7.mk _ (fun w _=>?_) f;have j:(⟨b,o,none⟩:Addr).add (i.toNat*sz)=⟨b,o+i.toNat*sz,none⟩:=Addr.add_mid _ _ _;simp[Instr.indexAt,asIntOf,run_underlying a.under,c,d,sizeOf,typeInfo,h,hs,j]
theorem Do(H:Aa)(o:Obj):A_ (fun k=>k<H.size) H (H.push o):=fun k a=>by
 rw[Array.getElem?_push,G_ (by omega)]
theorem Fd(w:y_)(o:Obj):(w.alloc o).heap=w.heap.push o:=rfl
def New(H:Aa)(K:Nat→Aa→Prop)(e:x_)(l:List v_):Prop:=
 ∀b H',b=H.size→H'.size=b+1→K_ H' b e l→A_ (fun k=>k<b) H H'→K b H'
theorem New.go{H:Aa}{K:Nat→Aa→Prop}{e:x_}{l:List v_}(h:New H K e l):K H.size (H.push (.cells l.toArray e)):=
 h H.size _ rfl (by simp) (by unfold K_;simp) (Do H _)
theorem BC{P:w_}{t:x_}{v:v_}{H:Aa}{K:v_→Aa→Prop}(l:List v_)(a:v.cells=l.toArray)
  (h:New H (fun b H'=>K (H_ b) H') t l):Ba P (Instr.box t v) H K:=by
 refine Ba.mk fun w c=>?_;subst c;exact⟨_,w.alloc (.cells l.toArray t),by simp[Instr.box,newVar,a,newRow],⟨rfl,rfl,rfl⟩,h.go⟩
theorem Aw{P:w_}{t:x_}{H:Aa}{K:v_→Aa→Prop}(z:v_)(l:List v_)(a:(P.info? t).bind (·.zero)=some z)(e:z.cells=l.toArray)
  (h:New H (fun b H'=>K (H_ b) H') t l):Ba P (Instr.alloc t true (.tuple #[])) H K:=by
 refine Ba.mk fun w f=>?_;subst f;refine⟨_,w.alloc (.cells l.toArray t),?_,⟨rfl,rfl,rfl⟩,h.go⟩;cases c:P.info? t with
 | none=>rw[c]at a;cases a
 | some i=>
   have d:i.zero=some z:=by simpa [c]using a
   simp[Instr.alloc,zeroValue,typeInfo,c,d,newVar,e,newRow]
theorem YO{P:w_}{t e:x_}{sz by_:Nat}{z:v_}{n:Nat}{vs:Array (Nat×v_)}{H:Aa}{K:v_→Aa→Prop}(a:SlT P t e sz by_ z)(l:List v_)(p:n*sz≤16777216)(q:0<n*sz)
  (c:Instr.fill (fun i=>some (i*sz,sz)) ((Array.range (n*sz)).map (z.cells[· % z.cells.size]!)) vs.toList=some l.toArray)
  (h:New H (fun b H'=>K (.slice (b_ b) n n) H') e l):Ba P (Instr.buildSlice t n vs) H K:=by
 refine Ba.mk fun w d=>?_;subst d;refine⟨_,w.alloc (.cells l.toArray e),?_,⟨rfl,rfl,rfl⟩,h.go⟩;obtain⟨f,g,hs,_,j⟩:=a.info;have k:¬(16777216<n*sz):=by omega
 have m:¬(n*sz=0):=by omega
 simp only[Instr.buildSlice,Sem.run_bind,run_underlying a.under,Result.andThen_ok,sizeOf,typeInfo,zeroValue];simp[g,hs,j,k,m,c,newRow]
theorem YS{P:w_}{t e:x_}{sz by_:Nat}{z:v_}{g j:IntKind}{l c:Int}{H:Aa}{K:v_→Aa→Prop}(k:SlT P t e sz by_ z)(n:0≤l)(d:l≤c)(p:(by_:Int)*c≤281474976710656)
  (f:c≤9223372036854775807)
  (h:New H (fun b H'=>K (.slice (b_ b) l.toNat c.toNat) H') e ((AlX (c.toNat*sz)).map (z.cells[· % z.cells.size]!))):Ba P (Instr.makeSlice t (.int g l) (.int j c)) H K:=by
 refine Ba.mk fun w q=>?_;subst q;have⟨a,r,hs,hby,u⟩:=k.info;have m:=run_make (P:=P) w t e a z k.under r u g j l c n d (by rw[hby];exact p) f;have x:madeCells z.cells (c.toNat*a.size)=((AlX (c.toNat*sz)).map (z.cells[· % z.cells.size]!)).toArray:=by
  rw[hs];unfold madeCells;apply AlH;simp
 rw[x]at m;exact⟨_,_,m,⟨rfl,rfl,rfl⟩,h.go⟩
theorem PE(w:y_)(b o:Nat)(v:v_):(w.setCell ⟨b,o,none⟩ v).heap=w.heap.modify b fun
   | .cells c d a=>.cells (c.setIfInBounds o v) d a
   | x=>x:=by
 unfold World.setCell;simp only[Option.isSome_none,Yao,if_false]
 congr 1
theorem HR{w:y_}{b o:Nat}{e:x_}{l:List v_}(a:K_ w.heap b e l)(v:v_):
  K_ (w.setCell ⟨b,o,none⟩ v).heap b e (l.set o v)∧A_ (fun k=>k≠b) w.heap (w.setCell ⟨b,o,none⟩ v).heap∧(w.setCell ⟨b,o,none⟩ v).heap.size=w.heap.size:=by
 rw[PE];refine⟨?_,fun k c=>?_,by simp⟩
 ·unfold K_ at a ⊢;rw[Yaf,I_ rfl,a];simp
 ·rw[Yaf,G_ (fun h=>c h.symm)]
theorem Fg{w:y_}{b o:Nat}{e:x_}{l:List v_}(a:K_ w.heap b e l):w.frozen? ⟨b,o,none⟩=false:=by
 unfold World.frozen?;simp only;rw[a];simp
def Turn(H:Aa)(K:Aa→Prop)(b:Nat)(e:x_)(l:List v_):Prop:=
 ∀H',K_ H' b e l→A_ (fun k=>k≠b) H H'→H'.size=H.size→K H'
theorem st1{P:w_}{t e:x_}{b o:Nat}{l:List v_}{v:v_}{H:Aa}{K:Aa→Prop} [ht:CellT P t](c:K_ H b e l)(g:o<l.length)(j:v.oneCell'=true)
  (h:Turn H K b e (l.set o v)):By P (Instr.storeAt t (.pointer (some ⟨b,o,none⟩)) v) H K:=by
 refine By.mk fun w k=>?_;subst k;have m:w.cell? ⟨b,o,none⟩=some l[o]:=by rw[DF,c.cell];simp[g]
 have⟨n,p,q⟩:=HR (o:=o) c v;refine⟨_,?_,?_,h _ n p q⟩
 ·have d:v.cells= #[v]:=by cases v<;>simp_all [Value.cells,Value.oneCell']
  have a:=run_storeCells_cells (P:=P) b o [v] 0 w (by simp[m]) (by simp[Fg c]) (by simpa using j);cases f:P.info? t with
  | none=>have:=ht.size;simp[f]at this
  | some i=>
    have hs:i.size=1:=by have:=ht.size;simpa [f]using this
    simp only[YbB]at a;simp[Instr.storeAt,Instr.sureAddr,storeVar,sizeOf,typeInfo,f,d,hs,a,World.setCells]
 ·exact⟨rfl,rfl,rfl⟩
abbrev Zak:=@st1
def As(l:List v_)(o:Nat)(cs:List v_):List v_:=l.take o++cs++l.drop (o+cs.length)
theorem Dr{l:List v_}{o:Nat}{cs:List v_}(h:o+cs.length≤l.length):(As l o cs).length=l.length:=by
 unfold As;simp;omega
theorem CZ{l:List v_}{o:Nat}{cs:List v_}(h:o+cs.length≤l.length)(j:Nat):
  (As l o cs)[j]?=if o≤j∧j<o+cs.length then cs[j-o]? else l[j]? :=by
 unfold As;rw[YaC];by_cases a:j<o
 ·rw[G_ (by omega),YaK (by simp;omega),List.getElem?_take_of_lt a]
 ·rw[YaD (by simp;omega)];simp only[YaN,Ybu (show o≤l.length by omega)];by_cases b:j<o+cs.length
  ·rw[I_ (by omega),YaK (by omega)]
  ·rw[G_ (by omega),YaD (by omega),List.getElem?_drop]
   congr 1;omega
theorem ER{b:Nat}{e:x_}:∀(cs:List v_) (o:Nat) (l:List v_) (w:y_),K_ w.heap b e l→o+cs.length≤l.length→
  K_ (w.setCells b o cs).heap b e (As l o cs)∧A_ (fun k=>k≠b) w.heap (w.setCells b o cs).heap∧(w.setCells b o cs).heap.size=w.heap.size∧Y_ w (w.setCells b o cs)
 | [],o,l,w,hb,_=>⟨by simpa [As,World.setCells]using hb,A_.refl _ _,rfl,Y_.refl w⟩
 | v::cs,o,l,w,hb,hl=>by
   simp only[j_]at hl;have⟨f,a,g⟩:=HR (o:=o) hb v;have⟨m,n,p,c⟩:=ER cs (o+1) (l.set o v) (w.setCell ⟨b,o,none⟩ v) f (by simp;omega);refine⟨?_,a.trans n,p.trans g,⟨c.os,c.tape,c.output⟩⟩;have q:As (l.set o v) (o+1) cs=As l o (v::cs):=by
    apply YaH;intro j;rw[CZ (by simp;omega),CZ (by simp;omega)];simp only[j_];by_cases h:j=o
    ·subst h;rw[G_ (by omega),I_ (by omega)];simp[show j<l.length by omega]
    ·by_cases d:o+1≤j∧j<o+1+cs.length
     ·rw[I_ d,I_ (by omega)];rw[show j-o=(j-(o+1))+1 by omega,YaL]
     ·rw[G_ d,G_ (by omega),YaP,G_ (fun a=>h a.symm)]
   rw[←q];exact m
theorem Zaa{P:w_}{t e:x_}{b o:Nat}{l cs:List v_}{H:Aa}{K:Aa→Prop}(d:(P.info? t).map (·.size)=some cs.length)(c:K_ H b e l)(f:o+cs.length≤l.length)(g:cs.all (·.oneCell')=true)
  (h:Turn H K b e (As l o cs)):By P (Instr.storeAt t (.pointer (some ⟨b,o,none⟩)) (.agg cs.toArray)) H K:=by
 refine By.mk fun w k=>?_;subst k;have a:w.there b o cs.toArray.size:=fun j m=>by
  simp only[List.size_toArray]at m;refine⟨?_,Fg c⟩;rw[DF,c.cell];simp;omega
 have⟨n,p,q,r⟩:=ER cs o l w c f;refine⟨_,run_storeAt_mid (P:=P) w b o t cs.toArray a (by simpa using d) (by simpa using g),by simpa using r,?_⟩;simpa using h _ n p q
def Sl(H:Aa)(lo:Nat)(e:x_)(sz:Nat)(v:v_)(n:Nat)(cs:List v_):Prop:=
 cs.length=n*sz∧((v= .slice none 0 0∧n=0)∨
  ∃b cap l,v= .slice (b_ b) n cap∧lo≤b∧K_ H b e l∧n≤cap∧cap≤maxLen∧l.length=cap*sz∧l.take (n*sz)=cs)
def N_(v:v_)(k:Nat):Prop:=∃o n c,v= .slice (some ⟨k,o,none⟩) n c
theorem Sl.nil(H:Aa)(lo:Nat)(e:x_)(sz:Nat):Sl H lo e sz (.slice none 0 0) 0 []:=⟨by simp,.inl ⟨rfl,rfl⟩⟩
theorem Sl.made{H:Aa}{lo:Nat}{e:x_}{sz b n cap:Nat}{l:List v_}(a:lo≤b)(f:K_ H b e l)(c:n≤cap)(g:cap≤maxLen)(d:l.length=cap*sz):
  Sl H lo e sz (.slice (b_ b) n cap) n (l.take (n*sz)):=
 ⟨by rw[YaN,d,Ybu (Ybv _ c)],.inr ⟨b,cap,l,rfl,a,f,c,g,d,rfl⟩⟩
theorem Sl.agr{S:Nat→Prop}{H H':Aa}{lo:Nat}{e:x_}{sz n:Nat}{v:v_}{cs:List v_}(h:Sl H lo e sz v n cs)(k:A_ S H H')(d:∀b,N_ v b→S b):Sl H' lo e sz v n cs:=by
 have⟨f,a⟩:=h;refine⟨f,?_⟩;rcases a with a | ⟨b,cap,l,rfl,c,g,r⟩
 ·exact .inl a
 ·exact .inr ⟨b,cap,l,rfl,c,g.agr k (d b ⟨_,_,_,rfl⟩),r⟩
theorem Sl.lt{H:Aa}{lo:Nat}{e:x_}{sz n:Nat}{v:v_}{cs:List v_}(h:Sl H lo e sz v n cs){b:Nat}(a:N_ v b):lo≤b∧b<H.size:=by
 obtain⟨o,g,c,rfl⟩:=a;rcases h.2 with⟨d,_⟩ | ⟨b',cap,l,d,f,a,r⟩
 ·cases d
 ·cases d;exact⟨f,a.lt⟩
theorem LJ{P:w_}{t D ty e:x_}{sz by_:Nat}{z:v_}{H:Aa}{K:v_→Aa→Prop}(F:SlT P t e sz by_ z){lo n m:Nat}{v x:v_}{cs news:List v_}
  (hs:Sl H lo e sz v n cs) (O:lo≤H.size) (hx:∀w:y_,w.heap=H→Src P sz D x m news w) (G:n+m≤maxLen) (hby:(n+m)*by_≤140737488355328)
  (h:∀E H',Sl H' lo e sz E (n+m) (cs++news)→A_ (fun k=>k<H.size∧¬N_ v k) H H'→H.size≤H'.size→(∀k,N_ E k→N_ v k∨H.size≤k)→K E H'):
  Ba P (Builtin.append_ #[t,D] ty [v,x].toArray) H K:=by
 refine Ba.mk fun w hw=>?_;subst hw;have⟨g,Q,p,R,hz⟩:=F.info;have u:=hx w rfl;have a:Src P g.size D x m news w:=by rw[p];exact u
 have B:news.length=m*sz:=u.newsLen;have a0:n+m≤9223372036854775807:=by simp only[maxLen]at G;omega
 have⟨C,S⟩:=hs;have d:(cs++news).length=(n+m)*sz:=by rw[Q_,C,B,YbE]
 have y:∀(base:Option Addr) (cap:Nat),v= .slice base n cap→cap<n+m→(Builtin.firstCells g.size n (.slice base n cap)).run P w.drew= .ok cs.toArray w.drew→
   ∃E T,(Builtin.append_ #[t,D] ty [v,x].toArray).run P w= .ok E T∧Y_ w T∧K E T.heap:=by
  intro base cap A I hold;subst A;have U:=run_append_grow_src (P:=P) w t D ty e g z F.under Q hz base n cap cs hold x m news a I (by omega) (growslice_fits (by omega) (by rw[R];exact hby));refine⟨_,_,U,⟨rfl,rfl,rfl⟩,?_⟩;have V:=grownCap_ge w (n+m) cap e;have W:=grownCap_le_maxLen w (n+m) cap e G;have J:K_ (w.drew.alloc (.cells ((cs++news).toArray++Builtin.zeroCells z.cells (grownCap w (n+m) cap e-(n+m))) e)).heap w.heap.size e
    ((cs++news)++(Builtin.zeroCells z.cells (grownCap w (n+m) cap e-(n+m))).toList):=by
   unfold K_;have:(w.drew.alloc (.cells ((cs++news).toArray++Builtin.zeroCells z.cells (grownCap w (n+m) cap e-(n+m))) e)).heap=w.heap.push (.cells ((cs++news).toArray++Builtin.zeroCells z.cells (grownCap w (n+m) cap e-(n+m))) e):=rfl;rw[this];simp
  refine h _ _ ⟨d,.inr ⟨w.heap.size,_,_,rfl,O,J,V,W,?_,?_⟩⟩ ?_ ?_ ?_
  ·rw[Q_,d,Array.length_toList,size_zeroCells,F.zsz,←YbE]
   congr 1;omega
  ·rw[←d,Ybi];rfl
  ·intro k q;exact Do w.heap _ k q.1
  ·show w.heap.size≤(w.heap.push _).size;simp
  ·rintro k ⟨o,n',c,q⟩;cases q;exact .inr (J_ _)
 rcases S with⟨rfl,rfl⟩ | ⟨b,cap,l,rfl,L,N,a6,X,M,r⟩
 ·have Y:cs=[]:=YaA (by simpa using C);subst Y;by_cases hm:m=0
  ·subst hm;have hn:news=[]:=YaA (by simpa using B);subst hn;refine⟨.slice none 0 0,w,?_,Y_.refl w,h _ _ (Sl.nil _ _ _ _) (A_.refl _ _) (J_ _) (fun k q=>.inl q)⟩;rcases a.kind with⟨e',q⟩ | q<;>simp[Builtin.append_,run_underlying F.under,run_underlying q,sizeOf,typeInfo,Q,a.len,a.cells]
  ·exact y none 0 rfl (by omega) (by simp[Builtin.firstCells])
 ·by_cases f:n+m≤cap
  ·have a5:n*sz+news.length≤l.length:=by rw[B,M,←YbE];exact Ybv _ f
   have U:=run_append_room_src (P:=P) w t D ty e g F.under Q b 0 n cap x m news a f
    (fun j hj=>by rw[DF,N.cell];simp[p];omega) (fun j hj=>Fg N)
   have⟨h1,h2,h3,h4⟩:=ER news (0+n*g.size) l w N (by rw[p];omega);refine⟨_,_,U,h4,h _ _ ⟨d,.inr ⟨b,cap,_,rfl,L,h1,f,X,?_,?_⟩⟩ (h2.mono fun k q=>?_) (by omega) ?_⟩
   ·rw[Dr (by rw[p];omega)];exact M
   ·rw[p,P_];unfold As;rw[r,←d,Ybi];rfl
   ·intro Z;subst Z;exact q.2 ⟨0,n,cap,rfl⟩
   ·rintro k ⟨o,n',c,q⟩;cases q;exact .inl ⟨0,n,cap,rfl⟩
  ·refine y (b_ b) cap rfl (by omega) ?_;have hc:AL w.heap b 0 cs:=N.cells fun j v A=>by
    rw[←r,YaM]at A;split at A
    ·simpa using A
    ·cases A
   have:=run_firstCells_some (P:=P) w.drew g.size n ⟨b,0,none⟩ n cap cs (by rw[p];exact C) (fun j v A=>by
    rw[Addr.add_mid];have:=P2 (w:=w.drew) (H:=w.heap) hc rfl j v A;exact this)
   exact this
structure Ty(α:Type) where
 size:Nat
 rep:(Nat→Prop)→Aa→List v_→α→Prop
 len:∀{S H cs x},rep S H cs x→cs.length=size
 frame:∀{S H H' cs x},rep S H cs x→A_ S H H'→rep S H' cs x
 mono:∀{S S' H cs x},rep S H cs x→(∀k,S k→S' k)→rep S' H cs x
def Ty.reps{α:Type}(T:Ty α)(S:Nat→Prop)(H:Aa):List v_→List α→Prop
 | cs,[]=>cs=[]
 | cs,x::xs=>∃c r,cs=c++r∧T.rep S H c x∧T.reps S H r xs
section
variable{α β:Type}{T:Ty α}{S S':Nat→Prop}{H H':Aa}
theorem Ty.reps_len:∀{xs:List α} {cs:List v_},T.reps S H cs xs→cs.length=xs.length*T.size
 | [],_,h=>by cases h;simp
 | x::xs,_,⟨c,r,rfl,h1,h2⟩=>by
   rw[Q_,T.len h1,Ty.reps_len h2,j_,Yby];omega
theorem Ty.reps_frame(k:A_ S H H'):∀{xs:List α} {cs:List v_},T.reps S H cs xs→T.reps S H' cs xs
 | [],_,h=>h
 | x::xs,_,⟨c,r,e,h1,h2⟩=>⟨c,r,e,T.frame h1 k,Ty.reps_frame k h2⟩
theorem Ty.reps_mono(k:∀i,S i→S' i):∀{xs:List α} {cs:List v_},T.reps S H cs xs→T.reps S' H cs xs
 | [],_,h=>h
 | x::xs,_,⟨c,r,e,h1,h2⟩=>⟨c,r,e,T.mono h1 k,Ty.reps_mono k h2⟩
theorem Ty.reps_append:∀{xs ys:List α} {cs ds:List v_},T.reps S H cs xs→T.reps S H ds ys→T.reps S H (cs++ds) (xs++ys)
 | [],_,_,_,h,h'=>by cases h;simpa using h'
 | x::xs,_,_,_,⟨c,r,e,h1,h2⟩,h'=>⟨c,r++_,by rw[e,YaC],h1,Ty.reps_append h2 h'⟩
theorem Ty.reps_one{c:List v_}{x:α}(h:T.rep S H c x):T.reps S H c [x]:=⟨c,[],by simp,h,rfl⟩
theorem Ty.reps_snoc{xs:List α}{cs c:List v_}{x:α}(h:T.reps S H cs xs)(a:T.rep S H c x):T.reps S H (cs++c) (xs++[x]):=Ty.reps_append h (Ty.reps_one a)
theorem Ty.reps_get:∀{xs:List α} {cs:List v_} {i:Nat} {x:α},T.reps S H cs xs→xs[i]?=some x→∃l c r,cs=l++c++r∧l.length=i*T.size∧T.rep S H c x
 | x::xs,_,0,y,⟨c,r,e,h1,h2⟩,hx=>by
   simp at hx;subst hx;exact⟨[],c,r,by simp[e],by simp,h1⟩
 | x::xs,_,i+1,y,⟨c,r,e,h1,h2⟩,hx=>by
   simp at hx;have⟨l,a,b,d,f,g⟩:=Ty.reps_get h2 hx;exact⟨c++l,a,b,by simp[e,d,YaC],by rw[Q_,T.len h1,f,Yby];omega,g⟩
theorem AL.mid{b o:Nat}{l c r:List v_}(h:AL H b o (l++c++r)):AL H b (o+l.length) c:=fun j v a=>by
 have:=h (l.length+j) v (by
  rw[YaC,YaD (by omega),YaK (by
   have:=(X_.1 a).1;omega)]
  rw[show l.length+j-l.length=j by omega];exact a)
 rw[←Nat.add_assoc]at this;exact this
theorem AL.right{b o:Nat}{l r:List v_}(h:AL H b o (l++r)):AL H b (o+l.length) r:=by
 have:=AL.mid (H:=H) (b:=b) (o:=o) (l:=l) (c:=r) (r:=[]) (by simpa using h);simpa using this
theorem AL.one{b o:Nat}{v:v_}(h:AL H b o [v]):cell H b o=some v:=by have:=h 0 v rfl;simpa using this
end
def inK(k:IntKind)(x:Int):Prop:=k.min≤x∧x≤k.max
def DB(k:IntKind):Ty Int where
 size:=1
 rep _ _ cs x:=cs=[.int k x]∧inK k x
 len h:=by rw[h.1];rfl
 frame h _:=h
 mono h _:=h
def Bd:Ty Bool where
 size:=1
 rep _ _ cs x:=cs=[.bool x]
 len h:=by rw[h];rfl
 frame h _:=h
 mono h _:=h
def Cp:Ty ByteArray where
 size:=1
 rep _ _ cs x:=cs=[.string x]∧x.size≤maxLen
 len h:=by rw[h.1];rfl
 frame h _:=h
 mono h _:=h
def S_{α:Type}(T:Ty α)(S:Nat→Prop)(H:Aa)(a:Option Addr)(cap:Nat)(xs:List α):Prop:=
 match a with
 | none=>xs=[]∧cap=0
 | some ad=>xs.length≤cap∧cap≤maxLen∧(cap=0∨ad.spot=none∧S ad.block∧∃ec,AL H ad.block ad.off ec∧T.reps S H ec xs)
theorem S_.intro{α:Type}{T:Ty α}{S:Nat→Prop}{H:Aa}{b o cap:Nat}{xs:List α}{ec:List v_}(a:S b)(c:xs.length≤cap)(d:cap≤maxLen)(e:AL H b o ec)(f:T.reps S H ec xs):S_ T S H (some ⟨b,o,none⟩) cap xs:=
 ⟨c,d,.inr ⟨rfl,a,ec,e,f⟩⟩
theorem S_.frame{α:Type}{T:Ty α}{S:Nat→Prop}{H H':Aa}{a:Option Addr}{cap:Nat}{xs:List α}(h:S_ T S H a cap xs)(k:A_ S H H'):S_ T S H' a cap xs:=by
 cases a with
 | none=>exact h
 | some m=>
   obtain⟨b,c,e | ⟨f,d,g,j,l⟩⟩:=h
   ·exact⟨b,c,.inl e⟩
   ·exact⟨b,c,.inr ⟨f,d,g,j.eq (k _ d),Ty.reps_frame k l⟩⟩
theorem S_.mono{α:Type}{T:Ty α}{S S':Nat→Prop}{H:Aa}{a:Option Addr}{cap:Nat}{xs:List α}(h:S_ T S H a cap xs)(k:∀i,S i→S' i):S_ T S' H a cap xs:=by
 cases a with
 | none=>exact h
 | some m=>
   obtain⟨b,c,d | ⟨e,f,g,j,l⟩⟩:=h
   ·exact⟨b,c,.inl d⟩
   ·exact⟨b,c,.inr ⟨e,k _ f,g,j,Ty.reps_mono k l⟩⟩
theorem S_.le{α:Type}{T:Ty α}{S:Nat→Prop}{H:Aa}{a:Option Addr}{cap:Nat}{xs:List α}(h:S_ T S H a cap xs):xs.length≤cap∧cap≤maxLen:=by
 cases a with
 | none=>obtain⟨rfl,rfl⟩:=h;simp
 | some b=>exact⟨h.1,h.2.1⟩
def tSl{α:Type}(T:Ty α):Ty (List α) where
 size:=1
 rep S H cs xs:=∃a cap,cs=[.slice a xs.length cap]∧S_ T S H a cap xs
 len:=by rintro S H cs x ⟨a,cap,rfl,_⟩;rfl
 frame:=by rintro S H H' cs x ⟨a,cap,e,h⟩ k;exact⟨a,cap,e,h.frame k⟩
 mono:=by rintro S S' H cs x ⟨a,cap,e,h⟩ k;exact⟨a,cap,e,h.mono k⟩
theorem S_.get{α:Type}{T:Ty α}{S:Nat→Prop}{H:Aa}{a:Option Addr}{cap i:Nat}{xs:List α}{x:α}(h:S_ T S H a cap xs)(d:xs[i]?=some x):
  ∃b o c,a=some ⟨b,o,none⟩∧S b∧AL H b (o+i*T.size) c∧T.rep S H c x:=by
 cases a with
 | none=>obtain⟨rfl,_⟩:=h;simp at d
 | some e=>
   have⟨b,o,n⟩:=e;obtain⟨p,q,t | ⟨rfl,f,u,g,j⟩⟩:=h
   ·have:=(X_.1 d).1;omega
   obtain⟨l,c,r,rfl,k,m⟩:=Ty.reps_get j d;exact⟨b,o,c,rfl,f,by rw[←k];exact g.mid,m⟩
theorem u_{α:Type}{T:Ty α}{P:w_}{t e by_:Nat}{z:v_}{cap i:Nat}{k:IntKind}{j:Int}{S S0:Nat→Prop}{H:Aa}{K:v_→Prop}{a:Option Addr}{xs:List α}{x:α}
  (f:SlT P t e T.size by_ z) (h:S_ T S H a cap xs) (d:xs[i]?=some x) (g:j=(i:Int))
  (l:∀b o c,S b→AL H b o c→T.rep S H c x→K (.pointer (some ⟨b,o,none⟩))):A7 P (Instr.indexAt t (.slice a xs.length cap) (.int k j)) S0 H K:=by
 obtain⟨b,o,c,rfl,m,n,p⟩:=h.get d;subst g;have q:=(X_.1 d).1;exact ix f (by omega) (by omega) (by simpa using l b _ c m n p)
theorem fa{P:w_}{s f off d n b o:Nat}{S:Nat→Prop}{H:Aa}{K:v_→Prop} [ht:FieldT P s f off d n](k:K (.pointer (some ⟨b,o+off,none⟩))):
  A7 P (Instr.fieldAt s (.pointer (some ⟨b,o,none⟩)) f) S H K:=by
 obtain⟨fs,a,e,g,rfl,rfl⟩:=ht.under;refine A7.mk _ (fun w _=>?_) k;cases c:P.info? a.type with
 | none=>have:=ht.size;simp[c]at this
 | some i=>
   have hs:i.size=n:=by have:=ht.size;simpa [c]using this
   have h:=ht.pos;have j:(⟨b,o,none⟩:Addr).add a.offset=⟨b,o+a.offset,none⟩:=Addr.add_mid _ _ _;simp[Instr.fieldAt,run_underlying e,g,Instr.sureAddr,fieldPlace,sizeOf,typeInfo,c,hs,h,j]
abbrev F_:=@fa
theorem ixa{P:w_}{t len e sz b o:Nat}{k:IntKind}{i:Int}{S:Nat→Prop}{H:Aa}{K:v_→Prop}(a:O6 P t len e sz)(f:0≤i)(g:i<len)
  (h:K (.pointer (some ⟨b,o+i.toNat*sz,none⟩))):A7 P (Instr.indexAt t (.pointer (some ⟨b,o,none⟩)) (.int k i)) S H K:=by
 refine A7.mk _ (fun w _=>?_) h;cases c:P.info? e with
 | none=>have:=a.size;simp[c]at this
 | some d=>
   have hs:d.size=sz:=by have:=a.size;simpa [c]using this
   have j:(⟨b,o,none⟩:Addr).add (i.toNat*sz)=⟨b,o+i.toNat*sz,none⟩:=Addr.add_mid _ _ _;simp[Instr.indexAt,asIntOf,run_underlying a.under,Instr.sureAddr,f,g,sizeOf,typeInfo,c,hs,j]
theorem Ov{P:w_}{t off:Nat}{cs:Array v_}{v:v_} [ht:CellT P t](b:cs[off]?=some v)(w:y_):(part t cs off).run P w= .ok v w:=by
 have⟨d,c,hd⟩:=ht.under;have a:(isAgg t).run P w= .ok false w:=by
  unfold isAgg;rw[Sem.run_bind,run_underlying c w];cases d<;>simp_all
 simp[part,a,b]
theorem VP{P:w_}{t off n:Nat}{cs:Array v_} [ht:AggT P t n](w:y_):(part t cs off).run P w= .ok (.agg (cs.extract off (off+n))) w:=by
 have⟨d,c,hd⟩:=ht.under;have a:(isAgg t).run P w= .ok true w:=by
  unfold isAgg;rw[Sem.run_bind,run_underlying c w];cases d<;>simp_all
 cases b:P.info? t with
 | none=>have:=ht.size;simp[b]at this
 | some i=>
   have hs:i.size=n:=by have:=ht.size;simpa [b]using this
   simp[part,a,sizeOf,typeInfo,b,hs]
theorem OX{P:w_}{s f off a n:Nat}{cs:Array v_}{v:v_}{S:Nat→Prop}{H:Aa}{K:v_→Prop} [ht:FieldT P s f off a n] [hc:CellT P a](b:cs[off]?=some v)(k:K v):
  A7 P (Instr.field s (.agg cs) f) S H K:=by
 obtain⟨fs,e,c,d,rfl,rfl⟩:=ht.under;refine A7.mk _ (fun w _=>?_) k;simp[Instr.field,run_underlying c,d,asAgg,Ov b]
theorem ixv1{P:w_}{t len e sz:Nat}{k:IntKind}{i:Int}{cs:Array v_}{v:v_}{S:Nat→Prop}{H:Aa}{K:v_→Prop}(a:O6 P t len e sz) [hc:CellT P e](d:0≤i)(f:i<len)
  (g:cs[i.toNat*sz]?=some v) (h:K v):A7 P (Instr.index t (.agg cs) (.int k i)) S H K:=by
 refine A7.mk _ (fun w _=>?_) h;cases b:P.info? e with
 | none=>have:=a.size;simp[b]at this
 | some c=>
   have hs:c.size=sz:=by have:=a.size;simpa [b]using this
   simp[Instr.index,asIntOf,run_underlying a.under,d,f,sizeOf,typeInfo,b,hs,Ov g]
theorem EU{P:w_}{t len e sz:Nat}{vs:Array (Nat×v_)}{S:Nat→Prop}{H:Aa}{K:v_→Prop}(b:O6 P t len e sz)(z:v_)(c:(P.info? t).bind (·.zero)=some z)(l:List v_)
  (h:Instr.fill (fun i=>some (i*sz,sz)) z.cells vs.toList=some l.toArray) (k:K (.agg l.toArray)):A7 P (Instr.build t vs) S H K:=by
 refine A7.mk _ (fun w _=>?_) k;cases d:P.info? e with
 | none=>have:=b.size;simp[d]at this
 | some f=>
   have hs:f.size=sz:=by have:=b.size;simpa [d]using this
   cases a:P.info? t with
   | none=>rw[a]at c;cases c
   | some j=>
     have g:j.zero=some z:=by simpa [a]using c
     simp[Instr.build,zeroValue,typeInfo,a,g,run_underlying b.under,sizeOf,d,hs,h]
theorem Ah{P:w_}{t:Nat}{fs:Array Field}{vs:Array (Nat×v_)}{S:Nat→Prop}{H:Aa}{K:v_→Prop}(m:P.underlying t=some (.struct fs))(b:fs.toList.all (fun f=>(P.info? f.type).isSome)=true)
  (z:v_) (c:(P.info? t).bind (·.zero)=some z) (l:List v_)
  (n:Instr.fill (fun i=>(fs.toList.map fun f=>(f.offset,P.cellsOf f.type))[i]?) z.cells vs.toList=some l.toArray) (k:K (.agg l.toArray)):A7 P (Instr.build t vs) S H K:=by
 refine A7.mk _ (fun w _=>?_) k;cases a:P.info? t with
 | none=>rw[a]at c;cases c
 | some p=>
   have d:p.zero=some z:=by simpa [a]using c
   have q:∀(l:List Field),l.all (fun f=>(P.info? f.type).isSome)=true→(l.mapM fun f=>(do pure (f.offset,←sizeOf f.type):Sem (Nat×Nat))).run P w= .ok (l.map fun f=>(f.offset,P.cellsOf f.type)) w:=by
    intro l
    induction l with
    | nil=>intro _;simp
    | cons f l r=>
      intro h;simp only[Ybn,h_]at h;have⟨u,x⟩:=Option.isSome_iff_exists.1 h.1;have e:(sizeOf f.type).run P w= .ok (P.cellsOf f.type) w:=by simp[sizeOf,typeInfo,x,Program.cellsOf]
      simp only[List.mapM_cons,Sem.run_bind,e,Result.andThen_ok,Sem.run_pure,r h.2,YaQ]
   have g:(fs.mapM fun f=>(do pure (f.offset,←sizeOf f.type):Sem (Nat×Nat))).run P w= .ok (fs.toList.map fun f=>(f.offset,P.cellsOf f.type)).toArray w:=by
    rw[Array.mapM_eq_mapM_toList];rw[show(List.toArray <$> fs.toList.mapM fun f=>(do pure (f.offset,←sizeOf f.type):Sem (Nat×Nat)))=(do let l ←fs.toList.mapM fun f=>(do pure (f.offset,←sizeOf f.type):Sem (Nat×Nat));pure l.toArray)from rfl];rw[Sem.run_bind,q _ b];simp
   have j:(zeroValue t).run P w= .ok z w:=by simp[zeroValue,typeInfo,a,d]
   simp only[Instr.build,Sem.run_bind,j,Result.andThen_ok,run_underlying m];rw[g];simp only[Result.andThen_ok,List.getElem?_toArray,n,Sem.run_pure]
theorem D1{P:w_}{t e:x_}{by_:Nat}{z:v_}{j k:IntKind}{l c:Int}{H:Aa}{K:v_→Aa→Prop}(m:SlT P t e 1 by_ z)(r:z.oneCell'=true)(n:0≤l)(d:l≤c)(p:(by_:Int)*c≤281474976710656)
  (f:c≤9223372036854775807)
  (h:New H (fun b H'=>K (.slice (b_ b) l.toNat c.toNat) H') e (AgJ c.toNat z)):Ba P (Instr.makeSlice t (.int j l) (.int k c)) H K:=by
 refine YS m n d p f ?_;have g:z.cells= #[z]:=by cases z<;>simp_all [Value.cells,Value.oneCell']
 have q:((AlX (c.toNat*1)).map (z.cells[· % z.cells.size]!))=AgJ c.toNat z:=by
  rw[g,Yb3];apply YaH;intro i;simp only[t_,Ya9];by_cases a:i<c.toNat
  ·rw[Ybf a,I_ a];simp[Nat.mod_one]
  ·rw[YaE (by simpa using a),G_ a]<;>rfl
 rw[q];exact h
theorem Iz{k:IntKind}{x:Int}(h:inK k x):k.wrap x=x:=by
 have⟨a,b⟩:=h;unfold IntKind.wrap;cases k<;>simp only[IntKind.min,IntKind.max,IntKind.signed,IntKind.bits,if_true,Yao,if_false,AlS,AnL,AlT]at a b ⊢ <;>simp only[Yaq,Yas,Zzj,Yao,if_false,ge_iff_le]<;>(try split)<;>omega
theorem w64{x:Int}(a: -9223372036854775808≤x)(b:x≤9223372036854775807):IntKind.wrap .i64 x=x:=Iz ⟨a,b⟩
theorem n_{x:Int}(h:-9223372036854775808≤x∧x≤9223372036854775807):IntKind.wrap .i64 x=x:=w64 h.1 h.2
theorem R_(x:Int)(h:-9223372036854775808≤x+1∧x+1≤9223372036854775807):IntKind.wrap .i64 (x+1)=x+1:=w64 h.1 h.2
theorem w8{x:Int}(a:0≤x)(b:x≤255):IntKind.wrap .u8 x=x:=Iz ⟨a,b⟩
theorem Es{k:IntKind}{x:Nat}(h:inK k (x:Int)):x<2^k.bits:=by
 obtain⟨_,a⟩:=h;cases k<;>simp only[IntKind.max,IntKind.signed,IntKind.bits,if_true,Yao,if_false,AlS,AnL,AlT]at a ⊢ <;>omega
theorem Xo{k:IntKind}{x y:Nat}(h:inK k (x:Int))(a:y≤x):inK k (y:Int):=by
 obtain⟨_,b⟩:=h;refine⟨?_,by omega⟩;cases k<;>simp only[IntKind.min,IntKind.signed,IntKind.bits,if_true,Yao,if_false,AlS,AlT]<;>omega
theorem AcE{x:Nat}(h:x<18446744073709551616):inK .u64 (x:Int):=⟨by simp[IntKind.min,IntKind.signed],by simp[IntKind.max,IntKind.signed,IntKind.bits];omega⟩
theorem Co{x:Nat}(h:x<9223372036854775808):inK .i64 (x:Int):=by
 refine⟨?_,by simp[IntKind.max,IntKind.signed,IntKind.bits];omega⟩;have:IntKind.i64.min= -9223372036854775808:=by decide
 omega
theorem Lo{x:Nat}(h:x<256):inK .u8 (x:Int):=⟨by simp[IntKind.min,IntKind.signed],by simp[IntKind.max,IntKind.signed,IntKind.bits];omega⟩
theorem RH{P:w_}{t:x_}{x y:z_}{k:IntKind}{a b:Nat}{S:Nat→Prop}{H:Aa}{K:v_→Prop}(c:inK k (a:Int))(d:inK k (b:Int))(e:K (.int k ((a &&& b:Nat):Int))):
  A7 P (do eqGuard .and t x y (.int k a) (.int k b);binOp .and t (.int k a) (.int k b)) S H K:=by
 refine A7.mk _ (fun w _=>?_) e;have f:(Am9 k.bits (a:Int) &&& Am9 k.bits (b:Int)).toNat=a &&& b:=by
  simp only[Yal,BitVec.toNat_and,Yam,Ybs (Es c),Ybs (Es d)]
 simp[C8,binOp,Op.intBits,Ybs (Es c),Ybs (Es d),Iz (Xo c (Nat.and_le_left))]
theorem AeW{k:IntKind}{a b:Nat}(c:inK k (a:Int))(d:inK k (b:Int)):inK k ((a ||| b:Nat):Int):=by
 have⟨g,e⟩:=c;have⟨h,f⟩:=d;refine⟨?_,?_⟩
 ·cases k<;>simp only[IntKind.min,IntKind.signed,IntKind.bits,if_true,Yao,if_false,AlS,AlT]<;>omega
 ·cases k<;>simp only[IntKind.max,IntKind.signed,IntKind.bits,if_true,Yao,if_false,AlS,AlT]at e f ⊢
  ·have:=Ybt (n:=7) (x:=a) (y:=b) (by omega) (by omega);omega
  ·have:=Ybt (n:=15) (x:=a) (y:=b) (by omega) (by omega);omega
  ·have:=Ybt (n:=31) (x:=a) (y:=b) (by omega) (by omega);omega
  ·have:=Ybt (n:=63) (x:=a) (y:=b) (by omega) (by omega);omega
  ·have:=Ybt (n:=8) (x:=a) (y:=b) (by omega) (by omega);omega
  ·have:=Ybt (n:=16) (x:=a) (y:=b) (by omega) (by omega);omega
  ·have:=Ybt (n:=32) (x:=a) (y:=b) (by omega) (by omega);omega
  ·have:=Ybt (n:=64) (x:=a) (y:=b) (by omega) (by omega);omega
theorem vor{P:w_}{t:x_}{x y:z_}{k:IntKind}{a b:Nat}{S:Nat→Prop}{H:Aa}{K:v_→Prop}(c:inK k (a:Int))(d:inK k (b:Int))(e:K (.int k ((a ||| b:Nat):Int))):
  A7 P (do eqGuard .or t x y (.int k a) (.int k b);binOp .or t (.int k a) (.int k b)) S H K:=by
 refine A7.mk _ (fun w _=>?_) e;have f:(Am9 k.bits (a:Int) ||| Am9 k.bits (b:Int)).toNat=a ||| b:=by
  simp only[Yal,BitVec.toNat_or,Yam,Ybs (Es c),Ybs (Es d)]
 simp[C8,binOp,Op.intBits,Ybs (Es c),Ybs (Es d),Iz (AeW c d)]
theorem AbV{P:w_}{t:x_}{x y:z_}{k c:IntKind}{a b:Nat}{S:Nat→Prop}{H:Aa}{K:v_→Prop}(d:b≤k.bits)(e:K (.int k ((a / 2^b:Nat):Int))):
  A7 P (do eqGuard .shr t x y (.int k a) (.int c b);binOp .shr t (.int k a) (.int c b)) S H K:=by
 refine A7.mk _ (fun w _=>?_) e;have f:((a:Int).fdiv (2^b))=((a / 2^b:Nat):Int):=by
  rw[Int.fdiv_eq_ediv_of_nonneg _ (by exact_mod_cast l_ _)]
  push_cast;rfl
 have e2:min b k.bits=b:=Ybu d;have g:¬((b:Int)<0):=by omega
 simp[C8,binOp,Op.shift,e2,g,f]
theorem AfY{P:w_}{t:x_}{x y:z_}{k d:IntKind}{a b:Nat}{S:Nat→Prop}{H:Aa}{K:v_→Prop}(e:b≤k.bits)(c:inK k ((a*2^b:Nat):Int))(f:K (.int k ((a*2^b:Nat):Int))):
  A7 P (do eqGuard .shl t x y (.int k a) (.int d b);binOp .shl t (.int k a) (.int d b)) S H K:=by
 refine A7.mk _ (fun w _=>?_) f;have e2:min b k.bits=b:=Ybu e;have g:¬((b:Int)<0):=by omega
 have h:(a:Int)*2^b=((a*2^b:Nat):Int):=by push_cast;rfl
 simp only[C8,binOp,Op.shift,Sem.run_bind,Result.andThen_ok,g,if_false,Yau,e2,h,Iz c,Sem.run_pure]
theorem MU{P:w_}{t m D D':Nat}{a bs:Array v_}{la lb:List Lit}(e:P.keyTypeAt m t=true)(p:m≤10000)(f:P.eqGuardType P.depth t=false)
  (fa:(Value.agg a).formed P t=true) (fb:(Value.agg bs).formed P t=true) (g:P.keyLits D t a.toList=some la) (h:P.keyLits D' t bs.toList=some lb) {r:Bool} (j:r=true↔la=lb)
  {op:BinOp} (b:op= .eql∨op= .neq) (x y:z_) (w:y_):
  (do eqGuard op t x y (.agg a) (.agg bs);binOp op t (.agg a) (.agg bs):Sem v_).run P w= .ok (.bool (if op matches .eql then r else !r)) w:=by
 have⟨k,d,l⟩:=run_equalIn_deep (10000-m) m t e w D D' (.agg a) (.agg bs) la lb fa fb g h;rw[show 10000-m+m=10000 by omega]at d;have c:k=r:=by rw[Bool.eq_iff_iff,l,j]
 subst c;have n:program.run P w= .ok P w:=rfl;rcases b with rfl | rfl<;>simp[eqGuard,n,f,binOp,Op.equal,Op.maxDepth,d]
theorem veq{P:w_}{t m D D':Nat}{a bs:Array v_}{la lb:List Lit}{x y:z_}{S:Nat→Prop}{H:Aa}{K:v_→Prop}(b:P.keyTypeAt m t=true)(c:m≤10000)(d:P.eqGuardType P.depth t=false)
  (fa:(Value.agg a).formed P t=true) (fb:(Value.agg bs).formed P t=true) (e:P.keyLits D t a.toList=some la) (f:P.keyLits D' t bs.toList=some lb) {r:Bool} (g:r=true↔la=lb) (k:K (.bool r)):
  A7 P (do eqGuard .eql t x y (.agg a) (.agg bs);binOp .eql t (.agg a) (.agg bs)) S H K:=
 A7.mk _ (fun w _=>MU b c d fa fb e f g (.inl rfl) x y w) k
theorem AfX{P:w_}{t m D D':Nat}{a bs:Array v_}{la lb:List Lit}{x y:z_}{S:Nat→Prop}{H:Aa}{K:v_→Prop}(b:P.keyTypeAt m t=true)(c:m≤10000)(d:P.eqGuardType P.depth t=false)
  (fa:(Value.agg a).formed P t=true) (fb:(Value.agg bs).formed P t=true) (e:P.keyLits D t a.toList=some la) (f:P.keyLits D' t bs.toList=some lb) {r:Bool} (g:r=true↔la=lb) (k:K (.bool (!r))):
  A7 P (do eqGuard .neq t x y (.agg a) (.agg bs);binOp .neq t (.agg a) (.agg bs)) S H K:=
 A7.mk _ (fun w _=>MU b c d fa fb e f g (.inr rfl) x y w) k
def AZ(P:w_)(f:FuncId)(args:Array v_)(H:Aa)(v:v_):Prop:=
 Al P f args H fun v' H'=>v'=v∧A_ (fun k=>k<H.size) H H'
def D_(H:Aa)(k:Nat):Prop:=k<H.size
theorem A_.new{H H':Aa}{q:Nat}(h:A_ (fun k=>k<q) H H')(a:q=H.size):A_ (D_ H) H H':=by
 subst a;exact h
theorem Ae{H H':Aa}(h:A_ (D_ H) H H'){k:Nat}(a:D_ H k):k<H'.size:=by
 have b:=h k a;unfold D_ at a;rw[Yad a]at b;exact(Yaa.1 b).1
theorem Ap{H H':Aa}(h:A_ (D_ H) H H'):H.size≤H'.size:=Wo h (J_ _)
theorem EK{P:w_}{f:FuncId}{a:Array v_}{H:Aa}{K:v_→Prop}{v:v_}
  (h:∀H',A_ (D_ H) H H'→AZ P f a H' v) (k:K v):IF P f a (D_ H) H K:=
 IF.mk v (fun H' b=>(h H' b).mono fun g H'' ⟨e,c⟩=>⟨e,c.mono fun k d=>Ae b d⟩) k
theorem Ak{P:w_}{f:FuncId}{a:Array v_}{H:Aa}{K:v_→Aa→Prop}{v:v_}
  (h:AZ P f a H v) (k:∀H',A_ (D_ H) H H'→K v H'):Aj P f a H K:=
 Aj.mk h fun c H' ⟨e,b⟩=>by subst e;exact k H' b
instance ct3:CellT prog 3:=⟨⟨_,rfl,rfl⟩,rfl⟩
instance ct4:CellT prog 4:=⟨⟨_,rfl,rfl⟩,rfl⟩
instance ct5:CellT prog 5:=⟨⟨_,rfl,rfl⟩,rfl⟩
instance ag7:AggT prog 7 4:=⟨⟨_,rfl,rfl⟩,rfl⟩
instance ag8:AggT prog 8 4:=⟨⟨_,rfl,rfl⟩,rfl⟩
instance ct9:CellT prog 9:=⟨⟨_,rfl,rfl⟩,rfl⟩
instance ct22:CellT prog 22:=⟨⟨_,rfl,rfl⟩,rfl⟩
theorem DO:SlT prog 22 9 1 16 (Tryz.t9.zero.getD undef):=⟨rfl,⟨_,rfl,rfl,rfl,rfl⟩,rfl⟩
instance ct23:CellT prog 23:=⟨⟨_,rfl,rfl⟩,rfl⟩
theorem AO:SlT prog 23 3 1 8 (.int .i64 0):=⟨rfl,⟨_,rfl,rfl,rfl,rfl⟩,rfl⟩
instance ct24:CellT prog 24:=⟨⟨_,rfl,rfl⟩,rfl⟩
instance ct25:CellT prog 25:=⟨⟨_,rfl,rfl⟩,rfl⟩
instance ag27:AggT prog 27 3:=⟨⟨_,rfl,rfl⟩,rfl⟩
instance fl27_0:FieldT prog 27 0 0 25 1:=⟨⟨_,_,rfl,rfl,rfl,rfl⟩,rfl,Ag4⟩
instance fl27_1:FieldT prog 27 1 1 3 1:=⟨⟨_,_,rfl,rfl,rfl,rfl⟩,rfl,Ag4⟩
instance ct33:CellT prog 33:=⟨⟨_,rfl,rfl⟩,rfl⟩
theorem Fv:SlT prog 33 4 1 1 (.bool false):=⟨rfl,⟨_,rfl,rfl,rfl,rfl⟩,rfl⟩
instance ct37:CellT prog 37:=⟨⟨_,rfl,rfl⟩,rfl⟩
instance ct44:CellT prog 44:=⟨⟨_,rfl,rfl⟩,rfl⟩
instance ct47:CellT prog 47:=⟨⟨_,rfl,rfl⟩,rfl⟩
theorem Jd:SlT prog 47 5 1 1 (.int .u8 0):=⟨rfl,⟨_,rfl,rfl,rfl,rfl⟩,rfl⟩
instance ct49:CellT prog 49:=⟨⟨_,rfl,rfl⟩,rfl⟩
instance ct53:CellT prog 53:=⟨⟨_,rfl,rfl⟩,rfl⟩
instance ct58:CellT prog 58:=⟨⟨_,rfl,rfl⟩,rfl⟩
instance fl60_0:FieldT prog 60 0 0 3 1:=⟨⟨_,_,rfl,rfl,rfl,rfl⟩,rfl,Ag4⟩
instance fl60_1:FieldT prog 60 1 1 58 1:=⟨⟨_,_,rfl,rfl,rfl,rfl⟩,rfl,Ag4⟩
instance fl63_0:FieldT prog 63 0 0 3 1:=⟨⟨_,_,rfl,rfl,rfl,rfl⟩,rfl,Ag4⟩
instance ct66:CellT prog 66:=⟨⟨_,rfl,rfl⟩,rfl⟩
instance ct67:CellT prog 67:=⟨⟨_,rfl,rfl⟩,rfl⟩
instance fl70_0:FieldT prog 70 0 0 53 1:=⟨⟨_,_,rfl,rfl,rfl,rfl⟩,rfl,Ag4⟩
instance fl70_1:FieldT prog 70 1 1 66 1:=⟨⟨_,_,rfl,rfl,rfl,rfl⟩,rfl,Ag4⟩
instance fl70_2:FieldT prog 70 2 2 66 1:=⟨⟨_,_,rfl,rfl,rfl,rfl⟩,rfl,Ag4⟩
instance fl70_3:FieldT prog 70 3 3 67 1:=⟨⟨_,_,rfl,rfl,rfl,rfl⟩,rfl,Ag4⟩
instance fl70_4:FieldT prog 70 4 4 67 1:=⟨⟨_,_,rfl,rfl,rfl,rfl⟩,rfl,Ag4⟩
instance fl70_6:FieldT prog 70 6 6 24 1:=⟨⟨_,_,rfl,rfl,rfl,rfl⟩,rfl,Ag4⟩
instance fl70_7:FieldT prog 70 7 7 24 1:=⟨⟨_,_,rfl,rfl,rfl,rfl⟩,rfl,Ag4⟩
instance ct72:CellT prog 72:=⟨⟨_,rfl,rfl⟩,rfl⟩
instance fl74_0:FieldT prog 74 0 0 3 1:=⟨⟨_,_,rfl,rfl,rfl,rfl⟩,rfl,Ag4⟩
instance fl74_1:FieldT prog 74 1 1 9 1:=⟨⟨_,_,rfl,rfl,rfl,rfl⟩,rfl,Ag4⟩
instance fl74_2:FieldT prog 74 2 2 66 1:=⟨⟨_,_,rfl,rfl,rfl,rfl⟩,rfl,Ag4⟩
instance fl74_3:FieldT prog 74 3 3 9 1:=⟨⟨_,_,rfl,rfl,rfl,rfl⟩,rfl,Ag4⟩
instance fl74_4:FieldT prog 74 4 4 72 1:=⟨⟨_,_,rfl,rfl,rfl,rfl⟩,rfl,Ag4⟩
instance fl74_5:FieldT prog 74 5 5 53 1:=⟨⟨_,_,rfl,rfl,rfl,rfl⟩,rfl,Ag4⟩
instance fl74_6:FieldT prog 74 6 6 53 1:=⟨⟨_,_,rfl,rfl,rfl,rfl⟩,rfl,Ag4⟩
instance ct82:CellT prog 82:=⟨⟨_,rfl,rfl⟩,rfl⟩
theorem Y0:SlT prog 82 135 3 32 (Tryz.t135.zero.getD undef):=⟨rfl,⟨_,rfl,rfl,rfl,rfl⟩,rfl⟩
instance fl87_0:FieldT prog 87 0 0 82 1:=⟨⟨_,_,rfl,rfl,rfl,rfl⟩,rfl,Ag4⟩
instance fl87_1:FieldT prog 87 1 1 3 1:=⟨⟨_,_,rfl,rfl,rfl,rfl⟩,rfl,Ag4⟩
instance ct90:CellT prog 90:=⟨⟨_,rfl,rfl⟩,rfl⟩
instance fl92_0:FieldT prog 92 0 0 90 1:=⟨⟨_,_,rfl,rfl,rfl,rfl⟩,rfl,Ag4⟩
instance ct93:CellT prog 93:=⟨⟨_,rfl,rfl⟩,rfl⟩
theorem AfG:SlT prog 93 99 3 40 (Tryz.t99.zero.getD undef):=⟨rfl,⟨_,rfl,rfl,rfl,rfl⟩,rfl⟩
instance ct95:CellT prog 95:=⟨⟨_,rfl,rfl⟩,rfl⟩
instance fl97_0:FieldT prog 97 0 0 93 1:=⟨⟨_,_,rfl,rfl,rfl,rfl⟩,rfl,Ag4⟩
instance fl97_1:FieldT prog 97 1 1 95 1:=⟨⟨_,_,rfl,rfl,rfl,rfl⟩,rfl,Ag4⟩
instance ag99:AggT prog 99 3:=⟨⟨_,rfl,rfl⟩,rfl⟩
instance fl99_0:FieldT prog 99 0 0 3 1:=⟨⟨_,_,rfl,rfl,rfl,rfl⟩,rfl,Ag4⟩
instance fl99_1:FieldT prog 99 1 1 9 1:=⟨⟨_,_,rfl,rfl,rfl,rfl⟩,rfl,Ag4⟩
instance fl99_2:FieldT prog 99 2 2 95 1:=⟨⟨_,_,rfl,rfl,rfl,rfl⟩,rfl,Ag4⟩
instance ct108:CellT prog 108:=⟨⟨_,rfl,rfl⟩,rfl⟩
theorem Dg:SlT prog 108 227 4 32 (Tryz.t227.zero.getD undef):=⟨rfl,⟨_,rfl,rfl,rfl,rfl⟩,rfl⟩
theorem Ac2:O6 prog 109 256 5 1:=⟨rfl,rfl⟩
instance ct110:CellT prog 110:=⟨⟨_,rfl,rfl⟩,rfl⟩
theorem DS:SlT prog 110 23 1 24 (.slice none 0 0):=⟨rfl,⟨_,rfl,rfl,rfl,rfl⟩,rfl⟩
instance AiN:FieldT prog 112 0 0 108 1:=⟨⟨_,_,rfl,rfl,rfl,rfl⟩,rfl,Ag4⟩
instance AiO:FieldT prog 112 1 1 109 256:=⟨⟨_,_,rfl,rfl,rfl,rfl⟩,rfl,Ag4⟩
instance AiP:FieldT prog 112 2 257 110 1:=⟨⟨_,_,rfl,rfl,rfl,rfl⟩,rfl,Ag4⟩
instance AiQ:FieldT prog 112 3 258 33 1:=⟨⟨_,_,rfl,rfl,rfl,rfl⟩,rfl,Ag4⟩
instance AiR:FieldT prog 112 4 259 33 1:=⟨⟨_,_,rfl,rfl,rfl,rfl⟩,rfl,Ag4⟩
instance AiS:FieldT prog 117 1 1 47 1:=⟨⟨_,_,rfl,rfl,rfl,rfl⟩,rfl,Ag4⟩
instance AiT:FieldT prog 131 0 0 9 1:=⟨⟨_,_,rfl,rfl,rfl,rfl⟩,rfl,Ag4⟩
instance AiU:FieldT prog 131 1 1 3 1:=⟨⟨_,_,rfl,rfl,rfl,rfl⟩,rfl,Ag4⟩
instance AiV:FieldT prog 131 2 2 82 1:=⟨⟨_,_,rfl,rfl,rfl,rfl⟩,rfl,Ag4⟩
instance AiW:FieldT prog 131 3 3 27 3:=⟨⟨_,_,rfl,rfl,rfl,rfl⟩,rfl,Ag4⟩
instance ag135:AggT prog 135 3:=⟨⟨_,rfl,rfl⟩,rfl⟩
instance AiX:FieldT prog 135 0 0 3 1:=⟨⟨_,_,rfl,rfl,rfl,rfl⟩,rfl,Ag4⟩
instance AiY:FieldT prog 135 1 1 3 1:=⟨⟨_,_,rfl,rfl,rfl,rfl⟩,rfl,Ag4⟩
instance AiZ:FieldT prog 135 2 2 9 1:=⟨⟨_,_,rfl,rfl,rfl,rfl⟩,rfl,Ag4⟩
instance Aj0:FieldT prog 142 0 0 3 1:=⟨⟨_,_,rfl,rfl,rfl,rfl⟩,rfl,Ag4⟩
instance Aj1:FieldT prog 142 1 1 9 1:=⟨⟨_,_,rfl,rfl,rfl,rfl⟩,rfl,Ag4⟩
instance Aj2:FieldT prog 144 0 0 3 1:=⟨⟨_,_,rfl,rfl,rfl,rfl⟩,rfl,Ag4⟩
instance Aj3:FieldT prog 144 1 1 9 1:=⟨⟨_,_,rfl,rfl,rfl,rfl⟩,rfl,Ag4⟩
instance Aj4:FieldT prog 145 1 1 9 1:=⟨⟨_,_,rfl,rfl,rfl,rfl⟩,rfl,Ag4⟩
instance Aj5:FieldT prog 146 0 0 3 1:=⟨⟨_,_,rfl,rfl,rfl,rfl⟩,rfl,Ag4⟩
instance Aj6:FieldT prog 146 1 1 9 1:=⟨⟨_,_,rfl,rfl,rfl,rfl⟩,rfl,Ag4⟩
instance Aj7:FieldT prog 150 1 1 66 1:=⟨⟨_,_,rfl,rfl,rfl,rfl⟩,rfl,Ag4⟩
instance Aj8:FieldT prog 152 0 0 3 1:=⟨⟨_,_,rfl,rfl,rfl,rfl⟩,rfl,Ag4⟩
instance Aj9:FieldT prog 152 1 1 95 1:=⟨⟨_,_,rfl,rfl,rfl,rfl⟩,rfl,Ag4⟩
instance ag154:AggT prog 154 3:=⟨⟨_,rfl,rfl⟩,rfl⟩
instance AjA:FieldT prog 154 0 0 3 1:=⟨⟨_,_,rfl,rfl,rfl,rfl⟩,rfl,Ag4⟩
instance AjB:FieldT prog 154 1 1 9 1:=⟨⟨_,_,rfl,rfl,rfl,rfl⟩,rfl,Ag4⟩
instance AjC:FieldT prog 154 2 2 95 1:=⟨⟨_,_,rfl,rfl,rfl,rfl⟩,rfl,Ag4⟩
instance ag157:AggT prog 157 4:=⟨⟨_,rfl,rfl⟩,rfl⟩
instance AjD:FieldT prog 157 0 0 3 1:=⟨⟨_,_,rfl,rfl,rfl,rfl⟩,rfl,Ag4⟩
instance AjE:FieldT prog 157 1 1 9 1:=⟨⟨_,_,rfl,rfl,rfl,rfl⟩,rfl,Ag4⟩
instance AjF:FieldT prog 157 2 2 95 1:=⟨⟨_,_,rfl,rfl,rfl,rfl⟩,rfl,Ag4⟩
instance AjG:FieldT prog 157 3 3 95 1:=⟨⟨_,_,rfl,rfl,rfl,rfl⟩,rfl,Ag4⟩
instance ct159:CellT prog 159:=⟨⟨_,rfl,rfl⟩,rfl⟩
theorem UB:SlT prog 159 95 1 16 (Tryz.t95.zero.getD undef):=⟨rfl,⟨_,rfl,rfl,rfl,rfl⟩,rfl⟩
instance ag161:AggT prog 161 3:=⟨⟨_,rfl,rfl⟩,rfl⟩
instance AjH:FieldT prog 161 0 0 3 1:=⟨⟨_,_,rfl,rfl,rfl,rfl⟩,rfl,Ag4⟩
instance AjI:FieldT prog 161 1 1 9 1:=⟨⟨_,_,rfl,rfl,rfl,rfl⟩,rfl,Ag4⟩
instance AjJ:FieldT prog 161 2 2 159 1:=⟨⟨_,_,rfl,rfl,rfl,rfl⟩,rfl,Ag4⟩
instance AjK:FieldT prog 174 0 0 66 1:=⟨⟨_,_,rfl,rfl,rfl,rfl⟩,rfl,Ag4⟩
instance AjL:FieldT prog 174 1 1 66 1:=⟨⟨_,_,rfl,rfl,rfl,rfl⟩,rfl,Ag4⟩
instance ag176:AggT prog 176 3:=⟨⟨_,rfl,rfl⟩,rfl⟩
instance AjM:FieldT prog 176 0 0 9 1:=⟨⟨_,_,rfl,rfl,rfl,rfl⟩,rfl,Ag4⟩
instance ag179:AggT prog 179 2:=⟨⟨_,rfl,rfl⟩,rfl⟩
instance AjN:FieldT prog 179 0 0 66 1:=⟨⟨_,_,rfl,rfl,rfl,rfl⟩,rfl,Ag4⟩
instance AjO:FieldT prog 179 1 1 66 1:=⟨⟨_,_,rfl,rfl,rfl,rfl⟩,rfl,Ag4⟩
instance AjP:FieldT prog 182 0 0 66 1:=⟨⟨_,_,rfl,rfl,rfl,rfl⟩,rfl,Ag4⟩
theorem UC:SlT prog 193 3 1 8 (.int .i64 0):=⟨rfl,⟨_,rfl,rfl,rfl,rfl⟩,rfl⟩
instance AjQ:FieldT prog 201 0 0 9 1:=⟨⟨_,_,rfl,rfl,rfl,rfl⟩,rfl,Ag4⟩
instance AjR:FieldT prog 201 1 1 3 1:=⟨⟨_,_,rfl,rfl,rfl,rfl⟩,rfl,Ag4⟩
instance AjS:FieldT prog 201 2 2 23 1:=⟨⟨_,_,rfl,rfl,rfl,rfl⟩,rfl,Ag4⟩
instance ct202:CellT prog 202:=⟨⟨_,rfl,rfl⟩,rfl⟩
instance ag204:AggT prog 204 2:=⟨⟨_,rfl,rfl⟩,rfl⟩
instance AjT:FieldT prog 204 0 0 3 1:=⟨⟨_,_,rfl,rfl,rfl,rfl⟩,rfl,Ag4⟩
instance AjU:FieldT prog 204 1 1 202 1:=⟨⟨_,_,rfl,rfl,rfl,rfl⟩,rfl,Ag4⟩
instance AjV:FieldT prog 209 1 1 9 1:=⟨⟨_,_,rfl,rfl,rfl,rfl⟩,rfl,Ag4⟩
instance AjW:FieldT prog 209 2 2 66 1:=⟨⟨_,_,rfl,rfl,rfl,rfl⟩,rfl,Ag4⟩
instance AjX:FieldT prog 209 3 3 9 1:=⟨⟨_,_,rfl,rfl,rfl,rfl⟩,rfl,Ag4⟩
instance AjY:FieldT prog 209 4 4 9 1:=⟨⟨_,_,rfl,rfl,rfl,rfl⟩,rfl,Ag4⟩
instance AjZ:FieldT prog 209 5 5 72 1:=⟨⟨_,_,rfl,rfl,rfl,rfl⟩,rfl,Ag4⟩
instance Ak0:FieldT prog 209 6 6 72 1:=⟨⟨_,_,rfl,rfl,rfl,rfl⟩,rfl,Ag4⟩
instance Ak1:FieldT prog 210 0 0 66 1:=⟨⟨_,_,rfl,rfl,rfl,rfl⟩,rfl,Ag4⟩
instance Ak2:FieldT prog 210 1 1 66 1:=⟨⟨_,_,rfl,rfl,rfl,rfl⟩,rfl,Ag4⟩
instance Ak3:FieldT prog 211 0 0 66 1:=⟨⟨_,_,rfl,rfl,rfl,rfl⟩,rfl,Ag4⟩
instance Ak4:FieldT prog 211 1 1 66 1:=⟨⟨_,_,rfl,rfl,rfl,rfl⟩,rfl,Ag4⟩
instance ct212:CellT prog 212:=⟨⟨_,rfl,rfl⟩,rfl⟩
theorem T9:O6 prog 213 5 9 1:=⟨rfl,rfl⟩
instance ag213:AggT prog 213 5:=⟨⟨_,rfl,rfl⟩,rfl⟩
instance ct216:CellT prog 216:=⟨⟨_,rfl,rfl⟩,rfl⟩
theorem Oy:SlT prog 216 37 1 16 (Tryz.t37.zero.getD undef):=⟨rfl,⟨_,rfl,rfl,rfl,rfl⟩,rfl⟩
instance Ak5:FieldT prog 218 0 0 161 3:=⟨⟨_,_,rfl,rfl,rfl,rfl⟩,rfl,Ag4⟩
instance Ak6:FieldT prog 218 1 3 216 1:=⟨⟨_,_,rfl,rfl,rfl,rfl⟩,rfl,Ag4⟩
instance Ak7:FieldT prog 218 2 4 3 1:=⟨⟨_,_,rfl,rfl,rfl,rfl⟩,rfl,Ag4⟩
instance ct225:CellT prog 225:=⟨⟨_,rfl,rfl⟩,rfl⟩
theorem BK:O6 prog 227 4 225 1:=⟨rfl,rfl⟩
instance ag227:AggT prog 227 4:=⟨⟨_,rfl,rfl⟩,rfl⟩
instance ag230:AggT prog 230 4:=⟨⟨_,rfl,rfl⟩,rfl⟩
instance Ak8:FieldT prog 230 0 0 227 4:=⟨⟨_,_,rfl,rfl,rfl,rfl⟩,rfl,Ag4⟩
instance ct233:CellT prog 233:=⟨⟨_,rfl,rfl⟩,rfl⟩
instance ct234:CellT prog 234:=⟨⟨_,rfl,rfl⟩,rfl⟩
instance Ak9:FieldT prog 236 0 0 47 1:=⟨⟨_,_,rfl,rfl,rfl,rfl⟩,rfl,Ag4⟩
instance AkA:FieldT prog 236 1 1 233 1:=⟨⟨_,_,rfl,rfl,rfl,rfl⟩,rfl,Ag4⟩
instance AkB:FieldT prog 236 2 2 234 1:=⟨⟨_,_,rfl,rfl,rfl,rfl⟩,rfl,Ag4⟩
instance ag238:AggT prog 238 3:=⟨⟨_,rfl,rfl⟩,rfl⟩
instance AkC:FieldT prog 238 0 0 3 1:=⟨⟨_,_,rfl,rfl,rfl,rfl⟩,rfl,Ag4⟩
instance AkD:FieldT prog 238 1 1 3 1:=⟨⟨_,_,rfl,rfl,rfl,rfl⟩,rfl,Ag4⟩
instance AkE:FieldT prog 238 2 2 3 1:=⟨⟨_,_,rfl,rfl,rfl,rfl⟩,rfl,Ag4⟩
theorem Cf:SlT prog 239 238 3 24 (Tryz.t238.zero.getD undef):=⟨rfl,⟨_,rfl,rfl,rfl,rfl⟩,rfl⟩
instance ct242:CellT prog 242:=⟨⟨_,rfl,rfl⟩,rfl⟩
instance ct252:CellT prog 252:=⟨⟨_,rfl,rfl⟩,rfl⟩
theorem Yz:SlT prog 262 67 1 8 (.pointer none):=⟨rfl,⟨_,rfl,rfl,rfl,rfl⟩,rfl⟩
theorem Ac3:O6 prog 287 2 227 4:=⟨rfl,rfl⟩
instance AkF:FieldT prog 296 0 0 3 1:=⟨⟨_,_,rfl,rfl,rfl,rfl⟩,rfl,Ag4⟩
instance AkG:FieldT prog 296 1 1 3 1:=⟨⟨_,_,rfl,rfl,rfl,rfl⟩,rfl,Ag4⟩
instance ct302:CellT prog 302:=⟨⟨_,rfl,rfl⟩,rfl⟩
theorem JT:SlT prog 302 332 7 56 (Tryz.t332.zero.getD undef):=⟨rfl,⟨_,rfl,rfl,rfl,rfl⟩,rfl⟩
instance ag304:AggT prog 304 4:=⟨⟨_,rfl,rfl⟩,rfl⟩
instance AkH:FieldT prog 304 0 0 3 1:=⟨⟨_,_,rfl,rfl,rfl,rfl⟩,rfl,Ag4⟩
instance AkI:FieldT prog 304 1 1 3 1:=⟨⟨_,_,rfl,rfl,rfl,rfl⟩,rfl,Ag4⟩
instance AkJ:FieldT prog 304 2 2 3 1:=⟨⟨_,_,rfl,rfl,rfl,rfl⟩,rfl,Ag4⟩
instance AkK:FieldT prog 304 3 3 302 1:=⟨⟨_,_,rfl,rfl,rfl,rfl⟩,rfl,Ag4⟩
instance AkL:FieldT prog 316 0 0 9 1:=⟨⟨_,_,rfl,rfl,rfl,rfl⟩,rfl,Ag4⟩
instance AkM:FieldT prog 316 1 1 3 1:=⟨⟨_,_,rfl,rfl,rfl,rfl⟩,rfl,Ag4⟩
instance AkN:FieldT prog 321 0 0 304 4:=⟨⟨_,_,rfl,rfl,rfl,rfl⟩,rfl,Ag4⟩
instance AkO:FieldT prog 321 2 5 25 1:=⟨⟨_,_,rfl,rfl,rfl,rfl⟩,rfl,Ag4⟩
instance ct326:CellT prog 326:=⟨⟨_,rfl,rfl⟩,rfl⟩
instance ct328:CellT prog 328:=⟨⟨_,rfl,rfl⟩,rfl⟩
theorem R0:SlT prog 328 302 1 24 (.slice none 0 0):=⟨rfl,⟨_,rfl,rfl,rfl,rfl⟩,rfl⟩
instance AkP:FieldT prog 330 0 0 110 1:=⟨⟨_,_,rfl,rfl,rfl,rfl⟩,rfl,Ag4⟩
instance AkQ:FieldT prog 330 1 1 328 1:=⟨⟨_,_,rfl,rfl,rfl,rfl⟩,rfl,Ag4⟩
instance AkR:FieldT prog 330 2 2 3 1:=⟨⟨_,_,rfl,rfl,rfl,rfl⟩,rfl,Ag4⟩
instance ag332:AggT prog 332 7:=⟨⟨_,rfl,rfl⟩,rfl⟩
instance AkS:FieldT prog 332 0 0 3 1:=⟨⟨_,_,rfl,rfl,rfl,rfl⟩,rfl,Ag4⟩
instance AkT:FieldT prog 332 1 1 3 1:=⟨⟨_,_,rfl,rfl,rfl,rfl⟩,rfl,Ag4⟩
instance AkU:FieldT prog 332 2 2 4 1:=⟨⟨_,_,rfl,rfl,rfl,rfl⟩,rfl,Ag4⟩
instance AkV:FieldT prog 332 3 3 227 4:=⟨⟨_,_,rfl,rfl,rfl,rfl⟩,rfl,Ag4⟩
instance AkW:FieldT prog 350 0 0 212 1:=⟨⟨_,_,rfl,rfl,rfl,rfl⟩,rfl,Ag4⟩
instance AkX:FieldT prog 350 1 1 22 1:=⟨⟨_,_,rfl,rfl,rfl,rfl⟩,rfl,Ag4⟩
instance AkY:FieldT prog 350 2 2 3 1:=⟨⟨_,_,rfl,rfl,rfl,rfl⟩,rfl,Ag4⟩
instance ag360:AggT prog 360 2:=⟨⟨_,rfl,rfl⟩,rfl⟩
instance AkZ:FieldT prog 360 0 0 5 1:=⟨⟨_,_,rfl,rfl,rfl,rfl⟩,rfl,Ag4⟩
instance Al0:FieldT prog 360 1 1 5 1:=⟨⟨_,_,rfl,rfl,rfl,rfl⟩,rfl,Ag4⟩
theorem AgF:O6 prog 361 3 360 2:=⟨rfl,rfl⟩
instance ag361:AggT prog 361 6:=⟨⟨_,rfl,rfl⟩,rfl⟩
def wd(s:BitVec 256)(i:Nat):Nat:=(s.toNat / 2^(64*i)) % 2^64
def Bf(s:BitVec 256):v_:=.agg #[.int .u64 (wd s 0),.int .u64 (wd s 1),.int .u64 (wd s 2),.int .u64 (wd s 3)]
def An(s:BitVec 256):List v_:=[.int .u64 (wd s 0),.int .u64 (wd s 1),.int .u64 (wd s 2),.int .u64 (wd s 3)]
theorem IC(s:BitVec 256)(i:Nat):wd s i<2^64:=Yb7 _ (by decide)
theorem D7(s:BitVec 256)(i:Nat):inK .u64 (wd s i:Int):=by
 have:=IC s i;refine⟨?_,?_⟩<;>simp only[IntKind.min,IntKind.max,IntKind.signed,IntKind.bits]<;>simp<;>omega
theorem EF(s:BitVec 256)(i j:Nat)(a:j<64):(wd s i).testBit j=s.getLsbD (64*i+j):=by
 unfold wd;rw[Nat.testBit_mod_two_pow,Nat.testBit_div_two_pow,BitVec.testBit_toNat];simp[a];congr 1;omega
theorem YW{s t:BitVec 256}(h:∀i,i<4→wd s i=wd t i):s=t:=by
 apply Yah;intro k c;have a:=EF s (k / 64) (k % 64) (Yb7 _ (by decide));have b:=EF t (k / 64) (k % 64) (Yb7 _ (by decide));rw[show 64*(k / 64)+k % 64=k by omega]at a b;rw[←a,←b,h _ (by omega)]
theorem Yr{s t:BitVec 256}(h:Bf s=Bf t):s=t:=by
 unfold Bf at h;simp only[Value.agg.injEq,Array.mk.injEq,List.cons.injEq,Value.int.injEq,true_and,and_true,Yaw]at h;apply YW;intro i a
 match i,a with
 | 0,_=>exact h.1
 | 1,_=>exact h.2.1
 | 2,_=>exact h.2.2.1
 | 3,_=>exact h.2.2.2
theorem Xn(s:BitVec 256)(b:Nat)(j:b<256)(H:Aa):AZ prog 175 #[Bf s,.int .u8 b] H (.bool (s.getLsbD b)):=by
 refine Al.of_vc func175 rfl (call175 _) ?_;(conv=>whnf);refine BC (An s) rfl ?_;intro p H1 e f a c;refine AbV (b:=6) (by decide) (ixa BK (by omega) (by omega) (B_ (v:=.int .u64 (wd s (b / 64))) ?_ trivial ?_))
 ·rw[a.cell];have:b / 2^6<4:=by omega
  rw[show b / 64=b / 2^6 by omega];generalize b / 2^6=q at this
  match q,this with
  | 0,_=>rfl
  | 1,_=>rfl
  | 2,_=>rfl
  | 3,_=>rfl
 refine RH (b:=63) ⟨by simp[IntKind.min,IntKind.signed],by simp[IntKind.max,IntKind.signed,IntKind.bits];omega⟩ ⟨by decide,by decide⟩ ?_;refine AbV (YbC Nat.and_le_right (by decide)) (RH (b:=1) (Xo (D7 s _) (Nat.div_le_self _ _)) ⟨by decide,by decide⟩ ?_);(conv=>whnf);refine⟨?_,by rw[←e];exact c⟩
 congr 1
 have g:b &&& 63=b % 64:=by rw[show(63:Nat)=2^6-1 by decide,Ybz]
 have d:=EF s (b / 64) (b % 64) (Yb7 _ (by decide));rw[show 64*(b / 64)+b % 64=b by omega]at d;rw[g,←d,Nat.testBit_eq_decide_div_mod_eq,Nat.and_one_is_mod];have:=Nat.mod_two_eq_zero_or_one (wd s (b / 64) / 2^(b % 64));rcases this with h | h<;>simp[h]
theorem PX(a b:BitVec 256)(i:Nat):wd (a &&& b) i=wd a i &&& wd b i:=by
 apply Yb0;intro j;rw[Nat.testBit_and];by_cases c:j<64
 ·rw[EF _ _ _ c,EF _ _ _ c,EF _ _ _ c,BitVec.getLsbD_and]
 ·rw[Ybr (Ybq (IC _ _) (Ybw (by decide) (by omega))),
   Ybr (x:=wd a i) (Ybq (IC _ _) (Ybw (by decide) (by omega)))];rfl
theorem UO(a b:BitVec 256)(i:Nat):wd (a ||| b) i=wd a i ||| wd b i:=by
 apply Yb0;intro j;rw[Yb6];by_cases c:j<64
 ·rw[EF _ _ _ c,EF _ _ _ c,EF _ _ _ c,Yai]
 ·rw[Ybr (Ybq (IC _ _) (Ybw (by decide) (by omega))),
   Ybr (x:=wd a i) (Ybq (IC _ _) (Ybw (by decide) (by omega))),
   Ybr (x:=wd b i) (Ybq (IC _ _) (Ybw (by decide) (by omega)))];rfl
theorem SF(a b:BitVec 256)(H:Aa):AZ prog 173 #[Bf a,Bf b] H (Bf (a &&& b)):=by
 refine Al.of_vc func173 rfl (call173 _) (BC (An a) rfl ?_);intro p H1 y n c g;refine BC (An b) rfl ?_;intro q H2 z t d f;refine Aw (Bf 0) (An 0) rfl rfl ?_;intro r H3 A u h e;replace c:=(c.agr f (show p<q by omega)).agr e (show p<r by omega);replace d:=d.agr e (show q<r by omega);refine ixa BK (by decide) (by decide) (B_ ((c.cell _).trans rfl) trivial (ixa BK (by decide) (by decide) (B_ ((d.cell _).trans rfl) trivial (RH (D7 a _) (D7 b _) (ixa BK (by decide) (by decide) (B_ ((c.cell _).trans rfl) trivial (ixa BK (by decide) (by decide) (B_ ((d.cell _).trans rfl) trivial (RH (D7 a _) (D7 b _) (ixa BK (by decide) (by decide) (B_ ((c.cell _).trans rfl) trivial (ixa BK (by decide) (by decide) (B_ ((d.cell _).trans rfl) trivial (RH (D7 a _) (D7 b _) (ixa BK (by decide) (by decide) (B_ ((c.cell _).trans rfl) trivial (ixa BK (by decide) (by decide) (B_ ((d.cell _).trans rfl) trivial (RH (D7 a _) (D7 b _) (EU BK (Bf 0) rfl [Value.int .u64 ((wd a 0 &&& wd b 0:Nat):Int),Value.int .u64 ((wd a 1 &&& wd b 1:Nat):Int),Value.int .u64 ((wd a 2 &&& wd b 2:Nat):Int),Value.int .u64 ((wd a 3 &&& wd b 3:Nat):Int)] rfl (Zaa rfl h (show 0+4≤4 by decide) rfl ?_)))))))))))))))))))));intro H4 l m w;refine L_ (cs:=[Value.int .u64 ((wd a 0 &&& wd b 0:Nat):Int),Value.int .u64 ((wd a 1 &&& wd b 1:Nat):Int),Value.int .u64 ((wd a 2 &&& wd b 2:Nat):Int),Value.int .u64 ((wd a 3 &&& wd b 3:Nat):Int)]) (l.cells (fun j v x=>by simpa [As,An]using x)) trivial (⟨?_,?_⟩)
 ·unfold Bf;rw[PX,PX,PX,PX]
 ·intro k B;rw[m k (by omega),e k (by omega),f k (by omega),g k (by omega)]
theorem LI(a b:BitVec 256)(H:Aa):AZ prog 193 #[Bf a,Bf b] H (Bf (a ||| b)):=by
 refine Al.of_vc func193 rfl (call193 _) (BC (An a) rfl ?_);intro p H1 y n c g;refine BC (An b) rfl ?_;intro q H2 z t d f;refine Aw (Bf 0) (An 0) rfl rfl ?_;intro r H3 A u h e;replace c:=(c.agr f (show p<q by omega)).agr e (show p<r by omega);replace d:=d.agr e (show q<r by omega);refine ixa BK (by decide) (by decide) (B_ ((c.cell _).trans rfl) trivial (ixa BK (by decide) (by decide) (B_ ((d.cell _).trans rfl) trivial (vor (D7 a _) (D7 b _) (ixa BK (by decide) (by decide) (B_ ((c.cell _).trans rfl) trivial (ixa BK (by decide) (by decide) (B_ ((d.cell _).trans rfl) trivial (vor (D7 a _) (D7 b _) (ixa BK (by decide) (by decide) (B_ ((c.cell _).trans rfl) trivial (ixa BK (by decide) (by decide) (B_ ((d.cell _).trans rfl) trivial (vor (D7 a _) (D7 b _) (ixa BK (by decide) (by decide) (B_ ((c.cell _).trans rfl) trivial (ixa BK (by decide) (by decide) (B_ ((d.cell _).trans rfl) trivial (vor (D7 a _) (D7 b _) (EU BK (Bf 0) rfl [Value.int .u64 ((wd a 0 ||| wd b 0:Nat):Int),Value.int .u64 ((wd a 1 ||| wd b 1:Nat):Int),Value.int .u64 ((wd a 2 ||| wd b 2:Nat):Int),Value.int .u64 ((wd a 3 ||| wd b 3:Nat):Int)] rfl (Zaa rfl h (show 0+4≤4 by decide) rfl ?_)))))))))))))))))))));intro H4 l m w;refine L_ (cs:=[Value.int .u64 ((wd a 0 ||| wd b 0:Nat):Int),Value.int .u64 ((wd a 1 ||| wd b 1:Nat):Int),Value.int .u64 ((wd a 2 ||| wd b 2:Nat):Int),Value.int .u64 ((wd a 3 ||| wd b 3:Nat):Int)]) (l.cells (fun j v x=>by simpa [As,An]using x)) trivial (⟨?_,?_⟩)
 ·unfold Bf;rw[UO,UO,UO,UO]
 ·intro k B;rw[m k (by omega),e k (by omega),f k (by omega),g k (by omega)]
theorem Ac0(b:Nat):b &&& 63=b % 64:=by rw[show(63:Nat)=2^6-1 by decide,Ybz]
theorem Rv(s:BitVec 256)(b:Nat)(a:b<256):(An s)[b / 2^6]?=some (.int .u64 (wd s (b / 64))):=by
 have:b / 2^6<4:=by omega
 rw[show b / 64=b / 2^6 by omega];generalize b / 2^6=q at this
 match q,this with
 | 0,_=>rfl
 | 1,_=>rfl
 | 2,_=>rfl
 | 3,_=>rfl
theorem PZ(s:BitVec 256)(b i:Nat)(e:b<256):wd (s ||| AmY 256 b) i=if i=b / 64 then wd s i ||| 2^(b % 64)else wd s i:=by
 apply Yb0;intro j;by_cases c:j<64
 ·rw[EF _ _ _ c,Yai,Yak];by_cases d:i=b / 64
  ·rw[I_ d,Yb6,EF _ _ _ c,Yb8]
   congr 1
   by_cases h:b % 64=j
   ·have:b=64*i+j:=by omega
    simp[h,←this,e]
   ·have:¬b=64*i+j:=by omega
    simp[h,this]
  ·rw[G_ d,EF _ _ _ c];have:¬b=64*i+j:=by omega
   simp[this]
 ·have a:2^64≤2^j:=Ybw (by decide) (by omega);rw[Ybr (Ybq (IC _ _) a)];split
  ·rw[Yb6,Ybr (Ybq (IC _ _) a),Yb8];simp;omega
  ·rw[Ybr (Ybq (IC _ _) a)]
theorem Rw(s:BitVec 256)(b:Nat)(a:b<256):(An s).set (b / 64) (.int .u64 ((wd s (b / 64) ||| 2^(b % 64):Nat):Int))=An (s ||| AmY 256 b):=by
 have h:b / 64<4:=by omega
 unfold An;rw[PZ s b 0 a,PZ s b 1 a,PZ s b 2 a,PZ s b 3 a];generalize b / 64=q at h
 match q,h with
 | 0,_=>rfl
 | 1,_=>rfl
 | 2,_=>rfl
 | 3,_=>rfl
theorem AfI(lo hi:Nat)(G:lo<256)(I:hi<256)(H:Aa):Al prog 172 #[.int .u8 lo,.int .u8 hi] H fun v H'=>
  (∃s,v=Bf s∧∀b,b<256→s.getLsbD b=(decide (lo≤b)&&decide (b≤hi)))∧A_ (D_ H) H H':=by
 refine Al.of_vc func172 rfl (call172 _) (Aw (Bf 0) (An 0) rfl rfl ?_);intro r H1 O J g z;refine Aw (Bf 0) (An 0) rfl rfl ?_;intro p H2 P K A q;replace g:=g.agr q (show r<p by omega);(conv=>whnf);rw[n_ (x:=(lo:Int)) (by omega)];refine A8.mk [6] (fun b:Nat=>[C_ b]) (fun b H3=>lo≤b∧(b≤hi+1∨b=lo)∧A_ (fun k=>k≠p) H2 H3∧H3.size=H2.size∧∃s:BitVec 256,K_ H3 p 227 (An s)∧∀c,c<256→s.getLsbD c=(decide (lo≤c)&&decide (c<b))) (fun b _=>256-b) ?_ ?_
 ·(conv=>whnf);exact⟨lo,rfl,by omega,by omega,A_.refl _ _,rfl,0,A,fun c t=>by simp⟩
 ·rintro b H3 E ⟨L,y,l,M,s,m,hs⟩;(conv=>whnf);rw[n_ (x:=(hi:Int)) (by omega)];refine Ag.m2 (fun h=>?_) (fun h=>?_)
  ·(conv=>whnf);refine Au.tail 9 (sq [0,1,2,3,4,5,6,7,8] (.f 9 .e)) rfl (by kernel_rfl) (AbV (b:=6) (by decide) (ixa BK (by omega) (by omega) ?_));refine B_ (v:=.int .u64 (wd s (b / 64))) (by rw[m.cell,P_,Yb3];exact Rv s b (by omega)) trivial ?_;refine RH (b:=63) (Co (by omega)) (Co (by decide)) ?_;have F:2^(b % 64)<2^64:=Nat.pow_lt_pow_right (by decide) (by omega);rw[Ac0];have u:inK .u64 ((1*2^(b % 64):Nat):Int):=AcE (by omega);refine AfY (a:=1) (by simp[IntKind.bits];omega) u ?_;refine vor (D7 s _) u (ixa BK (by omega) (by omega) ?_);refine st1 m (by simp[An];omega) rfl ?_;intro H4 d n B;(conv=>whnf);rw[R_ b (by omega)];refine⟨rfl,b+1,by simp,⟨by omega,by omega,l.trans n,by omega,s ||| AmY 256 b,?_,fun c t=>?_⟩,by omega⟩
   ·rw[P_,Yb3,Nat.one_mul]at d;rw[←Rw s b (by omega)];exact d
   ·rw[Yai,hs c t,Yak];by_cases w:b=c
    ·subst w;simp[t,L]
    ·have:(decide (c<b+1))=decide (c<b):=by simp;omega
     simp[w,this]
  ·(conv=>whnf);refine L_ (cs:=An s) (m.cells (fun j v C=>by simpa using C)) trivial (Zaa rfl (g.agr l (show r≠p by omega)) (show 0+4≤4 by decide) rfl ?_);intro H4 d n B;refine L_ (cs:=An s) (d.cells (fun j v C=>by simpa [As,An]using C)) trivial (⟨⟨s,rfl,fun c t=>?_⟩,fun k N=>?_⟩)
   ·rw[hs c t];rcases y with y | y
    ·have:(decide (c<b))=decide (c≤hi):=by simp;omega
     rw[this]
    ·subst y;by_cases D:b≤c
     ·simp[show¬c<b by omega,show¬c≤hi by omega]
     ·simp[D]
   ·unfold D_ at N;rw[n k (by omega),l k (by omega),q k (by omega),z k (by omega)]
def CP:Ty (BitVec 256) where
 size:=4
 rep _ _ cs s:=cs=An s
 len h:=by rw[h];rfl
 frame h _:=h
 mono h _:=h
def GY(s:BitVec 256):List Lit:=[.int .u64 (wd s 0),.int .u64 (wd s 1),.int .u64 (wd s 2),.int .u64 (wd s 3)]
theorem Rx(a b:BitVec 256):decide (a=b)=true↔GY a=GY b:=by
 rw[Zzj];constructor
 ·rintro rfl;rfl
 ·intro h;unfold GY at h;simp only[List.cons.injEq,Lit.int.injEq,true_and,and_true,Yaw]at h;apply YW;intro i c
  match i,c with
  | 0,_=>exact h.1
  | 1,_=>exact h.2.1
  | 2,_=>exact h.2.2.1
  | 3,_=>exact h.2.2.2
theorem AfE(s:BitVec 256)(i:Nat):(Lit.int .u64 (wd s i)).wf=true:=by
 have:=D7 s i;unfold Lit.wf;simp only[h_,Zzj];exact this
theorem Ry(s:BitVec 256):prog.keyLits 2 227 (An s)=some (GY s):=by
 have a:prog.cellsOf 227=4:=rfl;have b:prog.cellsOf 225=1:=rfl;simp[Program.keyLits,underlying227,underlying225,a,b,An,GY,AfE,AlX,AlX.loop]
theorem PF(a b:BitVec 256){x y:z_}{S:Nat→Prop}{H:Aa}{K:v_→Prop}(k:K (.bool (!decide (a=b)))):
  A7 prog (do eqGuard .neq 227 x y (Bf a) (Bf b);binOp .neq 227 (Bf a) (Bf b)) S H K:=
 AfX (m:=2) (la:=GY a) (lb:=GY b) rfl (by decide) (eqGuardType227) rfl rfl (Ry a) (Ry b) (Rx a b) k
def AJ(lo hi:Nat):BitVec 256:=BitVec.ofNat 256 ((2^(hi+1-lo)-1) <<< lo)
theorem K9(lo hi b:Nat)(a:b<256):(AJ lo hi).getLsbD b=(decide (lo≤b)&&decide (b≤hi)):=by
 unfold AJ;rw[BitVec.getLsbD_ofNat,Nat.testBit_shiftLeft,Nat.testBit_two_pow_sub_one];by_cases h:lo≤b
 ·simp only[a,decide_true,Yaq,h,ge_iff_le]
  congr 1
  rw[eq_iff_iff];omega
 ·simp[h]
theorem Jf(lo hi:Nat)(a:lo<256)(c:hi<256)(H:Aa):AZ prog 172 #[.int .u8 lo,.int .u8 hi] H (Bf (AJ lo hi)):=by
 refine(AfI lo hi a c H).mono ?_;rintro v H' ⟨⟨s,rfl,hs⟩,e⟩;refine⟨?_,e⟩
 congr 1
 apply Yah;intro b d;rw[hs b d,K9 lo hi b d]
theorem Je:AJ 0 255=Am2 256:=by
 apply Yah;intro b a;rw[K9 0 255 b a,Yaj];simp[a];omega
def Dj(all:BitVec 256):List (BitVec 256)→Option (BitVec 256)
 | []=>some all
 | c::cs=>if all &&& c=0#256 then Dj (all ||| c) cs else none
theorem I5(all:BitVec 256)(cs ds:List (BitVec 256)):Dj all (cs++ds)=(Dj all cs).bind fun x=>Dj x ds:=by
 induction cs generalizing all with
 | nil=>rfl
 | cons c cs a=>
   simp only[YaO,Dj];split
   ·exact a _
   ·rfl
theorem KR{all:BitVec 256}{cs:List (BitVec 256)}{x c:BitVec 256}(h:Dj all cs=some x):Dj all (cs++[c])=if x &&& c=0#256 then some (x ||| c)else none:=by
 rw[I5,h];rfl
def Hk(n m:Nat)(row:List Int):Bool:=row.length==m&&row.all fun q=>decide (0≤q)&&decide (q<(n:Int))
def Bp(cells:List (BitVec 256))(next:List (List Int))(fl:Nat):Bool:=
 match Dj 0#256 cells with
 | none=>false
 | some all=>all==Am2 256&&decide (1≤next.length)&&decide (next.length≤65536)&&next.length==fl&&next.all (Hk next.length cells.length)
theorem Ai{α:Type}{l:List α}{k:Nat}{x:α}(h:l[k]?=some x):l.take (k+1)=l.take k++[x]:=by
 rw[List.take_add_one,h];rfl
theorem Am{α:Type}{l:List α}{k:Nat}(h:k<l.length):∃x,l[k]?=some x:=⟨l[k],Ya2 h⟩
def DU(next:List (List Int))(c d:Nat):Bool:=c==d|| next.all fun row=>row[c]?==row[d]?
def AR(cells:List (BitVec 256))(b:Nat):Nat:=cells.findIdx fun c=>c.getLsbD b
structure MS where
 cols:List Nat
 sets:List (BitVec 256)
 cell:List Nat
def JF(next:List (List Int))(cols:List Nat)(f:Nat):Option Nat:=cols.findIdx? fun c=>DU next c f
def FZ(next:List (List Int))(cols:List Nat)(sets:List (BitVec 256))(f:Nat):List Nat×List (BitVec 256)×Nat:=
 match JF next cols f with
 | some i=>(cols,sets,i)
 | none=>(cols++[f],sets++[0#256],cols.length)
def M8(next:List (List Int))(cells:List (BitVec 256))(st:MS)(b:Nat)(s:BitVec 256):MS:=
 let r:=FZ next st.cols st.sets (AR cells b)
 ⟨r.1,r.2.1.set r.2.2 (r.2.1.getD r.2.2 0#256 ||| s),st.cell++[r.2.2]⟩
def AN(next:List (List Int))(cells:List (BitVec 256))(sp:Nat→BitVec 256):Nat→MS
 | 0=>⟨[],[],[]⟩
 | b+1=>M8 next cells (AN next cells sp b) b (sp b)
theorem HD{all:BitVec 256}{cs:List (BitVec 256)}{x:BitVec 256}(h:Dj all cs=some x)(b:Nat):x.getLsbD b=(all.getLsbD b|| cs.any fun c=>c.getLsbD b):=by
 induction cs generalizing all with
 | nil=>simp only[Dj,Option.some.injEq]at h;subst h;simp
 | cons c cs a=>
   simp only[Dj]at h;split at h
   ·rw[a h,Yai,List.any_cons,Bool.or_assoc]
   ·cases h
theorem Cg{cells:List (BitVec 256)}{next:List (List Int)}{g:Nat}(h:Bp cells next g=true){b:Nat}(j:b<256):AR cells b<cells.length∧∀c,cells[AR cells b]?=some c→c.getLsbD b=true:=by
 unfold Bp at h;split at h
 ·cases h
 ·rename_i all a;simp only[h_,beq_iff_eq]at h;have d:=HD a b;rw[h.1.1.1.1,Yaj]at d;simp only[j,decide_true,BitVec.getLsbD_zero,Yat]at d;have e:AR cells b<cells.length:=List.findIdx_lt_length.2 (by simpa using(List.any_eq_true.1 d.symm));refine⟨e,fun c f=>?_⟩;have:=List.findIdx_getElem (w:=e);rw[Ya2 e]at f;cases f;exact this
theorem Nz{cells:List (BitVec 256)}{b k:Nat}{c:BitVec 256}(e:k<AR cells b)(a:cells[k]?=some c):c.getLsbD b=false:=by
 have:=List.not_of_lt_findIdx e;have d:=(X_.1 a).1;rw[Ya2 d]at a;cases a;simpa using this
theorem E4{cells:List (BitVec 256)}{next:List (List Int)}{a:Nat}(h:Bp cells next a=true):1≤next.length∧next.length≤65536∧next.length=a∧∀row∈next,row.length=cells.length∧∀q∈row,0≤q∧q<(next.length:Int):=by
 unfold Bp at h;split at h
 ·cases h
 ·simp only[h_,beq_iff_eq,Zzj,List.all_eq_true,Hk]at h;exact⟨h.1.1.1.2,h.1.1.2,h.1.2,fun row b=>⟨(h.2 row b).1,fun q c=>(h.2 row b).2 q c⟩⟩
structure MOk(m b:Nat)(st:MS):Prop where
 len:st.cols.length=st.sets.length
 le:st.cols.length≤b
 cell:st.cell.length=b
 cols:∀c∈st.cols,c<m
 places:∀p∈st.cell,p<st.cols.length
theorem Pi{next:List (List Int)}{a:List Nat}{sets:List (BitVec 256)}{f m b:Nat}(e:a.length=sets.length)(g:a.length≤b)(j:∀c∈a,c<m)(n:f<m):
  (FZ next a sets f).1.length=(FZ next a sets f).2.1.length∧(FZ next a sets f).1.length≤b+1∧(∀c∈(FZ next a sets f).1,c<m)∧(FZ next a sets f).2.2<(FZ next a sets f).1.length∧a.length≤(FZ next a sets f).1.length:=by
 unfold FZ;split
 ·rename_i i k;have d:i<a.length:=by
   have:=List.findIdx?_eq_some_iff_findIdx_eq.1 k;exact this.1
  exact⟨e,Nat.le_succ_of_le g,j,d,J_ _⟩
 ·refine⟨by simp[e],by simpa using g,?_,by simp,by simp⟩;intro c l;rcases q_.1 l with h | h
  ·exact j c h
  ·rw[V_]at h;omega
theorem FE{next:List (List Int)}{cells:List (BitVec 256)}{sp:Nat→BitVec 256}(e:∀b,b<256→AR cells b<cells.length):∀b,b≤256→MOk cells.length b (AN next cells sp b)
 | 0,_=>⟨rfl,J_ _,rfl,(fun c h=>by cases h),(fun p h=>by cases h)⟩
 | b+1,hb=>by
   have a:=FE (next:=next) (sp:=sp) e b (by omega);have h:=Pi (next:=next) a.len a.le a.cols (e b (by omega));unfold AN M8;refine⟨?_,h.2.1,?_,h.2.2.1,?_⟩
   ·simp only[YaF];exact h.1
   ·simp[a.cell]
   ·intro p d;simp only[q_,V_]at d;rcases d with d | rfl
    ·exact Ybq (a.places p d) h.2.2.2.2
    ·exact h.2.2.2.1
abbrev tI:Ty Int:=DB .i64
abbrev Lg:Ty (List Int):=tSl tI
theorem AbE(ca na fa:Option Addr)(cc nc fc I:Nat)(cells:List (BitVec 256))(next:List (List Int))(S:Nat→Prop)(H:Aa)(hS:∀k,S k→k<H.size)
  (hc:S_ CP S H ca cc cells) (hn:S_ Lg S H na nc next) (ae:I≤9223372036854775807):
  AZ prog 194 #[.slice ca cells.length cc,.slice na next.length nc,.slice fa I fc] H (.bool (Bp cells next I)):=by
 have lc:=hc.le;have ln:=hn.le;unfold maxLen at lc ln;refine Al.of_vc func194 rfl (call194 _) (Aw (Bf 0) (An 0) rfl rfl ?_);intro p H1 hp ah Q R;(conv=>whnf);refine A8.mk [16] (fun k:Nat=>[C_ k]) (fun k H2=>k≤cells.length∧A_ (D_ H) H H2∧p<H2.size∧∃all,Dj 0#256 (cells.take k)=some all∧K_ H2 p 227 (An all)) (fun k _=>cells.length-k) ?_ ?_
 ·(conv=>whnf);exact⟨0,rfl,by omega,R.mono (fun k t=>by unfold D_ at t;omega),by omega,0,rfl,Q⟩
 ·rintro k H2 ab ⟨t,C,T,all,f,K⟩;(conv=>whnf);refine Ag.m2 (fun h=>?_) (fun h=>?_)
  ·have⟨c,D⟩:=Am (l:=cells) (k:=k) (by omega);refine u_ Dg (hc.frame (C.mono hS)) D rfl ?_;rintro b o cs U g rfl;refine L_ (cs:=An c) g trivial (Aw (Bf 0) (An 0) rfl rfl ?_);intro q H3 O ai V L;refine Zaa rfl V (show 0+4≤4 by decide) rfl ?_;intro H4 W M aj;have z:K_ H4 q 227 (An c):=W;have A:K_ H4 p 227 (An all):=(K.agr L (show p<q by omega)).agr M (show p≠q by omega);refine L_ (cs:=An all) (A.cells (fun j v w=>by simpa using w)) trivial (L_ (cs:=An c) (z.cells (fun j v w=>by simpa using w)) trivial (Ak (SF all c H4) ?_));intro H5 a;refine EU BK (Bf 0) rfl (An 0) rfl (PF (all &&& c) 0#256 ?_);have hA:A_ (D_ H) H H5:=(C.trans ((L.mono (fun k t=>by unfold D_ at t;omega)).trans (M.mono (fun k t=>by unfold D_ at t;omega)))).trans (a.mono (fun k t=>by unfold D_ at*;omega));by_cases P:all &&& c=0#256
   ·rw[show decide (all &&& c=0#256)=true by simpa using P];have E:=A.agr a (show p<H4.size by omega);have N:=z.agr a (show q<H4.size by omega);refine L_ (cs:=An all) (E.cells (fun j v w=>by simpa using w)) trivial (L_ (cs:=An c) (N.cells (fun j v w=>by simpa using w)) trivial (Ak (LI all c H5) ?_));intro H6 F;refine Zaa rfl (E.agr F E.lt) (show 0+4≤4 by decide) rfl ?_;intro H7 X Y ak;(conv=>whnf);rw[R_ k (by omega)];have am:=Ap F;have ao:=Ap a;refine⟨rfl,k+1,by simp,⟨by omega,?_,by omega,all ||| c,?_,X⟩,by omega⟩
    ·exact(hA.trans (F.mono (fun k t=>by unfold D_ at*;omega))).trans (Y.mono (fun k t=>by unfold D_ at t;omega))
    ·rw[Ai D,KR f,I_ P]
   ·rw[show decide (all &&& c=0#256)=false by simpa using P];(conv=>whnf);refine⟨?_,hA⟩;have:Dj 0#256 cells=none:=by
     rw[←Ybb (k+1) cells,I5,Ai D,KR f,G_ P]<;>rfl
    simp[Bp,this]
  ·have Z:k=cells.length:=by omega
   subst Z;rw[YaB]at f;(conv=>whnf);refine Au.quiet (D_ H2) rfl (by kernel_rfl) ?_;have d:∀{H':Aa},A_ (D_ H2) H2 H'→A_ (fun k=>k<H.size) H H':=fun h=>C.trans (h.mono (fun k t=>by unfold D_ at*;omega));refine L_ (cs:=An all) (K.cells (fun j v w=>by simpa using w)) T (EK (fun H' _=>Jf 0 255 (by decide) (by decide) H') (PF all (AJ 0 255) ?_));rw[Je];refine Ag.mk (fun J=>?_) (fun J=>?_)<;>simp only[Yap,Bool.not_eq_false',Zzj,Zzi]at J
   ·(conv=>whnf);intro H5 a;(conv=>whnf);exact⟨by
     have e:(all==Am2 256)=false:=beq_eq_false_iff_ne.2 J;rw[Bp,f];simp only[e,Yas],d a⟩
   refine Ag.m2 (fun h2=>?_) (fun h2=>?_)
   ·(conv=>whnf);intro H5 a;(conv=>whnf);exact⟨by simp[Bp,f,show¬1≤next.length by omega],d a⟩
   refine Ag.m2 (fun h3=>?_) (fun h3=>?_)
   ·(conv=>whnf);intro H5 a;(conv=>whnf);exact⟨by simp[Bp,f,show¬next.length≤65536 by omega],d a⟩
   (conv=>whnf);intro H5 a;refine Ag.mk (fun h4=>?_) (fun h4=>?_)<;>simp only[bne_iff_ne,ne_eq,bne_eq_false_iff_eq]at h4
   ·(conv=>whnf);exact⟨by simp[Bp,f,show¬next.length=I by omega],d a⟩
   have a0:next.length=I:=by omega
   have y:Bp cells next I=next.all (Hk next.length cells.length):=by
    have e:(all==Am2 256)=true:=beq_iff_eq.2 J;rw[Bp,f];simp only[e,g_ (show 1≤next.length by omega),g_ (show next.length≤65536 by omega),beq_iff_eq.2 a0,Bool.and_self,Yaq]
   rw[y];have G:∀{k:Nat} {row:List Int},next[k]?=some row→Hk next.length cells.length row=false→next.all (Hk next.length cells.length)=false:=by
    intro k row J h2;rw[YaX];exact⟨row,d_ J,by simp[h2]⟩
   have a5:=hn.frame ((d a).mono hS);(conv=>whnf);refine A8.mk [51] (fun k:Nat=>[C_ k]) (fun k H'=>H'=H5∧k≤next.length∧(next.take k).all (Hk next.length cells.length)=true) (fun k _=>next.length-k) ?_ ?_
   ·(conv=>whnf);exact⟨0,rfl,rfl,by omega,rfl⟩
   ·rintro k H6 a6 ⟨rfl,ap,n⟩;(conv=>whnf);refine Ag.m2 (fun h=>?_) (fun h=>?_)
    ·have⟨row,m⟩:=Am (l:=next) (k:=k) (by omega);refine u_ DS a5 m rfl ?_;rintro b o cs U g ⟨ra,rc,rfl,hr⟩;have lr:=hr.le;unfold maxLen at lr;refine lT g.one ?_;refine Ag.mk (fun h5=>?_) (fun h5=>?_)<;>simp only[bne_iff_ne,ne_eq,bne_eq_false_iff_eq]at h5
     ·(conv=>whnf);exact⟨by rw[G m (by simp[Hk];intro h;omega)],d a⟩
     (conv=>whnf);refine A8.mk [62] (fun j:Nat=>[C_ j]) (fun j H'=>H'=H6∧j≤row.length∧(row.take j).all (fun q=>decide (0≤q)&&decide (q<(next.length:Int)))=true) (fun j _=>row.length-j) ?_ ?_
     ·(conv=>whnf);exact⟨0,rfl,rfl,by omega,rfl⟩
     ·rintro j H7 a7 ⟨rfl,hj,r⟩;(conv=>whnf);refine Ag.m2 (fun h=>?_) (fun h=>?_)
      ·have⟨q,O⟩:=Am (l:=row) (k:=j) (by omega);have B:¬(0≤q∧q<(next.length:Int))→Hk next.length cells.length row=false:=by
        intro hb;have:(row.all fun q=>decide (0≤q)&&decide (q<(next.length:Int)))=false:=by
         rw[YaX];exact⟨q,d_ O,by simpa using hb⟩
        simp only[Hk,this,Bool.and_false]
       refine u_ AO hr O rfl ?_;rintro b2 o2 aq ad u ⟨rfl,au⟩;refine lT u.one ?_;refine Ag.m2 (fun h6=>?_) (fun h6=>?_)
       ·(conv=>whnf);exact⟨by rw[G m (B (by omega))],d a⟩
       refine Ag.m2 (fun h7=>?_) (fun h7=>?_)
       ·(conv=>whnf);exact⟨by rw[G m (B (by omega))],d a⟩
       (conv=>whnf);rw[R_ j (by omega)];refine⟨rfl,j+1,by simp,⟨rfl,by omega,?_⟩,by omega⟩;rw[Ai O,YaZ,r];simp;omega
      ·have a8:j=row.length:=by omega
       subst a8;rw[YaB]at r;(conv=>whnf);rw[R_ k (by omega)];refine⟨rfl,k+1,by simp,⟨rfl,by omega,?_⟩,by omega⟩;rw[Ai m,YaZ,n];simp only[Ybn,List.all_nil,Bool.and_true,Yaq,Hk,r,beq_iff_eq];omega
    ·have a9:k=next.length:=by omega
     subst a9;rw[YaB]at n;(conv=>whnf);exact⟨by rw[n],d a⟩
theorem Zl(t:Option Addr)(u c d m:Nat)(next:List (List Int))(S:Nat→Prop)(H:Aa)(w:S_ Lg S H t u next)(F:∀row∈next,row.length=m)(M:c<m)(hd:d<m)(z:m≤9223372036854775807):
  AZ prog 207 #[.slice t next.length u,C_ c,C_ d] H (.bool (DU next c d)):=by
 have ln:=w.le;unfold maxLen at ln;refine Al.of_vc func207 rfl (call207 _) ?_;refine Ag.mk (fun h=>?_) (fun h=>?_)<;>simp only[beq_iff_eq,beq_eq_false_iff_ne,Yaw,ne_eq]at h
 ·(conv=>whnf);exact⟨by simp[DU,h],A_.refl _ _⟩
 have n:(c==d)=false:=by simpa using h
 (conv=>whnf);refine A8.mk [14] (fun k:Nat=>[C_ k]) (fun k H'=>H'=H∧k≤next.length∧(next.take k).all (fun row=>row[c]?==row[d]?)=true) (fun k _=>next.length-k) ?_ ?_
 ·(conv=>whnf);exact⟨0,rfl,rfl,by omega,rfl⟩
 ·rintro k H1 A ⟨rfl,N,e⟩;refine Ag.m2 (fun h=>?_) (fun h=>?_)
  ·have⟨row,a⟩:=Am (l:=next) (k:=k) (by omega);have B:=F row (d_ a);refine u_ DS w a rfl ?_;rintro b o O G j ⟨ra,rc,rfl,C⟩;refine B_ j.one trivial (Au.lex rfl (by kernel_rfl) ?_);have⟨x,p⟩:=Am (l:=row) (k:=c) (by omega);have⟨y,q⟩:=Am (l:=row) (k:=d) (by omega);refine u_ AO C p rfl ?_;rintro P Q I D f ⟨rfl,J⟩;refine B_ f.one trivial (u_ AO C q rfl ?_);rintro R T K E g ⟨rfl,L⟩;refine lT g.one ?_;refine Ag.mk (fun h=>?_) (fun h=>?_)<;>simp only[bne_iff_ne,ne_eq,bne_eq_false_iff_eq]at h
   ·(conv=>whnf);refine⟨?_,A_.refl _ _⟩;have:(next.all fun row=>row[c]?==row[d]?)=false:=by
     rw[YaX];exact⟨row,d_ a,by simp[p,q,h]⟩
    simp only[DU,n,this,Bool.or_false]
   ·(conv=>whnf);rw[R_ k (by omega)];refine⟨rfl,k+1,by simp,⟨rfl,by omega,?_⟩,by omega⟩;rw[Ai a,YaZ,e];simp[p,q,h]
  ·have r:k=next.length:=by omega
   subst r;rw[YaB]at e;(conv=>whnf);exact⟨by simp only[DU,n,e,Yat],A_.refl _ _⟩
def M_{α:Type}(T:Ty α)(S:Nat→Prop)(H:Aa)(lo:Nat)(e:x_)(v:v_)(xs:List α):Prop:=
 ∃cs,Sl H lo e T.size v xs.length cs∧T.reps S H cs xs
section
variable{α:Type}{T:Ty α}{S S':Nat→Prop}{H H':Aa}{lo:Nat}{e:x_}{v:v_}{xs:List α}
theorem M_.nil:M_ T S H lo e (.slice none 0 0) []:=⟨[],Sl.nil _ _ _ _,rfl⟩
theorem M_.agr(h:M_ T S H lo e v xs)(k:A_ S' H H')(a:∀b,N_ v b→S' b)(hs:∀b,S b→S' b):M_ T S H' lo e v xs:=by
 have⟨c,d,f⟩:=h;exact⟨c,d.agr k a,Ty.reps_frame (k.mono hs) f⟩
theorem M_.mono(h:M_ T S H lo e v xs)(hs:∀b,S b→S' b):M_ T S' H lo e v xs:=by
 have⟨a,c,d⟩:=h;exact⟨a,c,Ty.reps_mono hs d⟩
theorem M_.lt(h:M_ T S H lo e v xs){b:Nat}(a:N_ v b):lo≤b∧b<H.size:=by
 obtain⟨d,c,_⟩:=h;exact c.lt a
theorem M_.lower{a:Nat}(h:M_ T S H lo e v xs)(k:a≤lo):M_ T S H a e v xs:=by
 obtain⟨d,⟨f,c⟩,g⟩:=h;refine⟨d,⟨f,?_⟩,g⟩;rcases c with c | ⟨b,cap,l,j,m,r⟩
 ·exact .inl c
 ·exact .inr ⟨b,cap,l,j,by omega,r⟩
theorem M_.one(h:M_ T S H lo e v xs):v.oneCell'=true:=by
 obtain⟨c,⟨d,a⟩,f⟩:=h;rcases a with⟨rfl,_⟩ | ⟨b,cap,l,rfl,r⟩<;>rfl
theorem M_.len(h:M_ T S H lo e v xs):xs.length≤maxLen:=by
 obtain⟨c,⟨d,a⟩,f⟩:=h;rcases a with⟨_,a⟩ | ⟨b,cap,l,g,j,k,m,n,r⟩
 ·omega
 ·omega
theorem M_.view(h:M_ T S H lo e v xs)(g:∀b,N_ v b→S' b)(hs:∀b,S b→S' b):∃a cap,v= .slice a xs.length cap∧S_ T S' H a cap xs∧(∀b,N_ v b↔a.map (·.block)=some b):=by
 obtain⟨k,⟨w,d⟩,m⟩:=h;rcases d with⟨rfl,d⟩ | ⟨b,cap,l,rfl,x,p,q,r,y,t⟩
 ·refine⟨none,0,by rw[d],⟨YaA d,rfl⟩,fun b=>⟨?_,fun h=>by cases h⟩⟩;rintro⟨o,n,c,h⟩;cases h
 ·refine⟨some ⟨b,0,none⟩,cap,rfl,S_.intro (g b ⟨_,_,_,rfl⟩) q r (ec:=k) ?_ (Ty.reps_mono hs m),fun b'=>⟨?_,fun h=>?_⟩⟩
  ·refine p.cells fun j u f=>?_;rw[←t,YaM]at f;split at f
   ·simpa using f
   ·cases f
  ·rintro⟨o,n,c,h⟩;cases h;rfl
  ·cases h;exact⟨0,_,_,rfl⟩
theorem Yk{cs c:List v_}{i:Nat}{x:α}(h:T.reps S H cs xs)(b:T.rep S H c x)(hi:i<xs.length):T.reps S H (As cs (i*T.size) c) (xs.set i x):=by
 induction xs generalizing cs i with
 | nil=>simp at hi
 | cons y ys j=>
   obtain⟨d,r,rfl,e,f⟩:=h;have g:=T.len e;have a:=T.len b;cases i with
   | zero=>
     refine⟨c,r,?_,b,f⟩;unfold As;simp only[Nat.zero_mul,List.take_zero,Ybj,P_];rw[a,←g,List.drop_left]
   | succ i=>
     simp only[j_]at hi;refine⟨d,As r (i*T.size) c,?_,e,j f (by omega)⟩;have k:(i+1)*T.size=d.length+i*T.size:=by rw[g,Yby];omega
     unfold As;rw[k,YaV,show d.length+i*T.size+c.length=d.length+(i*T.size+c.length) by omega,List.drop_length_add_append];simp[YaC]
theorem M_.place{i:Nat}(h:M_ T S H lo e v xs)(hi:i<xs.length):∃b cap l k,v= .slice (b_ b) xs.length cap∧lo≤b∧K_ H b e l∧i*T.size+T.size≤l.length∧
  (∀x,xs[i]?=some x→∃c,AL H b (i*T.size) c∧T.rep S H c x)∧T.reps S H k xs∧
  ∀(H':Aa) (c:List v_) (x:α),K_ H' b e (As l (i*T.size) c)→A_ S H H'→T.rep S H' c x→M_ T S H' lo e v (xs.set i x):=by
 obtain⟨k,⟨f,z⟩,p⟩:=h;rcases z with⟨rfl,z⟩ | ⟨b,cap,l,rfl,A,B,C,G,D,E⟩
 ·omega
 ·have d:i*T.size+T.size≤xs.length*T.size:=by rw[←Yby];exact Ybv _ hi
  have F:xs.length*T.size≤l.length:=by rw[D];exact Ybv _ C
  refine⟨b,cap,l,k,rfl,A,B,by omega,?_,p,?_⟩
  ·intro x I;obtain⟨J,c,r,rfl,q,m⟩:=Ty.reps_get p I;refine⟨c,?_,m⟩;rw[←q];have t:AL H b 0 (J++c++r):=B.cells fun j u n=>by
    rw[←E,YaM]at n;split at n
    ·simpa using n
    ·cases n
   have:=t.mid;simpa using this
  intro H' c x w g m;have a:=T.len m;refine⟨As k (i*T.size) c,⟨?_,.inr ⟨b,cap,_,by rw[YaF],A,w,by rw[YaF];exact C,G,?_,?_⟩⟩,Yk (Ty.reps_frame g p) m hi⟩
  ·rw[Dr (by rw[a,f];exact d),f,YaF]
  ·rw[Dr (by rw[a];omega),D]
  ·rw[YaF];apply YaH;intro j;rw[YaM];by_cases y:j<xs.length*T.size
   ·rw[I_ y,CZ (by rw[a];omega),CZ (by rw[a,f];exact d)];split
    ·rfl
    ·rw[←E,YaM,I_ y]
   ·rw[G_ y,YaE];rw[Dr (by rw[a,f];exact d),f];omega
end
theorem BG{α:Type}{T:Ty α}{P:w_}{t ty e by_:Nat}{z:v_}{S:Nat→Prop}{H:Aa}{K:v_→Aa→Prop}(p:SlT P t e T.size by_ z){lo q o m cap:Nat}{v:v_}{xs ys:List α}{ds:List v_}
  (hs:M_ T S H lo e v xs) (d:lo≤H.size) (r:∀k,S k→k<H.size∧¬N_ v k) (hd:AL H q o ds) (x:T.reps S H ds ys) (y:m=ys.length) (A:∀u∈ds,u.oneCell'=true)
  (f:xs.length+ys.length≤maxLen) (hby:(xs.length+ys.length)*by_≤140737488355328)
  (h:∀b H',M_ T S H' lo e b (xs++ys)→A_ (fun k=>k<H.size∧¬N_ v k) H H'→H.size≤H'.size→(∀k,N_ b k→N_ v k∨H.size≤k)→K b H'):
  Ba P (Builtin.append_ #[t,t] ty [v,.slice (some ⟨q,o,none⟩) m cap].toArray) H K:=by
 have⟨E,g,B⟩:=hs;subst y;refine LJ (m:=ys.length) (news:=ds) p g d (fun w C=>?_) f hby ?_
 ·refine Src.ofSlice w p.under ⟨q,o,none⟩ ys.length cap ds (Ty.reps_len x) (fun j u D=>?_) A;rw[Addr.add_mid];subst C;have:=hd j u D;rw[DF];exact this
 ·intro b H' c a l n;refine h b H' ⟨_,by rw[Q_];exact c,Ty.reps_append (Ty.reps_frame (a.mono r) B) (Ty.reps_frame (a.mono r) x)⟩ a l n
theorem F4{α:Type}{T:Ty α}{P:w_}{t e by_:Nat}{z:v_}{n cap i:Nat}{k:IntKind}{j:Int}{S S0:Nat→Prop}{H:Aa}{K:v_→Prop}{a:Option Addr}{xs:List α}{x:α}
  (d:SlT P t e T.size by_ z) (h:S_ T S H a cap xs) (f:n=xs.length) (g:xs[i]?=some x) (l:j=(i:Int))
  (m:∀b o c,S b→AL H b o c→T.rep S H c x→K (.pointer (some ⟨b,o,none⟩))):A7 P (Instr.indexAt t (.slice a n cap) (.int k j)) S0 H K:=by
 subst f;exact u_ d h g l m
theorem EQ{α:Type}{T:Ty α}{S:Nat→Prop}{H:Aa}:∀{vs:List v_} {xs:List α},vs.length=xs.length→(∀(i:Nat) (v:v_) (x:α),vs[i]?=some v→xs[i]?=some x→T.rep S H [v] x)→T.reps S H vs xs
 | [],[],_,_=>rfl
 | v::vs,[],h,_=>by simp at h
 | [],x::xs,h,_=>by simp at h
 | v::vs,x::xs,h,k=>⟨[v],vs,rfl,k 0 v x rfl rfl,EQ (by simpa using h) fun i a b c d=>k (i+1) a b (by simpa using c) (by simpa using d)⟩
theorem J7:∀(vs:List v_) (k:Nat) (cells:Array v_) (off:Nat),off+k+vs.length≤cells.size→
  (vs.zipIdx k).foldl (fun c (x:v_×Nat)=>c.setIfInBounds (off+x.2) x.1) cells=(As cells.toList (off+k) vs).toArray
 | [],k,cells,off,_=>by apply AlH;simp[As]
 | v::vs,k,cells,off,h=>by
   simp only[j_]at h;rw[List.zipIdx_cons,List.foldl_cons,J7 vs (k+1) _ off (by simp;omega)];apply congrArg;apply YaH;intro j;rw[CZ (by simp;omega),CZ (by simp;omega)];simp only[Array.toList_setIfInBounds,j_];by_cases a:off+(k+1)≤j∧j<off+(k+1)+vs.length
   ·rw[I_ a,I_ (by omega),show j-(off+k)=(j-(off+(k+1)))+1 by omega,YaL]
   ·rw[G_ a];by_cases b:j=off+k
    ·subst b;rw[I_ (by omega),YbD,List.getElem?_cons_zero,Ya3 (by simp;omega)]
    ·rw[G_ (by omega),YaP,G_ (fun d=>b d.symm)]
theorem Kp{place:Nat→Option (Nat×Nat)}{cells:Array v_}{i:Nat}{v:v_}{rest:List (Nat×v_)}{off size:Nat}(b:place i=some (off,size))(d:v.cells.size=size)(e:off+size≤cells.size):
  Instr.fill place cells ((i,v)::rest)=Instr.fill place (As cells.toList off v.cells.toList).toArray rest:=by
 have c:¬(v.cells.size≠size∨off+v.cells.size>cells.size):=by omega
 have a:=J7 v.cells.toList 0 cells off (by simp;omega);simp only[YbB]at a;rw[Instr.fill,b];simp only[Yar,Zzj,c,if_false]
 congr 1
 rw[←a,←Array.foldl_toList,Array.toList_zipIdx]
theorem Az{P:w_}{t e:x_}{sz by_:Nat}{z v:v_}{H:Aa}{K:v_→Aa→Prop}(d:SlT P t e sz by_ z)(l:List v_)(a:v.cells=l.toArray)(c:l.length=sz)(f:0<sz)(g:sz≤16777216)
  (h:New H (fun b H'=>K (.slice (b_ b) 1 1) H') e l):Ba P (Instr.buildSlice t 1 [(0,v)].toArray) H K:=by
 refine YO d l (by omega) (by omega) ?_ h;rw[show([(0,v)].toArray).toList=(0,v)::[]from rfl,Kp (off:=0) (size:=sz) (by simp) (by rw[a];simpa using c) (by simp)];rw[Instr.fill,a]
 congr 1
 apply AlH;simp only[As];simp[c]
structure Tab{α:Type}(T:Ty α)(S:Nat→Prop)(H:Aa)(lo:Nat)(e:x_)(nb:Nat)(te:x_)(vs:List v_)(xs:List (List α)):Prop where
 len:vs.length=xs.length
 blk:K_ H nb te vs
 nlo:nb<lo
 own:∀(i:Nat) (v:v_) (x:List α),vs[i]?=some v→xs[i]?=some x→M_ T S H lo e v x
 apart:∀(i j:Nat) (v w:v_) (k:Nat),i≠j→vs[i]?=some v→vs[j]?=some w→N_ v k→¬N_ w k
section
variable{α:Type}{T:Ty α}{S S':Nat→Prop}{H H1 H2:Aa}{lo nb:Nat}{e te:x_}{vs:List v_}{xs:List (List α)}
theorem Tab.agr(h:Tab T S H lo e nb te vs xs)(k:A_ S' H H1)(g:S' nb)(a:∀b,lo≤b→b<H.size→S' b)(hs:∀b,S b→S' b):Tab T S H1 lo e nb te vs xs:=
 ⟨h.len,h.blk.agr k g,h.nlo,fun i v x c d=>(h.own i v x c d).agr k (fun b f=>a b ((h.own i v x c d).lt f).1 ((h.own i v x c d).lt f).2) hs,h.apart⟩
theorem Tab.new{n:Nat}(f:K_ H nb te (AgJ n (.slice none 0 0)))(b:nb<lo):Tab T S H lo e nb te (AgJ n (.slice none 0 0)) (AgJ n []):=by
 refine⟨by simp,f,b,fun i v x a d=>?_,fun i j v w k g a p l=>?_⟩
 ·rw[Ya9]at a d;split at a
  ·rename_i m;rw[I_ m]at d;cases a;cases d;exact M_.nil
  ·cases a
 ·rw[Ya9]at a;split at a
  ·cases a;have⟨o,n,c,h⟩:=l;cases h
  ·cases a
theorem Tab.get(h:Tab T S H lo e nb te vs xs){i:Nat}(hi:i<xs.length):∃v x,vs[i]?=some v∧xs[i]?=some x∧M_ T S H lo e v x:=by
 have a:i<vs.length:=by rw[h.len];exact hi
 exact⟨vs[i],xs[i],Ya2 a,Ya2 hi,h.own i _ _ (Ya2 a) (Ya2 hi)⟩
theorem Tab.push(h:Tab T S H lo e nb te vs xs){t:Nat}{v m:v_}{G:List α}(D:vs[t]?=some v)(l:M_ T S H1 lo e m G)(J:A_ (fun k=>k<H.size∧¬N_ v k) H H1)
  (g:∀k,N_ m k→N_ v k∨H.size≤k) (c:K_ H2 nb te (vs.set t m)) (q:A_ (fun k=>k≠nb) H1 H2) (A:∀k,S k→k<H.size∧¬N_ v k∧k≠nb):
  Tab T S H2 lo e nb te (vs.set t m) (xs.set t G):=by
 have B:t<vs.length:=(X_.1 D).1;refine⟨by simp[h.len],c,h.nlo,fun i w x a C=>?_,fun i j u w k r y a n f=>?_⟩
 ·by_cases d:i=t
  ·subst d;rw[Ya3 B]at a;rw[Ya3 (by rw[←h.len];exact B)]at C;cases a;cases C;exact l.agr q (fun b c=>by have:=(l.lt c).1;have:=h.nlo;omega) (fun b c=>(A b c).2.2)
  ·rw[Ya4 (Ne.symm d)]at a C;have p:=h.own i w x a C;have K:M_ T S H1 lo e w x:=p.agr J (fun b c=>⟨(p.lt c).2,fun E=>h.apart i t w v b d a D c E⟩) (fun b c=>⟨(A b c).1,(A b c).2.1⟩);exact K.agr q (fun b c=>by have:=(p.lt c).1;have:=h.nlo;omega) (fun b c=>(A b c).2.2)
 ·have old:∀(i:Nat) (w:v_),i≠t→(vs.set t m)[i]?=some w→N_ w k→¬N_ m k:=by
   intro i w I a n f;rw[Ya4 (Ne.symm I)]at a;rcases g k f with p | p
   ·exact h.apart i t w v k I a D n p
   ·have F:i<xs.length:=by rw[←h.len];exact(X_.1 a).1
    have:=((h.own i w _ a (Ya2 F)).lt n).2;omega
  by_cases d:i=t
  ·subst d;rw[Ya3 B]at y;cases y;exact old j w (Ne.symm r) a f n
  ·by_cases z:j=t
   ·subst z;rw[Ya3 B]at a;cases a;exact old i u d y n f
   ·rw[Ya4 (Ne.symm d)]at y;rw[Ya4 (Ne.symm z)]at a;exact h.apart i j u w k r y a n f
end
theorem Tab.view{α:Type}{T:Ty α}{S S':Nat→Prop}{H:Aa}{lo nb n:Nat}{e te:x_}{vs:List v_}{xs:List (List α)}(h:Tab T S H lo e nb te vs xs)(g:n=xs.length)(l:n≤maxLen)
  (d:∀k,nb≤k→k<H.size→S' k) (hs:∀k,S k→S' k):S_ (tSl T) S' H (b_ nb) n xs:=by
 subst g;refine S_.intro (d nb (J_ _) h.blk.lt) (J_ _) l (h.blk.cells (cs:=vs) (fun j v b=>by simpa using b)) (EQ h.len fun i v x b m=>?_);have hd:=h.own i v x b m;obtain⟨p,a,rfl,c,-⟩:=hd.view (S':=S') (fun k f=>d k (by have:=(hd.lt f).1;have:=h.nlo;omega) (hd.lt f).2) hs;exact⟨p,a,rfl,c⟩
theorem YR{P:w_}{t e sz by_:Nat}{z:v_}{a:Option Addr}{n cap:Nat}{k:IntKind}{h:Int}{S:Nat→Prop}{H:Aa}{K:v_→Prop}(b:SlT P t e sz by_ z)(c:0≤h)(d:h≤cap)
  (f:K (.slice a h.toNat cap)):A7 P (Instr.sliceAt t (.slice a n cap) none (some (.int k h)) none) S H K:=by
 obtain⟨g,j,hs,_,_⟩:=b.info;refine A7.mk _ (fun w _=>?_) f;have l:(a.map fun x=>x.add 0)=a:=by cases a<;>rfl
 simp[Instr.sliceAt,Instr.slice,run_underlying b.under,Instr.sliceBounds,Instr.sliceBound,asIntOf,c,d,sizeOf,typeInfo,j,l]
theorem M_.pop{α:Type}{T:Ty α}{S:Nat→Prop}{H:Aa}{lo n cap:Nat}{e:x_}{a:Option Addr}{xs:List α}{x:α}(h:M_ T S H lo e (.slice a n cap) (xs++[x])):M_ T S H lo e (.slice a xs.length cap) xs:=by
 obtain⟨d,⟨g,f⟩,p⟩:=h;have split:∀(xs:List α) (d:List v_),T.reps S H d (xs++[x])→T.reps S H (d.take (xs.length*T.size)) xs:=by
  intro xs
  induction xs with
  | nil=>intro d _;simp[Ty.reps]
  | cons y ys q=>
    rintro d ⟨c,r,rfl,j,t⟩;refine⟨c,r.take (ys.length*T.size),?_,j,q r t⟩;have:=T.len j;rw[j_,Yby,Nat.add_comm,←this,YaV]
 rcases f with⟨f,u⟩ | ⟨b,k,l,f,w,z,A,B,C,m⟩
 ·simp at u
 ·cases f;simp only[Q_,k_]at A m g;refine⟨d.take (xs.length*T.size),⟨?_,.inr ⟨b,cap,l,rfl,w,z,by omega,B,C,?_⟩⟩,split xs d p⟩
  ·rw[YaN,g,Ybu (Ybv _ (by omega))]
  ·rw[←m,List.take_take,Ybu (Ybv _ (by omega))]
def Ty.Ones{α:Type}(T:Ty α):Prop:=∀S H cs x,T.rep S H cs x→∀u∈cs,u.oneCell'=true
theorem Ty.Ones.reps{α:Type}{T:Ty α}(h:T.Ones){S:Nat→Prop}{H:Aa}:∀{cs:List v_} {xs:List α},T.reps S H cs xs→∀u∈cs,u.oneCell'=true:=by
 intro cs xs
 induction xs generalizing cs with
 | nil=>intro b u a;simp only[Ty.reps]at b;subst b;cases a
 | cons x xs d=>
   rintro⟨c,r,rfl,e,b⟩ u a;rcases q_.1 a with a | a
   ·exact h S H c x e u a
   ·exact d b u a
theorem VZ:∀(k:IntKind),(DB k).Ones:=by
 rintro k S H b x ⟨rfl,_⟩ u a;cases V_.1 a;rfl
theorem Tl:Bd.Ones:=by
 rintro S H b x rfl u a;cases V_.1 a;rfl
theorem Nq{α:Type}{T:Ty α}{P:w_}{t ty e by_:Nat}{z:v_}{S:Nat→Prop}{H:Aa}{K:v_→Aa→Prop}(r:SlT P t e T.size by_ z)(x:T.Ones){lo cap:Nat}{v:v_}{a:Option Addr}{xs ys:List α}
  (hs:M_ T S H lo e v xs) (d:lo≤H.size) (y:∀k,S k→k<H.size∧¬N_ v k) (D:S_ T S H a cap ys)
  (f:xs.length+ys.length≤maxLen) (hby:(xs.length+ys.length)*by_≤140737488355328)
  (h:∀g H',M_ T S H' lo e g (xs++ys)→A_ (fun k=>k<H.size∧¬N_ v k) H H'→H.size≤H'.size→(∀k,N_ g k→N_ v k∨H.size≤k)→K g H'):
  Ba P (Builtin.append_ #[t,t] ty [v,.slice a ys.length cap].toArray) H K:=by
 cases a with
 | some F=>
   have⟨q,o,J⟩:=F;obtain⟨L,M,N | ⟨rfl,O,Q,G,E⟩⟩:=D
   ·obtain rfl:ys=[]:=YaA (by omega);have⟨A,l,B⟩:=hs;refine LJ (m:=0) (news:=[]) r l d (fun w I=>Src.ofSlice w r.under _ 0 cap [] (by simp) (fun j u C=>by simp at C) (fun u C=>by cases C)) (by simpa using f) (by simpa using hby) ?_;intro g H' c b n p;refine h g H' ⟨A,by simpa using c,?_⟩ b n p;rw[Yba];exact Ty.reps_frame (b.mono y) B
   exact BG r hs d y G E rfl (x.reps E) f hby h
 | none=>
   obtain⟨rfl,rfl⟩:=D;have⟨A,l,B⟩:=hs;refine LJ (m:=0) (news:=[]) r l d (fun w I=>Src.ofNil w r.under 0) (by simpa using f) (by simpa using hby) ?_;intro g H' c b n p;refine h g H' ⟨A,by simpa using c,?_⟩ b n p;rw[Yba];exact Ty.reps_frame (b.mono y) B
def Ty.Free{α:Type}(T:Ty α):Prop:=∀S S' H H' cs x,T.rep S H cs x→T.rep S' H' cs x
theorem VY(k:IntKind):(DB k).Free:=fun S S' H H' a x h=>h
theorem Tj:Bd.Free:=fun S S' H H' a x h=>h
theorem Ty.Free.reps{α:Type}{T:Ty α}(h:T.Free){S S':Nat→Prop}{H H':Aa}:∀{cs:List v_} {xs:List α},T.reps S H cs xs→T.reps S' H' cs xs:=by
 intro cs xs
 induction xs generalizing cs with
 | nil=>exact fun a=>a
 | cons x xs b=>
   rintro⟨c,r,e,d,a⟩;exact⟨c,r,e,h S S' H H' c x d,b a⟩
theorem M_.free{α:Type}{T:Ty α}(a:T.Free){S S':Nat→Prop}{H:Aa}{lo:Nat}{e:x_}{v:v_}{xs:List α}(h:M_ T S H lo e v xs):M_ T S' H lo e v xs:=by
 have⟨b,c,d⟩:=h;exact⟨b,c,a.reps d⟩
section
variable{P:w_}{t e:x_}{x y:z_}{S:Nat→Prop}{H:Aa}{K:v_→Prop}{p:Option Addr}
theorem Ld(h:P.underlying t=some (.pointer e))(p:Option Addr)(w:y_):(Op.equal t (.pointer p) (.pointer none)).run P w= .ok p.isNone w:=by
 have:∀d:Nat,(Op.equalIn (d+1) t (.pointer p) (.pointer none)).run P w= .ok p.isNone w:=fun d=>by
  cases p<;>simp[Op.equalIn,run_underlying h]
 exact this 9999
theorem peq(h:P.underlying t=some (.pointer e))(k:K (.bool p.isNone)):A7 P (do eqGuard .eql t x y (.pointer p) (.pointer none);binOp .eql t (.pointer p) (.pointer none)) S H K:=by
 refine A7.mk _ (fun w _=>?_) k;simp[eqGuard,binOp,Ld h]
theorem pneq(h:P.underlying t=some (.pointer e))(k:K (.bool (!p.isNone))):A7 P (do eqGuard .neq t x y (.pointer p) (.pointer none);binOp .neq t (.pointer p) (.pointer none)) S H K:=by
 refine A7.mk _ (fun w _=>?_) k;simp[eqGuard,binOp,Ld h]
theorem XU(h:P.underlying t=some (.pointer e))(k:K (.bool true)):A7 P (do eqGuard .eql t x y (.pointer none) (.pointer none);binOp .eql t (.pointer none) (.pointer none)) S H K:=peq h k
theorem Px{a:Addr}(h:P.underlying t=some (.pointer e))(k:K (.bool false)):A7 P (do eqGuard .eql t x y (.pointer (some a)) (.pointer none);binOp .eql t (.pointer (some a)) (.pointer none)) S H K:=peq h k
theorem La(h:P.underlying t=some (.pointer e))(k:K (.bool false)):A7 P (do eqGuard .neq t x y (.pointer none) (.pointer none);binOp .neq t (.pointer none) (.pointer none)) S H K:=pneq h k
theorem HO{a:Addr}(h:P.underlying t=some (.pointer e))(k:K (.bool true)):A7 P (do eqGuard .neq t x y (.pointer (some a)) (.pointer none);binOp .neq t (.pointer (some a)) (.pointer none)) S H K:=pneq h k
end
theorem Ci{P:w_}{t:x_}{S:Nat→Prop}{H:Aa}{K:v_→Prop}{s:ByteArray}{k:IntKind}{i:Nat}{j:Int}{b:UInt8}(h:P.underlying t=some .string)(c:j=(i:Int))(d:s.data[i]?=some b)
  (e:K (.int .u8 (b.toNat:Int))):A7 P (Instr.index t (.string s) (.int k j)) S H K:=by
 subst c;have a:s[i]?=some b:=by
  have⟨f,g⟩:=Yaa.1 d;have l:i<s.size:=f;rw[getElem?_pos s i l];exact congrArg some g
 refine A7.mk _ (fun w _=>?_) e;simp[Instr.index,asIntOf,run_underlying h,a]
section
variable{P:w_}{t e:x_}{x y:z_}{S:Nat→Prop}{H:Aa}
theorem M_.ofBlk{α:Type}{T:Ty α}{lo b n:Nat}{l:List v_}{xs:List α}(a:lo≤b)(f:K_ H b e l)(c:T.reps S H l xs)(g:n=xs.length)(h:n≤maxLen):M_ T S H lo e (.slice (b_ b) n n) xs:=by
 subst g;have d:=Ty.reps_len c;refine⟨l,?_,c⟩;have:=Sl.made (sz:=T.size) (n:=xs.length) (cap:=xs.length) a f (J_ _) h d;rwa [←d,YaB]at this
theorem DK{α:Type}{T:Ty α}{c:List v_}{v:α}(h:T.rep S H c v):∀n,T.reps S H (AgJ n c).flatten (AgJ n v)
 | 0=>rfl
 | n+1=>⟨c,_,rfl,h,DK h n⟩
theorem Vw(z:Array v_)(n:Nat):(AlX (n*z.size)).map (z[· % z.size]!)=(AgJ n z.toList).flatten:=by
 induction n with
 | zero=>simp
 | succ n b=>
   rw[Yby,List.range_add,Ybk,b,List.replicate_succ',List.flatten_append]
   congr 1
   simp only[List.flatten_cons,List.flatten_nil,Yba,List.map_map];apply YaH;intro i;by_cases a:i<z.size
   ·rw[t_,Ybf a];simp only[Option.map_some,Function.comp,Yag];have:(n*z.size+i) % z.size=i:=by rw[Nat.mul_comm,Nat.mul_add_mod];exact Ybs a
    rw[this,getElem!_pos z i a,getElem?_pos z i a]
   ·rw[YaE (by simp;omega),YaE (by simp;omega)]
theorem YT{α:Type}{T:Ty α}{by_:Nat}{z:v_}{g j:IntKind}{l c:Int}{v:α}{K:v_→Aa→Prop}(f:SlT P t e T.size by_ z)(n:T.rep S H z.cells.toList v)(k:0≤l)(a:l=c)(m:(by_:Int)*c≤281474976710656)(d:c≤9223372036854775807)
  (h:New H (fun b H'=>K (.slice (b_ b) c.toNat c.toNat) H') e (AgJ c.toNat z.cells.toList).flatten):Ba P (Instr.makeSlice t (.int g l) (.int j c)) H K:=by
 subst a;refine YS f k (Int.le_refl _) m d ?_;rw[←f.zsz,Vw];exact h
theorem M_.made{α:Type}{T:Ty α}{lo b n:Nat}{c:List v_}{v:α}(a:lo≤b)(d:K_ H b e (AgJ n c).flatten)(f:T.rep S H c v)(g:n≤maxLen):M_ T S H lo e (.slice (b_ b) n n) (AgJ n v):=
 M_.ofBlk a d (DK f n) (by simp) g
theorem M_.placeS{α:Type}{T:Ty α}{lo b o n cap i:Nat}{xs:List α}(h:M_ T S H lo e (.slice (some ⟨b,o,none⟩) n cap) xs)(hi:i<xs.length):n=xs.length∧o=0∧lo≤b∧∃l,K_ H b e l∧i*T.size+T.size≤l.length∧
  (∀x,xs[i]?=some x→∃c,AL H b (i*T.size) c∧T.rep S H c x)∧
  ∀(H':Aa) (c:List v_) (x:α),K_ H' b e (As l (i*T.size) c)→A_ S H H'→T.rep S H' c x→M_ T S H' lo e (.slice (some ⟨b,o,none⟩) n cap) (xs.set i x):=by
 have⟨b',a,l,p,d,f,g,j,k,q,m⟩:=h.place hi;have e2:=d;injection d with e3 e4 e5
 injection e3 with e3
 injection e3 with e6 e7 e8
 subst e6;subst e7;subst e4;subst e5;exact⟨rfl,rfl,f,l,g,j,k,m⟩
theorem Au.cut{l:List Oper}{fr:Fr}{K:Fr→Aa→Prop}{α:Type}(ts:List Nat)(enc:α→List v_)(I:α→Aa→Prop)
  (h:Au P l fr H (fun b H'=>I9 (O5 l []) fr b (P3 b ts fun vs=>∃y,vs=enc y∧I y H')))
  (k:∀(z:α) (H1:Aa) (c:Nat→v_),I z H1→GR c fr (O5 l []) fun f=>Tx f ts (enc z) fun g=>K g H1):Au P l fr H K:=by
 generalize O5 l []=ws at h k;have h:=h.out_;refine⟨?_⟩;intro id Q a w j p q r;refine h id Q a w j p q fun b a' m d e n=>r b a' m d e ?_;simp only[I9,Ct,FL]at n;have⟨t,z,u,x⟩:=n;have h:=k z m.heap (rd b) x;rw[Ct,I0,CT t,←u,GD ts b]at h;exact h
theorem He{a b:ByteArray}{K:v_→Prop}(h:a.size+b.size≤maxLen)(k:K (.string (a++b))):A7 P (do eqGuard .add t x y (.string a) (.string b);binOp .add t (.string a) (.string b)) S H K:=by
 refine A7.mk _ (fun w _=>?_) k;have c:((a.size+b.size:Nat):Int)≤9223372036854775807:=by
  unfold maxLen at h;omega
 have d:IntKind.i64.max=9223372036854775807:=rfl;rw[Int.natCast_add]at c;simp[Ft,binOp,Op.stringOp,d,c]
theorem RI{s:ByteArray}{k a:IntKind}{l h:Int}{K:v_→Prop}(b:P.underlying t=some .string)(c:0≤l)(d:l≤h)(e:h≤s.size)(f:K (.string (s.extract l.toNat h.toNat))):
  A7 P (Instr.sliceAt t (.string s) (some (.int k l)) (some (.int a h)) none) S H K:=by
 refine A7.mk _ (fun w _=>?_) f;have g:0≤h:=by omega
 have j:l≤max h 0:=by omega
 simp[Instr.sliceAt,Instr.slice,run_underlying b,Instr.sliceBounds,Instr.sliceBound,asIntOf,c,d,e,g,j]
theorem PT{s:ByteArray}{a:IntKind}{h:Int}{K:v_→Prop}(b:P.underlying t=some .string)(c:0≤h)(d:h≤s.size)(e:K (.string (s.extract 0 h.toNat))):
  A7 P (Instr.sliceAt t (.string s) none (some (.int a h)) none) S H K:=by
 refine A7.mk _ (fun w _=>?_) e;simp[Instr.sliceAt,Instr.slice,run_underlying b,Instr.sliceBounds,Instr.sliceBound,asIntOf,d,c]
theorem PU{s:ByteArray}{k:IntKind}{l:Int}{K:v_→Prop}(a:P.underlying t=some .string)(b:0≤l)(c:l≤s.size)(d:K (.string (s.extract l.toNat s.size))):
  A7 P (Instr.sliceAt t (.string s) (some (.int k l)) none none) S H K:=by
 refine A7.mk _ (fun w _=>?_) d;simp[Instr.sliceAt,Instr.slice,run_underlying a,Instr.sliceBounds,Instr.sliceBound,asIntOf,b,c]
end
theorem HH{α:Type}{l:List α}{k:Nat}{x z:α}(h:l[k]?=some x):(l.take k++AgJ (l.length-k) z).set k x=l.take (k+1)++AgJ (l.length-(k+1)) z:=by
 have a:=(X_.1 h).1;have b:=(X_.1 h).2;rw[YaS _ _ (by simp;omega),YaN,Ybu (by omega),YbD,show l.length-k=(l.length-(k+1))+1 by omega,Ybg,List.set_cons_zero,List.take_succ_eq_append_getElem a,b,YaC];rfl
theorem QA{α:Type}{l:List α}{k:Nat}{z:α}(h:k<l.length):(l.take k++AgJ (l.length-k) z)[k]?=some z:=by
 rw[YaD (by simp;omega),YaN,Ybu (by omega),YbD,Ya9,I_ (by omega)]
theorem Mu{α:Type}{l:List α}{k:Nat}{z:α}(h:k≤l.length):(l.take k++AgJ (l.length-k) z).length=l.length:=by simp;omega
theorem Mt{α:Type}{l:List α}{z:α}:l.take l.length++AgJ (l.length-l.length) z=l:=by simp
theorem Ms{α:Type}{l:List α}{z:α}:l.take 0++AgJ (l.length-0) z=AgJ l.length z:=by simp
theorem C6{l:List v_}{o:Nat}{v:v_}(h:o<l.length):As l o [v]=l.set o v:=by
 apply YaH;intro j;rw[CZ (by simp;omega),YaP];simp only[k_];by_cases a:o=j
 ·subst a;simp[h]
 ·rw[G_ (by omega),G_ a]
theorem AbS{P:w_}{t e:x_}{sz by_:Nat}{z g j:v_}{H:Aa}{K:v_→Aa→Prop}(k:SlT P t e sz by_ z)(l1 l2:List v_)(a:g.cells=l1.toArray)(c:j.cells=l2.toArray)(d:l1.length=sz)(f:l2.length=sz)(l:0<sz)(m:2*sz≤16777216)
  (h:New H (fun b H'=>K (.slice (b_ b) 2 2) H') e (l1++l2)):Ba P (Instr.buildSlice t 2 [(0,g),(1,j)].toArray) H K:=by
 refine YO k (l1++l2) (by omega) (by omega) ?_ h;rw[show([(0,g),(1,j)].toArray).toList=(0,g)::(1,j)::[]from rfl,Kp (off:=0) (size:=sz) (by simp) (by rw[a];simpa using d) (by simp;omega),
  Kp (off:=sz) (size:=sz) (by simp) (by rw[c];simpa using f) (by simp[As,a];omega)]
 rw[Instr.fill,a,c]
 congr 1
 apply AlH;simp[As,d,f];omega
structure Pc where
 foot:Nat→Prop
 ok:Aa→Prop
 fr:∀{H H':Aa},A_ foot H H'→ok H→ok H'
def Dis(p q:Pc):Prop:=∀k,p.foot k→¬q.foot k
structure E_(B:Nat→Prop)(H0 H:Aa)(ps:List Pc):Prop where
 old:A_ B H0 H
 lt0:∀k,B k→k<H0.size
 size:H0.size≤H.size
 oks:∀p∈ps,p.ok H
 rng:∀p∈ps,∀k,p.foot k→¬B k∧k<H.size
 dis:ps.Pairwise Dis
abbrev St(H0 H:Aa)(ps:List Pc):Prop:=E_ (D_ H0) H0 H ps
section
variable{B:Nat→Prop}{H0 H H':Aa}{ps:List Pc}{p q:Pc}
theorem St.nil(H:Aa):St H H []:=⟨A_.refl _ _,fun _ h=>h,J_ _,(fun _ h=>by cases h),(fun _ h=>by cases h),List.Pairwise.nil⟩
theorem E_.start(c:p.ok H)(d:∀k,p.foot k→k<H.size):E_ (fun k=>k<H.size∧¬p.foot k) H H [p]:=
 ⟨A_.refl _ _,fun _ h=>h.1,J_ _,(fun q a=>by rw[V_]at a;subst a;exact c),(fun q a k b=>by rw[V_]at a;subst a;exact⟨fun h=>h.2 b,d k b⟩),YaY _ _⟩
theorem E_.up(a:E_ B H0 H ps){k:Nat}(b:B k):k<H.size:=Ybq (a.lt0 k b) a.size
theorem E_.call(a:E_ B H0 H ps)(h:A_ (D_ H) H H'):E_ B H0 H' ps:=
 ⟨a.old.trans (h.mono fun k b=>a.up b),a.lt0,YbC a.size (Ap h),fun p c=>p.fr (h.mono fun k b=>(a.rng p c k b).2) (a.oks p c),
  fun p c k b=>⟨(a.rng p c k b).1,Ae h (a.rng p c k b).2⟩,a.dis⟩
theorem E_.at_(a:E_ B H0 H ps)(i:Nat)(b:ps[i]?=some p):p.ok H:=a.oks p (d_ b)
theorem E_.in_(a:E_ B H0 H ps)(i:Nat)(b:ps[i]?=some p){k:Nat}(c:p.foot k):¬B k∧k<H.size:=a.rng p (d_ b) k c
theorem E_.add(e:E_ B H0 H ps)(h:A_ (D_ H) H H')(p:Pc)(m:p.ok H')(g:∀k,p.foot k→H.size≤k∧k<H'.size):E_ B H0 H' (ps++[p]):=by
 have d:=e.call h;refine⟨d.old,e.lt0,d.size,fun q c=>?_,fun q c k f=>?_,List.pairwise_append.2 ⟨e.dis,YaY _ _,fun a n b l=>?_⟩⟩
 ·rcases q_.1 c with c | c
  ·exact d.oks q c
  ·rw[V_]at c;subst c;exact m
 ·rcases q_.1 c with c | c
  ·exact d.rng q c k f
  ·rw[V_]at c;subst c;exact⟨fun r=>by have:=e.up r;have:=g k f;omega,(g k f).2⟩
 ·rw[V_]at l;subst l;intro k f j;have:=(e.rng a n k f).2;have:=(g k j).1;omega
theorem E_.upd(f:E_ B H0 H ps)(i:Nat)(y:ps[i]?=some p)(h:A_ (fun k=>k<H.size∧¬p.foot k) H H')(q:Pc)(G:q.ok H')(D:∀k,q.foot k→p.foot k∨H.size≤k)(I:∀k,q.foot k→k<H'.size)(hs:H.size≤H'.size):E_ B H0 H' (ps.set i q):=by
 have z:=(X_.1 y).1;have t:=d_ y;have u:∀(j:Nat) (r:Pc),ps[j]?=some r→j≠i→Dis r p:=by
  intro j r c l k d g;have w:=(X_.1 c).1;have E:=(X_.1 c).2;have e2:=(X_.1 y).2;rcases Yb1 l with e | e
  ·exact Ya6.1 f.dis j i w z e k (by rw[E];exact d) (by rw[e2];exact g)
  ·exact Ya6.1 f.dis i j z w e k (by rw[e2];exact g) (by rw[E];exact d)
 have x:∀r,r∈ps.set i q→r=q∨∃j,j≠i∧ps[j]?=some r:=by
  intro r c;have⟨j,l⟩:=YaT c;by_cases e:i=j
  ·subst e;rw[Ya3 z]at l;cases l;exact .inl rfl
  ·rw[Ya4 e]at l;exact .inr ⟨j,Ne.symm e,l⟩
 refine⟨f.old.trans (h.mono fun k d=>⟨f.up d,fun n=>(f.rng p t k n).1 d⟩),f.lt0,YbC f.size hs,fun r c=>?_,fun r c k d=>?_,?_⟩
 ·rcases x r c with rfl | ⟨j,l,c⟩
  ·exact G
  ·exact r.fr (h.mono fun k d=>⟨(f.rng r (d_ c) k d).2,fun n=>u j r c l k d n⟩) (f.oks r (d_ c))
 ·rcases x r c with rfl | ⟨j,l,c⟩
  ·refine⟨?_,I k d⟩;rcases D k d with m | m
   ·exact(f.rng p t k m).1
   ·exact fun J=>by have:=f.up J;omega
  ·have:=f.rng r (d_ c) k d;exact⟨this.1,by omega⟩
 ·have old:∀(j:Nat) (r:Pc),ps[j]?=some r→j≠i→Dis r q:=by
   intro j r c l k d g;rcases D k g with m | m
   ·exact u j r c l k d m
   ·have:=(f.rng r (d_ c) k d).2;omega
  rw[Ya6];intro a b A n C;simp only[YaF]at A n;rw[Ybh,Ybh];by_cases m:i=a
  ·subst m;rw[I_ rfl,G_ (by omega)];exact fun k d g=>old b _ (Ya2 n) (by omega) k g d
  ·rw[G_ m];by_cases F:i=b
   ·subst F;rw[I_ rfl];exact old a _ (Ya2 A) (by omega)
   ·rw[G_ F];exact Ya6.1 f.dis a b A n C
theorem E_.pick(c:E_ B H0 H ps)(is:List Nat)(u:is.Nodup):E_ B H0 H (is.filterMap fun i=>ps[i]?):=by
 have m:∀r,r∈is.filterMap (fun i=>ps[i]?)→r∈ps:=fun r d=>by
  obtain⟨i,_,w⟩:=List.mem_filterMap.1 d;exact d_ w
 refine⟨c.old,c.lt0,c.size,fun r d=>c.oks r (m r d),fun r d=>c.rng r (m r d),?_⟩;rw[List.pairwise_filterMap];refine u.imp ?_;intro i j l a n b p k q e;have f:=(X_.1 n).1;have g:=(X_.1 p).1;have t:=(X_.1 n).2;have e2:=(X_.1 p).2;rcases Yb1 l with h | h
 ·exact Ya6.1 c.dis i j f g h k (by rw[t];exact q) (by rw[e2];exact e)
 ·exact Ya6.1 c.dis j i g f h k (by rw[e2];exact e) (by rw[t];exact q)
theorem E_.say(b:E_ B H0 H ps)(i:Nat)(c:ps[i]?=some p)(q:Pc)(e:q.ok H)(d:∀k,q.foot k→p.foot k):E_ B H0 H (ps.set i q):=
 b.upd i c (A_.refl _ _) q e (fun k a=>.inl (d k a)) (fun k a=>(b.in_ i c (d k a)).2) (J_ _)
theorem St.ge(a:St H0 H ps)(i:Nat)(b:ps[i]?=some p){k:Nat}(c:p.foot k):H0.size≤k:=by
 have:=(a.in_ i b c).1;unfold D_ at this;omega
def pJ(p q:Pc):Pc:=⟨fun k=>p.foot k∨q.foot k,fun H=>p.ok H∧q.ok H,fun h hp=>⟨p.fr (h.mono fun _ hk=>.inl hk) hp.1,q.fr (h.mono fun _ hk=>.inr hk) hp.2⟩⟩
theorem E_.join(g:E_ B H0 H ps)(i j:Nat)(A:ps[i]?=some p)(C:ps[j]?=some q)(L:i<j):E_ B H0 H ((ps.eraseIdx j).set i (pJ p q)):=by
 have M:=(X_.1 A).1;have N:=(X_.1 C).1;have t:=d_ A;have u:=d_ C;have d:∀(a:Nat) (r:Pc),((ps.eraseIdx j).set i (pJ p q))[a]?=some r→(a=i∧r=pJ p q)∨(a≠i∧∃b,b≠i∧b≠j∧ps[b]?=some r∧b=if a<j then a else a+1):=by
  intro a r f;by_cases m:i=a
  ·subst m;rw[Ya3 (by rw[List.length_eraseIdx];split<;>omega)]at f;cases f;exact .inl ⟨rfl,rfl⟩
  ·rw[Ya4 m,List.getElem?_eraseIdx]at f;refine .inr ⟨Ne.symm m,if a<j then a else a+1,?_,?_,?_,rfl⟩
   ·split<;>omega
   ·split<;>omega
   ·split at f
    ·rename_i h;rw[I_ h];exact f
    ·rename_i h;rw[G_ h];exact f
 have l:∀(a b:Nat) (r s:Pc),a≠b→ps[a]?=some r→ps[b]?=some s→Dis r s:=by
  intro a b r s w f hs k e c;have x:=(X_.1 f).1;have y:=(X_.1 hs).1;have K:=(X_.1 f).2;have e2:=(X_.1 hs).2;rcases Yb1 w with h | h
  ·exact Ya6.1 g.dis a b x y h k (by rw[K];exact e) (by rw[e2];exact c)
  ·exact Ya6.1 g.dis b a y x h k (by rw[e2];exact c) (by rw[K];exact e)
 refine⟨g.old,g.lt0,g.size,fun r f=>?_,fun r f k e=>?_,?_⟩
 ·have⟨a,m⟩:=YaT f;rcases d a r m with⟨_,rfl⟩ | ⟨_,b,_,_,z,_⟩
  ·exact⟨g.oks p t,g.oks q u⟩
  ·exact g.oks r (d_ z)
 ·have⟨a,m⟩:=YaT f;rcases d a r m with⟨_,rfl⟩ | ⟨_,b,_,_,z,_⟩
  ·rcases e with e | e
   ·exact g.rng p t k e
   ·exact g.rng q u k e
  ·exact g.rng r (d_ z) k e
 ·rw[Ya6];intro a b m z w k e c;have O:=Ya2 m;have P:=Ya2 z;rcases d a _ O with⟨Q,R⟩ | ⟨Q,a',S,T,D,U⟩<;>rcases d b _ P with⟨E,F⟩ | ⟨E,b',G,I,n,J⟩
  ·omega
  ·rw[R]at e;rcases e with e | e
   ·exact l i b' p _ (Ne.symm G) A n k e c
   ·exact l j b' q _ (Ne.symm I) C n k e c
  ·rw[F]at c;rcases c with c | c
   ·exact l a' i _ p S D A k e c
   ·exact l a' j _ q T D C k e c
  ·refine l a' b' _ _ ?_ D n k e c;rw[U,J];split<;>split<;>omega
end
def pB(e:x_)(b:Nat)(l:List v_):Pc:=⟨fun k=>k=b,fun H=>K_ H b e l,fun h hp=>hp.agr h rfl⟩
section
variable{B:Nat→Prop}{H0 H H':Aa}{ps:List Pc}{e:x_}{b:Nat}{l:List v_}
theorem E_.box(c:E_ B H0 H ps)(d:b=H.size)(hs:H'.size=b+1)(a:K_ H' b e l)(f:A_ (fun k=>k<b) H H'):E_ B H0 H' (ps++[pB e b l]):=by
 subst d;exact c.add (f.mono fun k a=>a) _ a fun k a=>by have:k=H.size:=a;omega
theorem BV{P:w_}{t:x_}{K:v_→Aa→Prop}(a:E_ B H0 H ps)(z:v_)(l:List v_)(c:(P.info? t).bind (·.zero)=some z)(d:z.cells=l.toArray)(h:∀b H',E_ B H0 H' (ps++[pB t b l])→K (H_ b) H'):Ba P (Instr.alloc t true (.tuple #[])) H K:=
 Aw z l c d fun b H' e hs f g=>h b H' (a.box e hs f g)
theorem BL{P:w_}{t:x_}{v:v_}{K:v_→Aa→Prop}(a:E_ B H0 H ps)(l:List v_)(c:v.cells=l.toArray)(h:∀b H',E_ B H0 H' (ps++[pB t b l])→K (H_ b) H'):Ba P (Instr.box t v) H K:=
 BC l c fun b H' d hs e f=>h b H' (a.box d hs e f)
theorem E_.skip(a:E_ B H0 H ps)(c:b=H.size)(d:A_ (fun k=>k<b) H H'):E_ B H0 H' ps:=by
 subst c;exact a.call (d.mono fun k e=>e)
theorem E_.blk(a:E_ B H0 H ps)(i:Nat)(c:ps[i]?=some (pB e b l)):K_ H b e l:=a.at_ i c
theorem Bh{P:w_}{t o:Nat}{v:v_}{K:Aa→Prop}(c:E_ B H0 H ps)(i:Nat) [ht:CellT P t](d:ps[i]?=some (pB e b l))(m:o<l.length)(n:v.oneCell'=true)
  (k:∀H',E_ B H0 H' (ps.set i (pB e b (l.set o v)))→K H'):By P (Instr.storeAt t (.pointer (some ⟨b,o,none⟩)) v) H K:=by
 refine Zak (c.at_ i d) m n ?_;intro H' f g h;exact k H' (c.upd i d (g.mono fun k a j=>a.2 j) _ f (fun k a=>.inl a) (fun k a=>by rw[h];exact(c.in_ i d a).2) (by omega))
theorem AD{P:w_}{t o:Nat}{cs:List v_}{K:Aa→Prop}(c:E_ B H0 H ps)(i:Nat)(m:(P.info? t).map (·.size)=some cs.length)(d:ps[i]?=some (pB e b l))(n:o+cs.length≤l.length)(p:cs.all (·.oneCell')=true)
  (k:∀H',E_ B H0 H' (ps.set i (pB e b (As l o cs)))→K H'):By P (Instr.storeAt t (.pointer (some ⟨b,o,none⟩)) (.agg cs.toArray)) H K:=by
 refine Zaa m (c.at_ i d) n p ?_;intro H' f g h;exact k H' (c.upd i d (g.mono fun k a j=>a.2 j) _ f (fun k a=>.inl a) (fun k a=>by rw[h];exact(c.in_ i d a).2) (by omega))
end
section
variable{α:Type}
def pN(T:Ty α)(S:Nat→Prop)(e:x_)(a:Option Addr)(n cap:Nat)(xs:List α):Pc where
 foot k:=N_ (.slice a n cap) k∨S k
 ok H:=M_ T S H 0 e (.slice a n cap) xs∧∀k,S k→¬N_ (.slice a n cap) k
 fr h hp:=⟨hp.1.agr h (fun _ hb=>.inl hb) (fun _ hb=>.inr hb),hp.2⟩
def none_(_:Nat):Prop:=False
abbrev pS(T:Ty α)(e:x_)(a:Option Addr)(n cap:Nat)(xs:List α):Pc:=pN T none_ e a n cap xs
variable{T:Ty α}{S:Nat→Prop}{e:x_}{a:Option Addr}{n cap:Nat}{xs:List α}{B:Nat→Prop}{H0 H H':Aa}{ps:List Pc}
theorem M_.hull{lo:Nat}{v:v_}(h:M_ T S H lo e v xs):∃a cap,v= .slice a xs.length cap:=by
 obtain⟨d,⟨f,c⟩,g⟩:=h;rcases c with⟨rfl,c⟩ | ⟨b,cap,l,rfl,j,k,m,n,p,q⟩
 ·exact⟨none,0,by rw[c]⟩
 ·exact⟨_,_,rfl⟩
theorem M_.nlen{lo:Nat}(h:M_ T S H lo e (.slice a n cap) xs):n=xs.length:=by
 have⟨a',b,e⟩:=h.hull;injection e
theorem M_.up{lo:Nat}{v:v_}(h:M_ T S H 0 e v xs)(c:∀b,N_ v b→lo≤b):M_ T S H lo e v xs:=by
 obtain⟨d,⟨f,a⟩,g⟩:=h;refine⟨d,⟨f,?_⟩,g⟩;rcases a with a | ⟨b,cap,l,rfl,r⟩
 ·exact .inl a
 ·exact .inr ⟨b,cap,l,rfl,c b ⟨_,_,_,rfl⟩,r.2⟩
theorem St.own(c:St H0 H ps)(i:Nat)(d:ps[i]?=some (pN T S e a n cap xs)):M_ T S H H0.size e (.slice a n cap) xs:=
 (c.at_ i d).1.up fun b f=>c.ge i d (.inl f)
theorem E_.len(b:E_ B H0 H ps)(i:Nat)(c:ps[i]?=some (pN T S e a n cap xs)):n=xs.length:=(b.at_ i c).1.nlen
theorem E_.max(b:E_ B H0 H ps)(i:Nat)(c:ps[i]?=some (pN T S e a n cap xs)):xs.length≤maxLen:=(b.at_ i c).1.len
theorem E_.adr(d:E_ B H0 H ps)(i:Nat)(f:ps[i]?=some (pN T S e a n cap xs))(g:0<xs.length):∃b,a=some ⟨b,0,none⟩:=by
 obtain⟨h,⟨j,c⟩,k⟩:=(d.at_ i f).1;rcases c with⟨c,m⟩ | ⟨b,cap,l,c,r⟩
 ·omega
 ·injection c with c
  exact⟨b,c⟩
theorem E_.view(c:E_ B H0 H ps)(i:Nat)(d:ps[i]?=some (pN T S e a n cap xs)):S_ T (D_ H) H a cap xs:=by
 obtain⟨a',j,f,h,-⟩:=(c.at_ i d).1.view (S':=D_ H) (fun b g=>(c.in_ i d (.inl g)).2) (fun b g=>(c.in_ i d (.inr g)).2);injection f with f e2 e3
 subst f;subst e3;exact h
theorem St.viewF(c:St H0 H ps)(i:Nat)(d:ps[i]?=some (pN T S e a n cap xs)):S_ T (fun k=>H0.size≤k∧k<H.size) H a cap xs:=by
 obtain⟨a',j,g,h,-⟩:=(c.at_ i d).1.view (S':=fun k=>H0.size≤k∧k<H.size) (fun b f=>⟨c.ge i d (.inl f),(c.in_ i d (.inl f)).2⟩) (fun b f=>⟨c.ge i d (.inr f),(c.in_ i d (.inr f)).2⟩);injection g with g e2 e3
 subst g;subst e3;exact h
theorem ixO{P:w_}{t by_ j:Nat}{z:v_}{k:IntKind}{x:α}{d:Int}{S0:Nat→Prop}{H2:Aa}{K:v_→Prop}(m:SlT P t e T.size by_ z)(f:E_ B H0 H ps)(i:Nat)(g:ps[i]?=some (pN T S e a n cap xs))
  (l:xs[j]?=some x) (p:d=(j:Int)) (q:∀b o c,D_ H b→AL H b o c→T.rep (D_ H) H c x→K (.pointer (some ⟨b,o,none⟩))):A7 P (Instr.indexAt t (.slice a n cap) (.int k d)) S0 H2 K:=by
 have h:=f.view i g;have y:=f.len i g;obtain⟨b,o,c,rfl,r,u,w⟩:=h.get l;subst p;have A:=(X_.1 l).1;exact ix m (by omega) (by omega) (by simpa using q b _ c r u w)
theorem AfK{P:w_}{t b o j:Nat}{v:v_}{x:α}{K:Aa→Prop}(q:E_ B H0 H ps)(i:Nat) [ht:CellT P t](r:ps[i]?=some (pN T S t (b_ b) n cap xs))(u:T.size=1)(z:o=j)(A:j<xs.length)
  (C:v.oneCell'=true) (D:∀H',A_ S H H'→T.rep S H' [v] x) (k:∀H',E_ B H0 H' (ps.set i (pN T S t (b_ b) n cap (xs.set j x)))→K H'):By P (Instr.storeAt t (.pointer (some ⟨b,o,none⟩)) v) H K:=by
 subst z;have c:=q.at_ i r;obtain⟨-,-,-,l,f,g,-,a⟩:=c.1.placeS A;rw[u,Yb3]at g a;refine Zak f (by omega) C ?_;intro H' w h y;have m:A_ S H H':=h.mono fun k d e=>c.2 k d (by subst e;exact⟨0,n,cap,rfl⟩);have p:=a H' [v] x (by rw[C6 (by omega)];exact w) m (D H' m);refine k H' (q.upd i r (h.mono fun k d e=>d.2 (.inl (by subst e;exact⟨0,n,cap,rfl⟩))) _ ⟨p,c.2⟩ (fun k d=>.inl d) (fun k d=>by rw[y];exact(q.in_ i r d).2) (by omega))
theorem E_.new{b:Nat}{l:List v_}(d:E_ B H0 H ps)(f:b=H.size)(hs:H'.size=b+1)(a:K_ H' b e l)(g:A_ (fun k=>k<b) H H')(j:T.reps none_ H' l xs)(m:n=xs.length)(p:n≤maxLen):E_ B H0 H' (ps++[pS T e (b_ b) n n xs]):=by
 subst f;refine d.add (g.mono fun k a=>a) _ ⟨M_.ofBlk (l_ _) a j m p,fun k a=>a.elim⟩ fun k a=>?_;rcases a with⟨o,q,c,h⟩ | h
 ·cases h;omega
 ·exact h.elim
theorem E_.nils(b:E_ B H0 H ps)(T:Ty α)(e:x_):E_ B H0 H (ps++[pS T e none 0 0 []]):=
 b.add (A_.refl _ _) _ ⟨M_.nil,fun k a=>a.elim⟩ fun k a=>by
  rcases a with⟨o,d,c,h⟩ | h
  ·cases h
  ·exact h.elim
theorem E_.got{v:v_}(c:E_ B H0 H ps)(d:A_ (D_ H) H H')(h:M_ T none_ H' H.size e v xs):∃a cap,v= .slice a xs.length cap∧E_ B H0 H' (ps++[pS T e a xs.length cap xs]):=by
 obtain⟨a,cap,rfl⟩:=h.hull;refine⟨a,cap,rfl,c.add d _ ⟨h.lower (l_ _),fun k b=>b.elim⟩ fun k b=>?_⟩;rcases b with b | b
 ·exact h.lt b
 ·exact b.elim
theorem Qn{P:w_}{t ty q o m g by_:Nat}{z:v_}{ys:List α}{ds:List v_}{K:v_→Aa→Prop}(r:E_ B H0 H ps)(i:Nat)(x:SlT P t e T.size by_ z)(w:ps[i]?=some (pS T e a n cap xs))
  (hd:AL H q o ds) (y:T.reps none_ H ds ys) (A:m=ys.length) (C:∀u∈ds,u.oneCell'=true) (l:xs.length+ys.length≤34359738368) (hby:by_≤1024)
  (k:∀a' c H',E_ B H0 H' (ps.set i (pS T e a' (xs.length+ys.length) c (xs++ys)))→A_ (fun k=>k<H.size∧¬N_ (.slice a n cap) k) H H'→K (.slice a' (xs.length+ys.length) c) H'):
  Ba P (Builtin.append_ #[t,t] ty [.slice a n cap,.slice (some ⟨q,o,none⟩) m g].toArray) H K:=by
 refine BG (T:=T) (S:=none_) (lo:=0) x (r.at_ i w).1 (l_ _) (fun k b=>b.elim) hd y A C (by unfold maxLen;omega) (by have:=YbF l hby;omega) ?_;intro E H' d f p j;obtain⟨a',c,rfl⟩:=d.hull;rw[Q_]at d j ⊢;refine k a' c H' (r.upd i w (f.mono fun k b=>⟨b.1,fun D=>b.2 (.inl D)⟩) _ ⟨d,fun k b=>b.elim⟩ (fun k b=>?_) (fun k b=>?_) p) f
 ·rcases b with b | b
  ·rcases j k b with h | h
   ·exact .inl (.inl h)
   ·exact .inr h
  ·exact b.elim
 ·rcases b with b | b
  ·exact(d.lt b).2
  ·exact b.elim
theorem GH{P:w_}{t ty q by_:Nat}{z v:v_}{x:α}{K:v_→Aa→Prop}(f:E_ B H0 H ps)(i:Nat)(g:SlT P t e T.size by_ z)(h:ps[i]?=some (pS T e a n cap xs))
  (hd:K_ H q e [v]) (l:T.rep none_ H [v] x) (c:v.oneCell'=true) (d:xs.length+1≤34359738368) (hby:by_≤1024)
  (k:∀a' b H',E_ B H0 H' (ps.set i (pS T e a' (xs.length+1) b (xs++[x])))→A_ (fun k=>k<H.size∧¬N_ (.slice a n cap) k) H H'→K (.slice a' (xs.length+1) b) H'):
  Ba P (Builtin.append_ #[t,t] ty [.slice a n cap,.slice (b_ q) 1 1].toArray) H K:=
 Qn (ys:=[x]) f i g h (hd.cells (fun j v c=>by simpa using c)) (Ty.reps_one l) rfl (fun u m=>by cases V_.1 m;exact c) (by simpa using d) hby k
end
section
variable{α:Type}{T:Ty α}{B:Nat→Prop}{H0 H H1:Aa}{ps:List Pc}{e te:x_}{nb:Nat}{vs:List v_}{xs:List (List α)}
theorem Tab.hold{S':Nat→Prop}{lo:Nat}(h:Tab T none_ H lo e nb te vs xs)(k:A_ S' H H1)(f:S' nb)(a:∀(i:Nat) (v:v_),vs[i]?=some v→∀j,N_ v j→S' j):Tab T none_ H1 lo e nb te vs xs:=
 ⟨h.len,h.blk.agr k f,h.nlo,fun i v x d g=>(h.own i v x d g).agr k (fun b c=>a i v d b c) (fun b a=>a.elim),h.apart⟩
def pT(T:Ty α)(e te:x_)(nb:Nat)(vs:List v_)(xs:List (List α)):Pc where
 foot k:=k=nb∨∃(i:Nat) (v:v_),vs[i]?=some v∧N_ v k
 ok H:=Tab T none_ H (nb+1) e nb te vs xs
 fr h hp:=hp.hold h (.inl rfl) fun i v hv j hj=>.inr ⟨i,v,hv,hj⟩
theorem E_.tab(a:E_ B H0 H ps)(i:Nat)(b:ps[i]?=some (pT T e te nb vs xs)):Tab T none_ H (nb+1) e nb te vs xs:=a.at_ i b
theorem E_.tabNew{n:Nat}(d:E_ B H0 H ps)(T:Ty α)(e:x_)(f:nb=H.size)(hs:H1.size=nb+1)(a:K_ H1 nb te (AgJ n (.slice none 0 0)))(g:A_ (fun k=>k<nb) H H1):E_ B H0 H1 (ps++[pT T e te nb (AgJ n (.slice none 0 0)) (AgJ n [])]):=by
 subst f;refine d.add (g.mono fun k a=>a) _ (Tab.new a (Nat.lt_succ_self _)) fun k a=>?_;rcases a with rfl | ⟨i,v,b,a⟩
 ·omega
 ·rw[Ya9]at b;split at b
  ·cases b;have⟨o,n,c,h⟩:=a;cases h
  ·cases b
theorem E_.row(h:E_ B H0 H ps)(i:Nat)(j:ps[i]?=some (pT T e te nb vs xs)){t:Nat}{x:List α}(g:xs[t]?=some x):∃a cap,vs[t]?=some (.slice a x.length cap)∧S_ T (D_ H) H a cap x:=by
 have tab:=h.tab i j;have k:=(X_.1 g).1;have⟨v,n,l,d,c⟩:=tab.get k;rw[g]at d;cases d;obtain⟨a,cap,rfl,hd,-⟩:=c.view (S':=D_ H) (fun b m=>(c.lt m).2) (fun _ f=>f.elim);exact⟨a,cap,l,hd⟩
theorem E_.tcell(a:E_ B H0 H ps)(i:Nat)(b:ps[i]?=some (pT T e te nb vs xs)){t o:Nat}{v:v_}(c:vs[t]?=some v)(d:o=t):YtdopnglgekglgaaGreatDoor.cell H nb o=some v:=by
 subst d;rw[(a.tab i b).blk.cell];exact c
structure Mid(T:Ty α)(B:Nat→Prop)(H0 H H1:Aa)(ps:List Pc)(i:Nat)(e te:x_)(nb:Nat)(vs:List v_)(xs:List (List α))(t:Nat)(v':v_)(x':List α):Prop where
 st:E_ B H0 H ps
 hp:ps[i]?=some (pT T e te nb vs xs)
 own:M_ T none_ H1 (nb+1) e v' x'
 ex:∃v,vs[t]?=some v∧A_ (fun k=>k<H.size∧¬N_ v k) H H1∧∀k,N_ v' k→N_ v k∨H.size≤k
 le:H.size≤H1.size
theorem Zab{P:w_}{tt ty q by_ t:Nat}{z w:v_}{a:Option Addr}{n cap:Nat}{x:List α}{y:α}{K:v_→Aa→Prop}(p:E_ B H0 H ps)(i:Nat)(A:SlT P tt e T.size by_ z)(r:ps[i]?=some (pT T e te nb vs xs))(h:vs[t]?=some (.slice a n cap))(C:xs[t]?=some x)
  (hd:K_ H q e [w]) (D:T.rep none_ H [w] y) (E:w.oneCell'=true) (l:x.length+1≤34359738368) (hby:by_≤1024)
  (k:∀a' c H1,Mid T B H0 H H1 ps i e te nb vs xs t (.slice a' (x.length+1) c) (x++[y])→K (.slice a' (x.length+1) c) H1):Ba P (Builtin.append_ #[tt,tt] ty [.slice a n cap,.slice (b_ q) 1 1].toArray) H K:=by
 have tab:=p.tab i r;have d:=tab.own t _ _ h C;refine BG (T:=T) (S:=none_) (lo:=nb+1) (ys:=[y]) A d tab.blk.lt (fun k F=>F.elim) (hd.cells (fun j v h=>by simpa using h)) (Ty.reps_one D) rfl (fun u G=>by cases V_.1 G;exact E) (by unfold maxLen;simp only[k_];omega) (by have:=YbF l hby;simp only[k_];omega) ?_;intro I H1 b f m g;obtain⟨a',c,rfl⟩:=b.hull;rw[Q_,k_]at b g ⊢;exact k a' c H1 ⟨p,r,b,⟨_,h,f,g⟩,m⟩
theorem Zac{P:w_}{i t o:Nat}{g:v_}{u:List α}{K:Aa→Prop}(m:Mid T B H0 H H1 ps i e te nb vs xs t g u) [ht:CellT P te](I:o=t)
  (k:∀H2,E_ B H0 H2 (ps.set i (pT T e te nb (vs.set t g) (xs.set t u)))→K H2):By P (Instr.storeAt te (.pointer (some ⟨nb,o,none⟩)) g) H1 K:=by
 subst I;have⟨v,l,c,n⟩:=m.ex;have F:=m.st;have tab:=F.tab i m.hp;have f:o<vs.length:=(X_.1 l).1;have y:o<xs.length:=by rw[←tab.len];exact f
 obtain⟨x,J⟩:∃x,xs[o]?=some x:=⟨xs[o],Ya2 y⟩;have z:=tab.own o v x l J;have A:¬N_ v nb:=fun h=>by have:=(z.lt h).1;omega
 have p:=tab.blk.agr c ⟨tab.blk.lt,A⟩;refine Zak p f m.own.one ?_;intro H2 C q L;have b:Tab T none_ H2 (nb+1) e nb te (vs.set o g) (xs.set o u):=tab.push l m.own c n C q (fun k a=>a.elim);have M:=m.le;have r:∀(j:Nat) (w:v_),(vs.set o g)[j]?=some w→∀k,N_ w k→k<H2.size:=fun j w d k a=>by
  have D:=(X_.1 d).1;have:j<(xs.set o u).length:=by rw[←b.len];exact D
  exact((b.own j w _ d (Ya2 this)).lt a).2
 refine k H2 (F.upd i m.hp (H':=H2) ?_ _ b ?_ ?_ (by omega))
 ·exact(c.mono fun k a=>⟨a.1,fun N=>a.2 (.inr ⟨o,v,l,N⟩)⟩).trans (q.mono fun k a E=>a.2 (.inl E))
 ·intro k a;rcases a with rfl | ⟨j,w,d,a⟩
  ·exact .inl (.inl rfl)
  ·by_cases G:o=j
   ·subst G;rw[Ya3 f]at d;cases d;rcases n k a with h | h
    ·exact .inl (.inr ⟨o,v,l,h⟩)
    ·exact .inr h
   ·rw[Ya4 G]at d;exact .inl (.inr ⟨j,w,d,a⟩)
 ·intro k a;rcases a with rfl | ⟨j,w,d,a⟩
  ·exact b.blk.lt
  ·exact r j w d k a
theorem E_.tview(a:E_ B H0 H ps)(i:Nat)(b:ps[i]?=some (pT T e te nb vs xs))(c:xs.length≤maxLen):S_ (tSl T) (D_ H) H (b_ nb) xs.length xs:=
 (a.tab i b).view rfl c (fun k _ d=>d) (fun _ f=>f.elim)
end
def BB(cv:v_)(cell:List Nat)(nv fv av:v_):List v_:=
 cv::(cell.map (fun n:Nat=>Value.int .u8 (n:Int))++AgJ (256-cell.length) (.int .u8 0))++[nv,fv,av]
section
variable{cv nv fv av x:v_}{cell:List Nat}
theorem Ii(h:cell.length≤256):(BB cv cell nv fv av).length=260:=by simp[BB];omega
theorem Lu:(BB cv cell nv fv av)[0]?=some cv:=by simp[BB]
theorem RW:(BB cv cell nv fv av).set 0 x=BB x cell nv fv av:=by simp[BB]
theorem Kg(h:cell.length≤256)(j:Nat):(BB cv cell nv fv av)[257+j]?=[nv,fv,av][j]? :=by
 unfold BB;rw[YaO,show 257+j=(256+j)+1 by omega,YaL,YaD (by simp;omega)]
 congr 1
 simp;omega
theorem EV(h:cell.length≤256):(BB cv cell nv fv av)[257]?=some nv:=Kg h 0
theorem Ke(h:cell.length≤256):(BB cv cell nv fv av)[258]?=some fv:=Kg h 1
theorem Kf(h:cell.length≤256):(BB cv cell nv fv av)[259]?=some av:=Kg h 2
theorem Ma(h:cell.length≤256)(j:Nat):(BB cv cell nv fv av).set (257+j) x=cv::(cell.map (fun n:Nat=>Value.int .u8 (n:Int))++AgJ (256-cell.length) (.int .u8 0))++[nv,fv,av].set j x:=by
 unfold BB;rw[YaO,show 257+j=(256+j)+1 by omega,YaW,YaS (h:=by simp;omega)];have e:256+j-(List.map (fun n:Nat=>Value.int .u8 (n:Int)) cell++AgJ (256-cell.length) (Value.int .u8 0)).length=j:=by simp;omega
 rw[e];rfl
theorem OD(h:cell.length≤256):(BB cv cell nv fv av).set 257 x=BB cv cell x fv av:=Ma h 0
theorem OE(h:cell.length≤256):(BB cv cell nv fv av).set 259 x=BB cv cell nv fv x:=Ma h 2
theorem RV(h:cell.length<256)(p:Nat):(BB cv cell nv fv av).set (1+cell.length) (.int .u8 (p:Int))=BB cv (cell++[p]) nv fv av:=by
 unfold BB;rw[YaO,show 1+cell.length=cell.length+1 by omega,YaW,YaC,YaS (h:=by simp)];have e:cell.length-(List.map (fun n:Nat=>Value.int .u8 (n:Int)) cell).length=0:=by simp
 rw[e,show 256-cell.length=(256-(cell.length+1))+1 by omega,Ybg];simp
end
def Fs(cols:List Nat)(row:List Int):List Int:=cols.map fun c=>row.getD c 0
theorem AaM(pb:Nat)(fv av:v_)(ca na:Option Addr)(cc nc:Nat)(cells:List (BitVec 256))(next:List (List Int))(fl:Nat)(S:Nat→Prop)(H:Aa)(hS:∀k,S k→k<H.size∧k≠pb)
  (hb:K_ H pb 112 (BB (.slice none 0 0) [] (.slice none 0 0) fv av)) (hc:S_ CP S H ca cc cells) (hn:S_ Lg S H na nc next) (hs:Bp cells next fl=true):
  Al prog 195 #[H_ pb,.slice ca cells.length cc,.slice na next.length nc] H fun v H'=>
   let d:=AN next cells (fun b=>AJ b b) 256
   A_ (fun k=>k<H.size∧k≠pb) H H'∧H.size≤H'.size∧∃ac N an c7,K_ H' pb 112 (BB (.slice ac d.sets.length N) d.cell (.slice an next.length c7) fv av)∧
    S_ CP (fun k=>H.size≤k∧k<H'.size) H' ac N d.sets∧S_ Lg (fun k=>H.size≤k∧k<H'.size) H' an c7 (next.map (Fs d.cols)):=by
 have lc:=hc.le;have ln:=hn.le;unfold maxLen at lc ln;have⟨n1,n2,n3,aq⟩:=E4 hs;refine Al.of_vc func195 rfl (call195 _) ?_;have fh:=hb.lt;generalize du:(fun b=>AJ b b)=sp;have au:∀b,b<256→AR cells b<cells.length:=fun b hb=>(Cg hs hb).1;refine D1 DS rfl (by omega) (by omega) (by omega) (by omega) ?_;intro nb H1 fj fk bx d4;refine fa ?_;refine st1 (hb.agr d4 (show pb<nb by omega)) (by rw[Ii (by simp)];omega) rfl ?_;intro H2 d5 d6 fm;rw[P_,OD (by simp)]at d5;replace bx:=bx.agr d6 (show nb≠pb by omega);rw[Yau]at bx;have dv:A_ (fun k=>k<H.size∧k≠pb) H H2:=(d4.mono fun k a=>by omega).trans (d6.mono fun k a=>a.2);(conv=>whnf);refine A8.mk [6,22] (fun x:Nat×v_=>[x.2,C_ x.1]) (fun x H3=>x.1≤256∧A_ (fun k=>k<H.size∧k≠pb) H H3∧H2.size≤H3.size∧
  M_ tI (fun _=>False) H3 (nb+1) 3 x.2 ((AN next cells sp x.1).cols.map AmA)∧K_ H3 nb 23 (AgJ next.length (.slice none 0 0))∧
  ∃cv,M_ CP (fun _=>False) H3 (nb+1) 227 cv (AN next cells sp x.1).sets∧(∀k,N_ x.2 k→¬N_ cv k)∧
   K_ H3 pb 112 (BB cv (AN next cells sp x.1).cell (.slice (b_ nb) next.length next.length) fv av)) (fun x _=>256-x.1) ?_ ?_
 ·(conv=>whnf);exact⟨(0,_),rfl,by omega,dv,J_ _,M_.nil,bx,_,M_.nil,(by rintro k ⟨o,n,c,h⟩;cases h),d5⟩
 ·rintro⟨b,v6⟩ H3 ev ⟨cm,bz,dw,g,ae,cv,C,ah,am⟩;dsimp only at cm g C ah am;obtain⟨ac,N,rfl,-,-⟩:=g.view (S':=fun k=>N_ v6 k) (fun k a=>a) (fun k a=>a.elim);refine Ag.m2 (fun h=>?_) (fun h=>?_)
  ·have w:=FE (next:=next) (sp:=sp) au b (by omega);generalize d7:AN next cells sp b=d at*
   have⟨d8,co⟩:=Cg hs (b:=b) (by omega);(conv=>whnf);refine A8.mk [8] (fun f:Nat=>[C_ f]) (fun f H4=>A_ (D_ H3) H3 H4∧f≤AR cells b) (fun f _=>cells.length-f) ?_ ?_
   ·(conv=>whnf);exact⟨0,rfl,A_.refl _ _,by omega⟩
   ·rintro f H4 cp ⟨X,hf⟩;have c2:A_ (fun k=>k<H.size∧k≠pb) H H4:=bz.trans (X.mono fun k a=>by unfold D_;omega);have⟨c,cq⟩:=Am (l:=cells) (k:=f) (by omega);refine u_ Dg (hc.frame (c2.mono fun k a=>hS k a)) cq rfl ?_;rintro b' o cs fo c3 rfl;refine lN (cs:=An c) c3 ?_;(conv=>whnf);rw[w8 (x:=(b:Int)) (by omega) (by omega)];refine Ak (Xn c b (by omega) H4) ?_;intro H5 ao;have ew:=Ap X;have Y:A_ (D_ H3) H3 H5:=X.trans (ao.mono fun k a=>by unfold D_ at*;omega);by_cases c8:f=AR cells b
    ·have aw:c.getLsbD b=true:=co c (c8 ▸ cq);rw[aw];(conv=>whnf);subst c8;generalize dx:AR cells b=fr at*;have F:=g.agr Y (fun k a=>(g.lt a).2) (fun k a=>a.elim);have ey:=Ap Y;refine Af.cut [9] (fun pl:Option Nat=>[C_ (match pl with | none=> -1 | some i=>(i:Int))]) (fun pl H6=>pl=JF next d.cols fr∧A_ (D_ H5) H5 H6) ?_ ?_
     ·have⟨fp,dy,he,a7,d9⟩:=F.view (S':=D_ H5) (fun k a=>(F.lt a).2) (fun k a=>a.elim);cases he;have da:∀row∈next,row.length=cells.length:=fun row hr=>(aq row hr).1
      (conv=>whnf);refine A8.mk [9,37] (fun k:Nat=>[C_ (-1),C_ k]) (fun k H6=>A_ (D_ H5) H5 H6∧k≤d.cols.length∧(d.cols.take k).findIdx? (fun c=>DU next c fr)=none) (fun k _=>d.cols.length-k) ?_ ?_
      ·(conv=>whnf);exact⟨0,rfl,A_.refl _ _,by omega,rfl⟩
      ·rintro k H6 ay ⟨D,a,R⟩;have dz:=w.le;(conv=>whnf);rw[Z_];refine Ag.m2 (fun h=>?_) (fun h=>?_)
       ·have⟨c0,I⟩:=Am (l:=d.cols) (k:=k) (by omega);have c9:=w.cols c0 (d_ I);refine F4 (x:=(c0:Int)) AO (a7.frame D) (by simp) (by simp[I]) rfl ?_;rintro b2 o2 e0 db J ⟨rfl,-⟩;refine lT J.one ?_;have e3:S_ Lg S H6 na nc next:=hn.frame ((bz.trans ((Y.trans (D.mono fun k a=>by unfold D_ at*;omega)).mono fun k a=>by unfold D_;omega)).mono fun k a=>hS k a)
        refine Ak (Zl na nc c0 fr cells.length next S H6 e3 da c9 d8 (by omega)) ?_;intro H7 Z;have ez:=Ap D;have cb:A_ (D_ H5) H5 H7:=D.trans (Z.mono fun k a=>by unfold D_ at*;omega);refine Ag.mk (fun h7=>?_) (fun h7=>?_)
        ·(conv=>whnf);refine⟨rfl,some k,rfl,?_,cb⟩;unfold JF;rw[←Ybb k d.cols,Ybd,R];have:d.cols.drop k=c0::d.cols.drop (k+1):=by
          rw[X_]at I;have⟨h1,h2⟩:=I;rw[List.drop_eq_getElem_cons h1,h2]
         rw[this,List.findIdx?_cons,h7];simp;omega
        ·(conv=>whnf);rw[R_ k (by omega)];refine⟨rfl,k+1,by simp,⟨cb,by omega,?_⟩,by omega⟩;rw[Ai I,Ybd,R];simp[h7]
       ·(conv=>whnf);refine⟨rfl,none,rfl,?_,D⟩;have:k=d.cols.length:=by omega
        subst this;rw[YaB]at R;exact R.symm
     ·rintro pl H6 ay ⟨dc,D⟩;have O:A_ (D_ H3) H3 H6:=Y.trans (D.mono fun k a=>by unfold D_ at*;omega);have f1:=Ap O;have G:=g.agr O (fun k a=>(g.lt a).2) (fun k a=>a.elim);have A:=C.agr O (fun k a=>(C.lt a).2) (fun k a=>a.elim);have az:=ae.agr O ae.lt;have b5:=am.agr O am.lt;have de:A_ (fun k=>k<H.size∧k≠pb) H H6:=bz.trans (O.mono fun k a=>by unfold D_;omega);have df:d.cell.length≤256:=by rw[w.cell];omega
      (conv=>whnf);refine Af.cut [6,9] (fun x:v_×Nat=>[x.1,C_ x.2]) (fun x H7=>A_ (fun k=>k<H.size∧k≠pb) H H7∧H2.size≤H7.size∧x.2=(FZ next d.cols d.sets fr).2.2∧
       M_ tI (fun _=>False) H7 (nb+1) 3 x.1 ((FZ next d.cols d.sets fr).1.map AmA)∧K_ H7 nb 23 (AgJ next.length (.slice none 0 0))∧
       ∃cv,M_ CP (fun _=>False) H7 (nb+1) 227 cv (FZ next d.cols d.sets fr).2.1∧(∀k,N_ x.1 k→¬N_ cv k)∧
        K_ H7 pb 112 (BB cv d.cell (.slice (b_ nb) next.length next.length) fv av)) ?_ ?_
      ·cases hf:JF next d.cols fr with
       | some i=>
         rw[dc,hf];have hm:FZ next d.cols d.sets fr=(d.cols,d.sets,i):=by unfold FZ;rw[hf]
         rw[hm];(conv=>whnf);exact⟨rfl,(_,i),rfl,de,by omega,rfl,G,az,cv,A,ah,b5⟩
       | none=>
         rw[dc,hf];have hm:FZ next d.cols d.sets fr=(d.cols++[fr],d.sets++[0#256],d.cols.length):=by unfold FZ;rw[hf]
         rw[hm];(conv=>whnf);rw[Z_];refine Az AO [C_ fr] rfl rfl (by decide) (by decide) ?_;intro q H7 hq dg c4 Z;have dz:=w.le;have m:=G.agr Z (fun k a=>by have:=(G.lt a).2;omega) (fun k a=>a.elim);refine BG (T:=tI) (S:=fun _=>False) (ys:=[(fr:Int)]) (ds:=[C_ fr]) (lo:=nb+1) (xs:=d.cols.map AmA) AO (by simpa using m) (by omega) (fun k a=>a.elim)
          (c4.cells (fun j v hv=>by simpa using hv)) (Ty.reps_one ⟨rfl,Co (by omega)⟩) rfl (by intro u hu;cases V_.1 hu;rfl) (by simp only[maxLen,Z_,k_];omega) (by simp only[Z_,k_];omega) ?_
         intro v8 H8 U M dh b6;have V:∀k,k<H6.size→¬N_ (.slice ac (d.cols.map (AmA:Nat→Int)).length N) k→H8[k]?=H6[k]? :=fun k h1 h2=>by
          rw[M k ⟨by omega,by simpa using h2⟩,Z k (by omega)]
         have ai:M_ CP (fun _=>False) H8 (nb+1) 227 cv d.sets:=A.agr (S':=fun k=>k<H6.size∧¬N_ (.slice ac (d.cols.map (AmA:Nat→Int)).length N) k) (fun k a=>V k a.1 a.2)
          (fun k a=>⟨(A.lt a).2,fun h=>ah k h a⟩) (fun k a=>a.elim)
         have b7:∀k,k≤nb→¬N_ (.slice ac (d.cols.map (AmA:Nat→Int)).length N) k:=fun k a h=>by have:=(G.lt h).1;omega
         have cd:=az.eq (V nb az.lt (b7 nb (by omega)));have K:=b5.eq (V pb b5.lt (b7 pb (by omega)));refine fa ?_;refine B_ (v:=cv) (by rw[K.cell];exact Lu) trivial ?_;refine EU BK (Bf 0) rfl (An 0) rfl (Az Dg (An 0) rfl rfl (by decide) (by decide) ?_);intro q2 H9 fq ft e4 W;have f2:=K.lt;have e5:=cd.lt;refine BG (T:=CP) (S:=fun _=>False) (ys:=[0#256]) (ds:=An 0) (lo:=nb+1) (xs:=d.sets) Dg (ai.agr W (fun k a=>by have:=(ai.lt a).2;omega) (fun k a=>a.elim)) (by omega) (fun k a=>a.elim)
          (e4.cells (fun j v hv=>by simpa using hv)) (Ty.reps_one rfl) rfl (by intro u hu;simp only[An,Ybe,List.not_mem_nil,or_false]at hu;rcases hu with rfl | rfl | rfl | rfl<;>rfl)
          (by have:=w.len;simp only[maxLen,k_];omega) (by have:=w.len;simp only[k_];omega) ?_
         intro v9 H10 L P f3 ap;have b8:∀k,k≤nb→¬N_ cv k:=fun k a h=>by have:=(A.lt h).1;omega
         have di:=(K.agr W (by omega)).agr P ⟨by omega,b8 pb (by omega)⟩;refine fa ?_;refine st1 di (by rw[Ii df];omega) L.one ?_;intro H11 a5 B dj;(conv=>whnf);have t:∀k,N_ v8 k→k<H8.size∧nb+1≤k:=fun k a=>⟨(U.lt a).2,(U.lt a).1⟩;have b9:∀k,N_ v8 k→¬N_ cv k:=fun k a hc=>by
          rcases b6 k a with h | h
          ·exact ah k (by simpa using h) hc
          ·have:=(A.lt hc).2;omega
         have bd:=(U.agr W (fun k a=>by have:=t k a;omega) (fun k a=>a.elim)).agr P (fun k a=>⟨by have:=t k a;omega,b9 k a⟩) (fun k a=>a.elim);have cr:=(cd.agr W (by omega)).agr P ⟨by omega,b8 nb (by omega)⟩;refine⟨rfl,(v8,d.cols.length),rfl,?_,by omega,rfl,?_,cr.agr B (by omega),v9,L.agr B (fun k a=>by have:=(L.lt a).1;omega) (fun k a=>a.elim),?_,?_⟩
         ·intro k a;rw[B k a.2,P k ⟨by omega,b8 k (by omega)⟩,W k (by omega),V k (by omega) (b7 k (by omega)),de k a]
         ·have:=bd.agr B (fun k a=>by have:=t k a;omega) (fun k a=>a.elim);simpa using this
         ·intro k a e6;rcases ap k e6 with h | h
          ·exact b9 k a h
          ·have:=t k a;omega
         ·rw[YbB,RW]at a5;exact a5
      ·rintro⟨v7,p⟩ H7 e7 ⟨e8,dg,hp,m,aj,fu,ak,a8,c4⟩;dsimp only at hp m a8;have ce:=Pi (next:=next) w.len w.le w.cols d8;have e9:AN next cells sp (b+1)=M8 next cells d b (sp b):=by rw[←d7];rfl
       generalize hr:FZ next d.cols d.sets fr=r at*
       have⟨ct,y,p'⟩:=r;dsimp only at hp m ak ce;subst hp;have⟨fw,fx,fy,fz,g3⟩:=ce;have be:AN next cells sp (b+1)=⟨ct,y.set p (y.getD p 0#256 ||| sp b),d.cell++[p]⟩:=by
        rw[e9];unfold M8;rw[dx,hr]
       obtain⟨bq,bf,lq,g4,rfl,f4,a9,cu,cw,dt,cx⟩:=ak.place (i:=p) (by omega);have f5:=c4.lt;refine fa ?_;refine ixa Ac2 (by omega) (by omega) ?_;rw[w8 (x:=(p:Int)) (by omega) (by omega)];refine st1 c4 (by rw[Ii df];omega) rfl ?_;intro H8 K M dh;rw[show 0+1+(b:Int).toNat*1=1+d.cell.length by rw[w.cell];omega,RV (by rw[w.cell];omega)]at K;(conv=>whnf);refine Au.held (D_ H8) 19 (sq [0,1,2,3,4,5,6,7,8,9,10,11,12,13,14,15] (.f 16 (.f 17 (sq [18] (.f 19 .e))))) rfl (by kernel_rfl) (fa ?_);refine B_ (v:=.slice (b_ bq) y.length bf) (by rw[K.cell];exact Lu) (show pb<H8.size by omega) ?_;refine fa ?_;refine B_ (v:=.slice (b_ bq) y.length bf) (by rw[K.cell];exact Lu) (show pb<H8.size by omega) ?_;refine ix Dg (by omega) (by omega) ?_;have⟨x0,bh⟩:=Am (l:=y) (k:=p) (by omega);obtain⟨c0,I,rfl⟩:=cw x0 bh;have bj:bq≠pb:=by omega
       refine L_ (cs:=An x0) (by rw[P_,Yau];exact I.eq (M bq bj)) (show bq<H8.size by have:=a9.lt;omega) ?_;(conv=>whnf);rw[w8 (x:=(b:Int)) (by omega) (by omega)];refine Ak (Jf b b (by omega) (by omega) H8) ?_;intro H9 W;refine⟨W,?_⟩;refine Ak (LI x0 (AJ b b) H9) ?_;intro H10 P;have f6:=Ap W;have z:A_ (D_ H8) H8 H10:=W.trans (P.mono fun k a=>by unfold D_ at*;omega);refine⟨z,?_⟩;refine ix Dg (by omega) (by omega) ?_;have ea:=Ap z;have c5:=(a9.agr M bj).agr z (show bq<H8.size by have:=a9.lt;omega);refine Zaa rfl c5 (by rw[P_,Yau];exact cu) rfl ?_;intro H11 a5 B dj;(conv=>whnf);rw[R_ b (by omega)];have cg:∀k,N_ v7 k→nb+1≤k∧k<H7.size:=fun k a=>m.lt a;have bn:=((m.agr M (fun k a=>by have:=cg k a;omega) (fun k a=>a.elim)).agr z (fun k a=>by have:=cg k a;unfold D_;omega) (fun k a=>a.elim)).agr B
        (fun k a eb=>by subst eb;exact a8 _ a ⟨0,_,_,rfl⟩) (fun k a=>a.elim)
       have cy:=(((aj.agr M (show nb≠pb by omega)).agr z (show nb<H8.size by have:=aj.lt;omega)).agr B (show nb≠bq by omega));have cz:=(K.agr z (show pb<H8.size by omega)).agr B (show pb≠bq from Ne.symm bj);refine⟨rfl,(b+1,v7),by simp,⟨by omega,?_,by omega,?_,cy,.slice (b_ bq) y.length bf,?_,a8,?_⟩,by omega⟩
       ·intro k a;rw[B k (by omega),z k (by unfold D_;omega),M k a.2,e8 k a]
       ·rw[be];exact bn
       ·rw[be];have hg:y.getD p 0#256=x0:=by rw[Ya5,bh];rfl
        rw[hg,←du];rw[P_,Yau]at a5;have:=cx H11 (An (x0 ||| AJ b b)) (x0 ||| AJ b b) a5 (fun k a=>a.elim) rfl;exact this
       ·rw[be];exact cz
    ·have aw:c.getLsbD b=false:=Nz (by omega) cq;rw[aw];(conv=>whnf);rw[R_ f (by omega)];exact⟨rfl,f+1,by simp,⟨Y,by omega⟩,by omega⟩
  ·have ec:b=256:=by omega
   subst ec;have w:=FE (next:=next) (sp:=sp) au 256 (by omega);generalize d7:AN next cells sp 256=d at*
   have f7:=w.le;have f8:=w.len;(conv=>whnf);refine A8.mk [95] (fun q:Nat=>[C_ q]) (fun q H4=>q≤next.length∧A_ (fun k=>k<H3.size∧k≠nb) H3 H4∧H3.size≤H4.size∧∃vs:List v_,vs.length=next.length∧K_ H4 nb 23 vs∧
    (∀i,q≤i→i<next.length→vs[i]?=some (.slice none 0 0))∧∀i v row,i<q→vs[i]?=some v→next[i]?=some row→M_ tI (fun _=>False) H4 H3.size 3 v (Fs d.cols row)) (fun q _=>next.length-q) ?_ ?_
   ·(conv=>whnf);refine⟨0,rfl,by omega,A_.refl _ _,J_ _,_,by simp,ae,fun i _ hi=>by simp[hi],fun i v row hi=>by omega⟩
   ·rintro q H4 cp ⟨hq,X,g5,vs,dk,ch,ci,bo⟩;have f9:=ae.lt;have cj:=am.lt;have c2:A_ (fun k=>k<H.size∧k≠pb) H H4:=bz.trans (X.mono fun k a=>by omega);refine Ag.m2 (fun h=>?_) (fun h=>?_)
    ·have⟨row,Q⟩:=Am (l:=next) (k:=q) (by omega);have⟨da,g6⟩:=aq row (d_ Q);have ed:=hn.frame (c2.mono fun k a=>hS k a);refine u_ DS ed Q rfl ?_;rintro b2 o2 e0 db J ⟨ra,rc,rfl,hr⟩;refine lT J.one ?_;(conv=>whnf);rw[Z_];refine A8.mk [102] (fun j:Nat=>[C_ j]) (fun j H5=>j≤d.cols.length∧A_ (fun k=>k<H4.size∧k≠nb) H4 H5∧H4.size≤H5.size∧∃a6,K_ H5 nb 23 (vs.set q a6)∧
      M_ tI (fun _=>False) H5 H4.size 3 a6 (Fs (d.cols.take j) row)) (fun j _=>d.cols.length-j) ?_ ?_
     ·(conv=>whnf);refine⟨0,rfl,by omega,A_.refl _ _,J_ _,.slice none 0 0,?_,M_.nil⟩;have:vs.set q (.slice none 0 0)=vs:=by
       have h1:=ci q (J_ _) (by omega);rw[X_]at h1;have⟨h2,h3⟩:=h1;rw[←h3];exact YaR h2
      rw[this];exact ch
     ·rintro j H5 ay ⟨hj,ao,g7,a6,bp,E⟩;have br:A_ (fun k=>k<H3.size∧k≠nb) H3 H5:=X.trans (ao.mono fun k a=>by omega);have ee:=am.agr br ⟨cj,by omega⟩;have F:=g.agr br (fun k a=>by have:=g.lt a;omega) (fun k a=>a.elim);have⟨g8,ef,eg,a7,d9⟩:=F.view (S':=fun k=>k<H3.size) (fun k a=>(g.lt a).2) (fun k a=>a.elim);cases eg;refine Ag.m2 (fun h=>?_) (fun h=>?_)
      ·have⟨c0,I⟩:=Am (l:=d.cols) (k:=j) (by omega);have c9:=w.cols c0 (d_ I);refine F4 (x:=(c0:Int)) AO a7 (by simp) (by simp[I]) rfl ?_;rintro b3 o3 g9 fd bu ⟨rfl,-⟩;refine lT bu.one ?_;obtain⟨eh,d0,rfl,-,-⟩:=E.view (S':=fun k=>N_ a6 k) (fun k a=>a) (fun k a=>a.elim);(conv=>whnf);refine Au.held (fun k=>k<H4.size) 19 (sq [0,1,2,3,4,5,6,7,8,9,10,11,12,13,14,15] (.f 16 (.f 17 (sq [18] (.f 19 .e))))) rfl (by kernel_rfl) ?_;have d1:cell H5 nb (0+(q:Int).toNat*1)=some (.slice eh (Fs (d.cols.take j) row).length d0):=by
        rw[bp.cell,show 0+(q:Int).toNat*1=q by omega,Ya3 (by omega)]
       have ei:=hr.frame (ao.mono fun k a=>by have:=hS k a;omega);have bv:cell H5 pb (0+257)=some (.slice (b_ nb) next.length next.length):=by
        rw[ee.cell,P_];exact EV (by rw[w.cell];omega)
       refine fa ?_;refine B_ bv (show pb<H4.size by omega) (fa ?_);refine B_ bv (show pb<H4.size by omega) (ix DS (by omega) (by omega) (B_ d1 (show nb<H4.size by omega) ?_));have⟨x0,bh⟩:=Am (l:=row) (k:=c0) (by omega);refine u_ AO ei bh rfl ?_;rintro b4 o4 ga dl bw ⟨rfl,dm⟩;refine B_ bw.one (show b4<H4.size by have:=hS b4 dl;omega) ?_;refine Az AO [C_ x0] rfl rfl (by decide) (by decide) ?_;intro q6 H6 gb gc b5 D;refine⟨D.mono fun k a=>by omega,?_⟩;have d2:=E.agr D (fun k a=>by have:=(E.lt a).2;omega) (fun k a=>a.elim);have fe:(Fs (d.cols.take j) row).length≤256:=by simp[Fs];omega
       refine BG (T:=tI) (S:=fun _=>False) (ys:=[x0]) (ds:=[C_ x0]) (lo:=H4.size) (xs:=Fs (d.cols.take j) row) AO d2 (by omega) (fun k a=>a.elim)
         (b5.cells (fun j v hv=>by simpa using hv)) (Ty.reps_one ⟨rfl,dm⟩) rfl (by intro u hu;cases V_.1 hu;rfl) (by simp only[maxLen,k_];omega) (by simp only[k_];omega) ?_
       intro v7 H7 ab Z dg dp;refine⟨fun k a=>?_,?_⟩
       ·rw[Z k ⟨by omega,fun h=>by have:=(E.lt h).1;omega⟩,D k (by omega)]
       have aj:=(bp.agr D (by omega)).agr Z ⟨by omega,fun h=>by have:=(E.lt h).1;omega⟩;refine ix DS (by omega) (by omega) ?_;refine st1 aj (by simp;omega) ab.one ?_;intro H8 K M dh;(conv=>whnf);rw[R_ j (by omega)];refine⟨rfl,j+1,by simp,⟨by omega,?_,by omega,v7,?_,?_⟩,by omega⟩
       ·intro k a;rw[M k a.2,Z k ⟨by omega,fun h=>by have:=(E.lt h).1;omega⟩,D k (by omega),ao k a]
       ·rw[show 0+(q:Int).toNat*1=q by omega,List.set_set]at K;exact K
       ·have:=ab.agr M (fun k a=>by have:=(ab.lt a).1;omega) (fun k a=>a.elim);have e1:Fs (d.cols.take (j+1)) row=Fs (d.cols.take j) row++[x0]:=by
         unfold Fs;rw[Ai I,Ybk];simp[bh]
        rw[e1];exact this
      ·have ej:j=d.cols.length:=by omega
       subst ej;rw[YaB]at E;(conv=>whnf);rw[R_ q (by omega)];refine⟨rfl,q+1,by simp,⟨by omega,br,by omega,vs.set q a6,by simp[dk],bp,?_,?_⟩,by omega⟩
       ·intro i h1 h2;rw[Ya4 (by omega)];exact ci i (by omega) h2
       ·intro i v dq hi hv ad;by_cases ek:i=q
        ·subst ek;rw[Ya3 (by omega)]at hv;rw[Q]at ad;cases hv;cases ad;exact E.lower (by omega)
        ·rw[Ya4 (by omega)]at hv;have hd:=bo i v dq (by omega) hv ad;exact hd.agr ao (fun k a=>by have:=hd.lt a;omega) (fun k a=>a.elim)
    ·have el:q=next.length:=by omega
     subst el;(conv=>whnf);have fg:H2.size≤H3.size:=dw;obtain⟨eo,d3,ep,c6,-⟩:=(C.agr X (fun k a=>by have:=C.lt a;omega) (fun k a=>a.elim)).view (S':=fun k=>H.size≤k∧k<H4.size)
      (fun k a=>by have:=C.lt a;omega) (fun k a=>a.elim)
     subst ep;refine⟨c2,by omega,eo,d3,some ⟨nb,0,none⟩,next.length,am.agr X ⟨cj,by omega⟩,c6,S_.intro (show H.size≤nb∧nb<H4.size by omega) (by simp) (by simp[maxLen];omega) (ch.cells (cs:=vs) (fun j v hv=>by simpa using hv)) ?_⟩;refine EQ (by simp[dk]) fun i v x hv hx=>?_;rw[t_]at hx;obtain⟨row,Q,rfl⟩:=Option.map_eq_some_iff.1 hx;have hd:=bo i v row (X_.1 Q).1 hv Q;obtain⟨a0,dr,rfl,eu,-⟩:=hd.view (S':=fun k=>H.size≤k∧k<H4.size) (fun k a=>by have:=hd.lt a;omega) (fun k a=>a.elim);exact⟨a0,dr,rfl,eu⟩
inductive KL(rows:List (List Int))(fin:List Bool):Nat→Prop
 | fin {q:Nat}:fin[q]?=some true→KL rows fin q
 | step {q t:Nat} {row:List Int}:rows[q]?=some row→(t:Int)∈row→KL rows fin t→KL rows fin q
def LS(rows:List (List Int))(q j t:Nat)(p:Int):Prop:=∃(q':Nat) (row:List Int),p=(q':Int)∧rows[q']?=some row∧(q'<q∧(t:Int)∈row∨q'=q∧(t:Int)∈row.take j)
def nF(al:List Bool):Nat:=al.count false
theorem SJ{al:List Bool}{p:Nat}(h:al[p]?=some false):nF (al.set p true)+1=nF al:=by
 unfold nF
 induction al generalizing p with
 | nil=>simp at h
 | cons a al b=>
   cases p with
   | zero=>simp at h;subst h;simp[Ybl]
   | succ p=>simp at h;simp only[YaW,Ybl];have:=b h;omega
structure WI(rows:List (List Int))(final:List Bool)(bk:List (List Int))(al:List Bool)(td:List Int)(ex:Option (Nat×Nat)):Prop where
 len:al.length=rows.length
 sound:∀q:Nat,al[q]?=some true→KL rows final q
 fin:∀q:Nat,final[q]?=some true→al[q]?=some true
 tdok:∀x∈td,∃q:Nat,x=(q:Int)∧al[q]?=some true
 cnt:td.length+nF al≤rows.length
 closed:∀(q:Nat) (x:List Int),al[q]?=some true→bk[q]?=some x→(q:Int)∈td∨(∀p∈x,al[p.toNat]?=some true)∨∃j,ex=some (q,j)∧∀p∈x.take j,al[p.toNat]?=some true
def Ad2(rows:List (List Int))(bk:List (List Int)):Prop:=bk.length=rows.length∧∀(t:Nat) (x:List Int),bk[t]?=some x→∀p,p∈x↔∃(q':Nat) (row:List Int),p=(q':Int)∧rows[q']?=some row∧(t:Int)∈row
section
variable{rows:List (List Int)}{final:List Bool}{bk:List (List Int)}{al:List Bool}{td:List Int}
theorem WI.pop{q:Nat}(h:WI rows final bk al (td++[(q:Int)]) none):WI rows final bk al td (some (q,0)):=by
 refine⟨h.len,h.sound,h.fin,fun x b=>h.tdok x (YaU _ b),by have:=h.cnt;simp at this;omega,fun d x c b=>?_⟩;rcases h.closed d x c b with a | a | ⟨j,a,_⟩
 ·rcases q_.1 a with a | a
  ·exact .inl a
  ·rw[V_]at a;have:d=q:=by omega
   subst this;exact .inr (.inr ⟨0,rfl,by simp⟩)
 ·exact .inr (.inl a)
 ·cases a
theorem WI.skip{q j e:Nat}{x:List Int}(h:WI rows final bk al td (some (q,j)))(f:bk[q]?=some x)(g:x[j]?=some (e:Int))(k:al[e]?=some true):WI rows final bk al td (some (q,j+1)):=by
 refine⟨h.len,h.sound,h.fin,h.tdok,h.cnt,fun l m d b=>?_⟩;rcases h.closed l m d b with c | c | ⟨r,c,n⟩
 ·exact .inl c
 ·exact .inr (.inl c)
 ·cases c;rw[f]at b;cases b;refine .inr (.inr ⟨j+1,rfl,fun p a=>?_⟩);rw[Ai g,q_,V_]at a;rcases a with a | rfl
  ·exact n p a
  ·simpa using k
theorem WI.mark{q j a:Nat}{x:List Int}(r:Ad2 rows bk)(h:WI rows final bk al td (some (q,j)))(A:al[q]?=some true)(u:bk[q]?=some x)(w:x[j]?=some (a:Int))(z:al[a]?=some false):
  WI rows final bk (al.set a true) (td++[(a:Int)]) (some (q,j+1)):=by
 have e:a<al.length:=(X_.1 z).1;have keep:∀i,al[i]?=some true→(al.set a true)[i]?=some true:=fun i g=>by
  by_cases c:a=i
  ·subst c;rw[Ya3 e]
  ·rw[Ya4 c];exact g
 have l:KL rows final a:=by
  have⟨n,row,c,d,t⟩:=(r.2 q x u (a:Int)).1 (d_ w);have:a=n:=by omega
  subst this;exact .step d t (h.sound q A)
 refine⟨by simp[h.len],fun i g=>?_,fun i g=>keep i (h.fin i g),fun y k=>?_,?_,fun n B m f=>?_⟩
 ·by_cases c:a=i
  ·subst c;exact l
  ·rw[Ya4 c]at g;exact h.sound i g
 ·rcases q_.1 k with k | k
  ·have⟨i,c,d⟩:=h.tdok y k;exact⟨i,c,keep i d⟩
  ·rw[V_]at k;exact⟨a,k,by rw[Ya3 e]⟩
 ·have c:=SJ z;have d:=h.cnt;simp only[Q_,k_];omega
 ·by_cases c:a=n
  ·subst c;exact .inl (Ybc _ (V_.2 rfl))
  ·rw[Ya4 c]at m;rcases h.closed n B m f with d | d | ⟨C,d,t⟩
   ·exact .inl (YaU _ d)
   ·exact .inr (.inl fun p b=>keep _ (d p b))
   ·cases d;rw[u]at f;cases f;refine .inr (.inr ⟨j+1,rfl,fun p b=>?_⟩);rw[Ai w,q_,V_]at b;rcases b with b | rfl
    ·exact keep _ (t p b)
    ·rw[Yau,Ya3 e]
theorem WI.done{q:Nat}{x:List Int}(h:WI rows final bk al td (some (q,x.length)))(e:bk[q]?=some x):WI rows final bk al td none:=by
 refine⟨h.len,h.sound,h.fin,h.tdok,h.cnt,fun f g c a=>?_⟩;rcases h.closed f g c a with b | b | ⟨j,b,d⟩
 ·exact .inl b
 ·exact .inr (.inl b)
 ·cases b;rw[e]at a;cases a;rw[YaB]at d;exact .inr (.inl d)
theorem WI.finish(a:Ad2 rows bk)(d:∀row∈rows,∀t∈row,0≤t∧t<(rows.length:Int))(h:WI rows final bk al [] none)(q:Nat):al[q]?=some true↔KL rows final q:=by
 refine⟨h.sound q,fun e=>?_⟩
 induction e with
 | fin f=>exact h.fin _ f
 | @step q t row h1 h2 _ ih=>
   have j:=d row (d_ h1) _ h2;have⟨x,c⟩:=Am (l:=bk) (k:=t) (by rw[a.1];omega);have g:(q:Int)∈x:=(a.2 t x c (q:Int)).2 ⟨q,row,rfl,h1,h2⟩;rcases h.closed t x ih c with b | b | ⟨_,b,_⟩
   ·cases b
   ·simpa using b _ g
   ·cases b
end
theorem Ag0(pb:Nat)(cv av:v_)(cell:List Nat)(an af:Option Addr)(K L:Nat)(rows:List (List Int))(final:List Bool)(S:Nat→Prop)(H:Aa)(hS:∀k,S k→k<H.size∧k≠pb)
  (n:K_ H pb 112 (BB cv cell (.slice an rows.length K) (.slice af final.length L) av)) (O:cell.length≤256) (hn:S_ Lg S H an K rows) (hf:S_ Bd S H af L final)
  (e8:rows.length≤65536) (d4:final.length=rows.length) (ai:∀row∈rows,row.length≤256∧∀t∈row,0≤t∧t<(rows.length:Int)):
  Al prog 196 #[H_ pb] H fun v H'=>A_ (fun k=>k<H.size∧k≠pb) H H'∧H.size≤H'.size∧
   ∃(al:List Bool) (aa:Option Addr) (br:Nat),al.length=rows.length∧(∀q,q<rows.length→(al[q]?=some true↔KL rows final q))∧
    K_ H' pb 112 (BB cv cell (.slice an rows.length K) (.slice af final.length L) (.slice aa al.length br))∧S_ Bd (fun k=>H.size≤k∧k<H'.size) H' aa br al:=by
 have e9:=n.lt;refine Al.of_vc func196 rfl (call196 _) (fa ?_);refine B_ (by rw[n.cell,P_];exact EV O) trivial ?_;refine D1 DS rfl (by omega) (by omega) (by omega) (by omega) ?_;intro nb H1 ea eb bu cj;rw[Yau]at bu;have cm:=n.agr cj (show pb<nb by omega);refine fa ?_;refine B_ (by rw[cm.cell,P_];exact EV O) trivial ?_;(conv=>whnf);refine A8.mk [24] (fun q:Nat=>[C_ q]) (fun q H2=>q≤rows.length∧A_ (fun k=>k<H1.size∧k≠nb) H1 H2∧H1.size≤H2.size∧∃vs bk,Tab tI (fun _=>False) H2 (nb+1) 3 nb 23 vs bk∧bk.length=rows.length∧
  (∀(t:Nat) (x:List Int),bk[t]?=some x→x.length≤q*256∧∀p,p∈x↔LS rows q 0 t p)) (fun q _=>rows.length-q) ?_ ?_
 ·(conv=>whnf);refine⟨0,rfl,by omega,A_.refl _ _,J_ _,_,_,Tab.new bu (by omega),by simp,fun t x P=>?_⟩;rw[Ya9]at P;split at P
  ·cases P;refine⟨by simp,fun p=>⟨(fun h=>by cases h),?_⟩⟩;rintro⟨X,row,_,_,⟨h,_⟩ | ⟨_,h⟩⟩
   ·omega
   ·simp at h
  ·cases P
 ·rintro q H2 dr ⟨hq,c2,d5,vs,bk,m,C,Q⟩;have c3:A_ (fun k=>k<H.size∧k≠pb) H H2:=(cj.mono fun k a=>by omega).trans (c2.mono fun k a=>by omega);have co:=cm.agr c2 ⟨by omega,by omega⟩;refine Ag.m2 (fun h=>?_) (fun h=>?_)
  ·have⟨row,e⟩:=Am (l:=rows) (k:=q) (by omega);have⟨ec,d6⟩:=ai row (d_ e);refine u_ DS (hn.frame (c3.mono fun k a=>hS k a)) e rfl ?_;rintro b2 o2 ed dt aj ⟨ra,rc,rfl,hr⟩;refine lT aj.one ?_;(conv=>whnf);refine A8.mk [31] (fun j:Nat=>[C_ j]) (fun j H3=>j≤row.length∧A_ (fun k=>k<H1.size∧k≠nb) H2 H3∧H1.size≤H3.size∧∃vs bk,Tab tI (fun _=>False) H3 (nb+1) 3 nb 23 vs bk∧bk.length=rows.length∧
    (∀(t:Nat) (x:List Int),bk[t]?=some x→x.length≤q*256+j∧∀p,p∈x↔LS rows q j t p)) (fun j _=>row.length-j) ?_ ?_
   ·(conv=>whnf);exact⟨0,rfl,by omega,A_.refl _ _,d5,vs,bk,m,C,Q⟩
   ·clear m C Q vs bk;rintro j H3 c4 ⟨hj,ad,d7,vs,bk,m,C,Q⟩;have d8:=hr.frame (ad.mono fun k a=>by have:=hS k a;omega);refine Ag.m2 (fun h=>?_) (fun h=>?_)
    ·have⟨ti,ak⟩:=Am (l:=row) (k:=j) (by omega);have⟨d9,ee⟩:=d6 ti (d_ ak);obtain⟨t,rfl⟩:=Yav d9;refine u_ AO d8 ak rfl ?_;rintro b3 o3 cp bv g ⟨rfl,ef⟩;refine lT g.one ?_;have⟨v,x,R,P,da⟩:=m.get (i:=t) (by omega);have⟨eg,db⟩:=Q t x P;obtain⟨eh,dc,rfl,-,-⟩:=da.view (S':=fun k=>N_ v k) (fun k a=>a) (fun k a=>a.elim);have du:t<vs.length:=(X_.1 R).1;refine ix DS (by omega) (by omega) ?_;refine B_ (by rw[m.blk.cell,show 0+(t:Int).toNat*1=t by omega];exact R) trivial ?_;refine Az AO [C_ q] rfl rfl (by decide) (by decide) ?_;intro q4 H4 ei de am ao;have dv:=m.blk.lt;have D:=m.agr ao (by omega) (fun b _ n=>by omega) (fun k a=>a.elim);refine BG (T:=tI) (S:=fun _=>False) (ys:=[(q:Int)]) (ds:=[C_ q]) (lo:=nb+1) (xs:=x) AO (D.own t _ x R P) (by omega) (fun k a=>a.elim)
      (am.cells (fun j v R=>by simpa using R)) (Ty.reps_one ⟨rfl,Co (by omega)⟩) rfl (by intro u hu;cases V_.1 hu;rfl) (by simp only[maxLen,k_];omega) (by simp only[k_];omega) ?_
     intro v5 H5 ap c5 cq aq;have cr:=D.blk.agr c5 ⟨by omega,fun a=>by have:=((D.own t _ x R P).lt a).1;omega⟩;refine ix DS (by omega) (by omega) (st1 cr (by omega) ap.one ?_);intro H6 Y ae ct;rw[show 0+(t:Int).toNat*1=t by omega]at Y;(conv=>whnf);rw[R_ j (by omega)];refine⟨rfl,j+1,by simp,⟨by omega,?_,by omega,_,_,D.push R ap c5 aq Y ae (fun k a=>a.elim),by simp[C],?_⟩,by omega⟩
     ·intro k a;rw[ae k a.2,c5 k ⟨by omega,fun n=>by have:=((D.own t _ x R P).lt n).1;omega⟩,ao k (by omega),ad k a]
     ·intro t' x' bd;have bw:∀p,LS rows q (j+1) t' p↔LS rows q j t' p∨(t'=t∧p=(q:Int)):=by
       intro p;unfold LS;constructor
       ·rintro⟨X,r,B,d,⟨W,w⟩ | ⟨W,w⟩⟩
        ·exact .inl ⟨X,r,B,d,.inl ⟨W,w⟩⟩
        ·subst W;rw[e]at d;cases d;rw[Ai ak,q_,V_]at w;rcases w with w | w
         ·exact .inl ⟨_,_,B,e,.inr ⟨rfl,w⟩⟩
         ·exact .inr ⟨by omega,B⟩
       ·rintro(⟨X,r,B,d,⟨W,w⟩ | ⟨W,w⟩⟩ | ⟨rfl,rfl⟩)
        ·exact⟨X,r,B,d,.inl ⟨W,w⟩⟩
        ·subst W;rw[e]at d;cases d;exact⟨_,_,B,e,.inr ⟨rfl,by rw[Ai ak,q_];exact .inl w⟩⟩
        ·exact⟨q,row,rfl,e,.inr ⟨rfl,by rw[Ai ak,q_];exact .inr (V_.2 rfl)⟩⟩
      by_cases c6:t'=t
      ·subst c6;rw[Ya3 (by omega)]at bd;cases bd;refine⟨by simp only[Q_,k_];omega,fun p=>?_⟩;rw[bw p,q_,db p,V_];simp
      ·rw[Ya4 (Ne.symm c6)]at bd;have⟨B,d⟩:=Q t' x' bd;refine⟨by omega,fun p=>?_⟩;rw[bw p,d p];simp[c6]
    ·have c7:j=row.length:=by omega
     subst c7;(conv=>whnf);rw[R_ q (by omega)];refine⟨rfl,q+1,by simp,⟨by omega,c2.trans ad,by omega,vs,bk,m,C,fun t x P=>?_⟩,by omega⟩;have⟨g1,g2⟩:=Q t x P;refine⟨by rw[Yby];omega,fun p=>?_⟩;rw[g2 p];unfold LS;constructor
     ·rintro⟨X,r,B,d,⟨W,w⟩ | ⟨W,w⟩⟩
      ·exact⟨X,r,B,d,.inl ⟨by omega,w⟩⟩
      ·exact⟨X,r,B,d,.inl ⟨by omega,List.mem_of_mem_take w⟩⟩
     ·rintro⟨X,r,B,d,⟨W,w⟩ | ⟨W,w⟩⟩
      ·by_cases c8:X=q
       ·rw[c8,e]at d;cases d;exact⟨X,_,B,by rw[c8];exact e,.inr ⟨c8,by rw[YaB];exact w⟩⟩
       ·exact⟨X,r,B,d,.inl ⟨by omega,w⟩⟩
      ·simp at w
  ·have df:q=rows.length:=by omega
   subst df;have au:Ad2 rows bk:=⟨C,fun t x P p=>by
    rw[(Q t x P).2 p];unfold LS;constructor
    ·rintro⟨X,row,B,d,⟨W,w⟩ | ⟨_,w⟩⟩
     ·exact⟨X,row,B,d,w⟩
     ·simp at w
    ·rintro⟨X,row,B,d,w⟩;exact⟨X,row,B,d,.inl ⟨(X_.1 d).1,w⟩⟩⟩
   have dw:=m.blk.lt;have c9:=m.view (S':=fun k=>nb≤k∧k<H2.size) C.symm (by simp[maxLen];omega) (fun k B d=>⟨B,d⟩) (fun k a=>a.elim);clear Q;refine fa ?_;refine B_ (by rw[co.cell,P_];exact EV O) trivial ?_;refine D1 Fv rfl (by omega) (by omega) (by omega) (by omega) ?_;intro F H3 ej d7 a5 ad;rw[Yau]at a5;have dg:=co.agr ad (show pb<F by omega);refine fa ?_;refine st1 dg (by rw[Ii O];omega) rfl ?_;intro H4 am ao de;rw[P_,OE O]at am;replace a5:=a5.agr ao (show F≠pb by omega);have cu:A_ (fun k=>k<H2.size∧k≠pb) H2 H4:=(ad.mono fun k a=>by omega).trans (ao.mono fun k a=>a.2);refine fa ?_;refine B_ (by rw[am.cell,P_];exact Ke O) trivial ?_;(conv=>whnf);refine A8.mk [7,61] (fun x:Nat×v_=>[x.2,C_ x.1]) (fun x H5=>x.1≤rows.length∧A_ (fun k=>k<H2.size∧k≠pb) H2 H5∧H4.size≤H5.size∧
    K_ H5 pb 112 (BB cv cell (.slice an rows.length K) (.slice af final.length L) (.slice (b_ F) (rows.length:Int).toNat (rows.length:Int).toNat))∧
    ∃al td,al.length=rows.length∧K_ H5 F 4 (al.map .bool)∧M_ tI (fun _=>False) H5 (F+1) 3 x.2 td∧
     (∀q,al[q]?=some true↔q<x.1∧final[q]?=some true)∧(∀q:Nat,al[q]?=some true→(q:Int)∈td)∧(∀y∈td,∃q:Nat,y=(q:Int)∧al[q]?=some true)∧td.length+nF al=rows.length) (fun x _=>rows.length-x.1) ?_ ?_
   ·(conv=>whnf);refine⟨(0,_),rfl,by omega,cu,J_ _,am,AgJ rows.length false,[],by simp,by simpa using a5,M_.nil,fun q=>⟨fun h=>?_,fun h=>by omega⟩,fun q h=>?_,(fun y hy=>by cases hy),by simp[nF,List.count_replicate]⟩
    ·rw[Ya9]at h;split at h<;>simp at h
    ·rw[Ya9]at h;split at h<;>simp at h
   ·rintro⟨i,v7⟩ H5 c4 ⟨hi,aw,cq,ah,al,td,z,U,c,E,a6,a7,bx⟩;dsimp only at hi c E;refine Ag.m2 (fun h=>?_) (fun h=>?_)
    ·have cw:=c3.trans (aw.mono fun k a=>by omega);have⟨f,cb⟩:=Am (l:=final) (k:=i) (by omega);refine Af.run (u_ Fv (hf.frame (cw.mono fun k a=>hS k a)) cb rfl ?_);rintro b3 o3 cp bv g rfl;refine B_ g.one trivial (Ag.mk (fun d=>?_) (fun d=>?_))
     ·subst d;have cx:al[i]?=some false:=by
       cases P:al[i]? with
       | none=>rw[List.getElem?_eq_none_iff]at P;omega
       | some b=>
         cases b with
         | false=>rfl
         | true=>have:=((E i).1 P).1;omega
      refine fa ?_;refine B_ (by rw[ah.cell,P_];exact Kf O) trivial ?_;refine ix Fv (by omega) (by omega) ?_;refine st1 U (by simp;omega) rfl ?_;intro H6 A ae ct;rw[show 0+(i:Int).toNat*1=i by omega]at A;refine Az AO [C_ i] rfl rfl (by decide) (by decide) ?_;intro q7 H7 ek cy V be;have el:=ah.lt;have dx:=U.lt;have cz:M_ tI (fun _=>False) H7 (F+1) 3 v7 td:=(c.agr ae (fun b n=>by have:=c.lt n;omega) (fun k a=>a.elim)).agr be (fun b n=>by have:=c.lt n;omega) (fun k a=>a.elim);have dh:=SJ cx;refine BG (T:=tI) (S:=fun _=>False) (ys:=[(i:Int)]) (ds:=[C_ i]) (lo:=F+1) (xs:=td) AO cz (by omega) (fun k a=>a.elim)
       (V.cells (fun j v R=>by simpa using R)) (Ty.reps_one ⟨rfl,Co (by omega)⟩) rfl (by intro u hu;cases V_.1 hu;rfl) (by simp only[maxLen,k_];omega) (by simp only[k_];omega) ?_
      intro v8 H8 cd Z di d0;(conv=>whnf);rw[R_ i (by omega)];have a0:∀k,N_ v7 k→F+1≤k:=fun k a=>(c.lt a).1;refine⟨rfl,(i+1,v8),rfl,⟨by dsimp only;omega,?_,by omega,?_,al.set i true,td++[(i:Int)],by simp[z],?_,cd,fun q=>?_,fun q hq=>?_,fun y hy=>?_,?_⟩,by dsimp only;omega⟩
      ·intro k a;rw[Z k ⟨by omega,fun n=>by have:=a0 k n;omega⟩,be k (by omega),ae k (by omega),aw k a]
      ·exact((ah.agr ae (by omega)).agr be (by omega)).agr Z ⟨by omega,fun n=>by have:=a0 _ n;omega⟩
      ·rw[List.map_set];exact(A.agr be (by omega)).agr Z ⟨by omega,fun n=>by have:=a0 _ n;omega⟩
      ·dsimp only;by_cases G:i=q
       ·subst G;rw[Ya3 (by omega)];exact⟨fun _=>⟨by omega,cb⟩,fun _=>rfl⟩
       ·rw[Ya4 G,E q];constructor
        ·rintro⟨B,d⟩;exact⟨by omega,d⟩
        ·rintro⟨B,d⟩;exact⟨by omega,d⟩
      ·by_cases G:i=q
       ·subst G;exact Ybc _ (V_.2 rfl)
       ·rw[Ya4 G]at hq;exact YaU _ (a6 q hq)
      ·rcases q_.1 hy with hy | hy
       ·have⟨q,B,d⟩:=a7 y hy;refine⟨q,B,?_⟩;by_cases G:i=q
        ·subst G;rw[Ya3 (by omega)]
        ·rw[Ya4 G];exact d
       ·rw[V_]at hy;exact⟨i,hy,by rw[Ya3 (by omega)]⟩
      ·simp only[Q_,k_];omega
     ·subst d;(conv=>whnf);rw[R_ i (by omega)];refine⟨rfl,(i+1,v7),rfl,⟨by dsimp only;omega,aw,cq,ah,al,td,z,U,c,fun q=>?_,a6,a7,bx⟩,by dsimp only;omega⟩;rw[E q];dsimp only;constructor
      ·rintro⟨B,d⟩;exact⟨by omega,d⟩
      ·rintro⟨B,d⟩;refine⟨?_,d⟩;by_cases G:q=i
       ·subst G;rw[cb]at d;cases d
       ·omega
    ·have dj:i=rows.length:=by omega
     subst dj;have I:WI rows final bk al td none:=by
      refine⟨z,fun q hq=>.fin ((E q).1 hq).2,fun q hq=>(E q).2 ⟨?_,hq⟩,a7,by omega,fun q x hq P=>.inl (a6 q hq)⟩;rw[←d4];exact(X_.1 hq).1
     clear E a6 a7 bx;(conv=>whnf);refine A8.mk [7] (fun x:v_×List Bool×List Int=>[x.1]) (fun x H6=>A_ (fun k=>k<H2.size∧k≠pb) H2 H6∧H5.size≤H6.size∧
      K_ H6 pb 112 (BB cv cell (.slice an rows.length K) (.slice af final.length L) (.slice (b_ F) (rows.length:Int).toNat (rows.length:Int).toNat))∧
      K_ H6 F 4 (x.2.1.map .bool)∧M_ tI (fun _=>False) H6 (F+1) 3 x.1 x.2.2∧WI rows final bk x.2.1 x.2.2 none) (fun x _=>2*nF x.2.1+x.2.2.length) ?_ ?_
     ·(conv=>whnf);exact⟨(v7,al,td),rfl,aw,J_ _,ah,U,c,I⟩
     ·clear c I U ah aw z;rintro⟨v7,al,td⟩ H6 dk ⟨ce,ct,Y,A,c,I⟩;dsimp only at c A I;obtain⟨eo,dy,rfl,cg,dz⟩:=c.view (S':=fun k=>F+1≤k∧k<H6.size) (fun k a=>c.lt a) (fun k a=>a.elim);refine Ag.m2 (fun h=>?_) (fun h=>?_)
      ·obtain⟨J,y,rfl⟩:∃J y,td=J++[y]:=⟨td.dropLast,td.getLast (by intro d;subst d;simp at h),(List.dropLast_concat_getLast _).symm⟩;obtain⟨q,rfl,d1⟩:=I.tdok y (by simp);have ep:q<rows.length:=by have:=(X_.1 d1).1;have:=I.len;omega
       have eu:(J++[(q:Int)]).length=J.length+1:=by simp
       have e0:=I.cnt;refine u_ (i:=J.length) (x:=(q:Int)) AO cg (by simp) (by rw[w64 (by omega) (by omega)];omega) ?_;rintro b3 o3 cp bv g ⟨rfl,-⟩;refine lT g.one ?_;(conv=>whnf);rw[w64 (x:=((J++[(q:Int)]).length:Int)-1) (by omega) (by omega)];refine YR AO (by omega) (by have:=cg.le;omega) ?_;rw[show(((J++[(q:Int)]).length:Int)-1).toNat=J.length by omega];have a8:=c.pop;clear c cg;have⟨xb,ay⟩:=Am (l:=bk) (k:=q) (by omega);have bf:=c9.frame (ce.mono fun k a=>by omega);refine F4 DS bf (by omega) ay rfl ?_;rintro b4 o4 ev e1 az ⟨xa,xc,rfl,b6⟩;refine lT az.one ?_;(conv=>whnf);refine A8.mk [7,97] (fun x:Nat×v_×List Bool×List Int=>[x.2.1,C_ x.1]) (fun x H7=>x.1≤xb.length∧A_ (fun k=>k<H2.size∧k≠pb) H6 H7∧H6.size≤H7.size∧
        K_ H7 pb 112 (BB cv cell (.slice an rows.length K) (.slice af final.length L) (.slice (b_ F) (rows.length:Int).toNat (rows.length:Int).toNat))∧
        K_ H7 F 4 (x.2.2.1.map .bool)∧M_ tI (fun _=>False) H7 (F+1) 3 x.2.1 x.2.2.2∧WI rows final bk x.2.2.1 x.2.2.2 (some (q,x.1))∧x.2.2.1[q]?=some true∧2*nF x.2.2.1+x.2.2.2.length≤2*nF al+J.length)
        (fun x _=>xb.length-x.1) ?_ ?_
       ·(conv=>whnf);exact⟨(0,_,al,J),rfl,by dsimp only;omega,A_.refl _ _,J_ _,Y,A,a8,I.pop,d1,J_ _⟩
       ·clear Y A a8;rintro⟨j,v7,bh,td⟩ H7 dl ⟨hj,bj,cy,V,M,c,N,a9,b7⟩;dsimp only at hj c M N a9 b7;refine Ag.m2 (fun d=>?_) (fun d=>?_)
        ·have⟨p,bn⟩:=Am (l:=xb) (k:=j) (by omega);obtain⟨pn,e3,rfl,ch,-⟩:=(au.2 q xb ay p).1 (d_ bn);have ew:pn<rows.length:=(X_.1 ch).1;have z:=N.len;have dm:=N.cnt;have⟨f,bo⟩:=Am (l:=bh) (k:=pn) (by omega);have ey:=V.lt;have e4:=M.lt;refine Af.run (u_ AO (b6.frame (bj.mono fun k a=>by omega)) bn rfl ?_);rintro b5 o5 ez e5 b8 ⟨rfl,-⟩;refine B_ b8.one trivial (fa ?_);refine B_ (by rw[V.cell,P_];exact Kf O) trivial ?_;refine ix Fv (by omega) (by omega) ?_;refine B_ (v:=.bool f) (by rw[M.cell,show 0+(pn:Int).toNat*1=pn by omega,t_,bo];rfl) trivial ?_;refine Ag.mk (fun W=>?_) (fun W=>?_)
         ·obtain rfl:f=false:=by simpa using W
          have dh:=SJ bo;refine fa ?_;refine B_ (by rw[V.cell,P_];exact Kf O) trivial ?_;refine ix Fv (by omega) (by omega) ?_;refine st1 M (by simp;omega) rfl ?_;intro H8 bz Z di;rw[show 0+(pn:Int).toNat*1=pn by omega]at bz;refine Az AO [C_ pn] rfl rfl (by decide) (by decide) ?_;intro q9 H9 f1 f2 dp bp;have d2:M_ tI (fun _=>False) H9 (F+1) 3 v7 td:=(c.agr Z (fun b n=>by have:=c.lt n;omega) (fun k a=>a.elim)).agr bp (fun b n=>by have:=c.lt n;omega) (fun k a=>a.elim);refine BG (T:=tI) (S:=fun _=>False) (ys:=[(pn:Int)]) (ds:=[C_ pn]) (lo:=F+1) (xs:=td) AO d2 (by omega) (fun k a=>a.elim)
           (dp.cells (fun j v R=>by simpa using R)) (Ty.reps_one ⟨rfl,Co (by omega)⟩) rfl (by intro u hu;cases V_.1 hu;rfl) (by simp only[maxLen,k_];omega) (by simp only[k_];omega) ?_
          intro dq H10 bq b9 e6 ci;(conv=>whnf);rw[w64 (x:=(j:Int)+1) (by have:=b6.le;simp only[maxLen]at this;omega) (by have:=b6.le;simp only[maxLen]at this;omega)];have a0:∀k,N_ v7 k→F+1≤k:=fun k a=>(c.lt a).1;refine⟨rfl,(j+1,dq,bh.set pn true,td++[(pn:Int)]),rfl,⟨by dsimp only;omega,?_,by omega,?_,?_,bq,N.mark au a9 ay bn bo,?_,?_⟩,by dsimp only;omega⟩
          ·intro k a;rw[b9 k ⟨by omega,fun n=>by have:=a0 k n;omega⟩,bp k (by omega),Z k (by omega),bj k a]
          ·exact((V.agr Z (by omega)).agr bp (by omega)).agr b9 ⟨by omega,fun n=>by have:=a0 _ n;omega⟩
          ·dsimp only;rw[List.map_set];exact(bz.agr bp (by omega)).agr b9 ⟨by omega,fun n=>by have:=a0 _ n;omega⟩
          ·dsimp only;by_cases d3:pn=q
           ·subst d3;rw[Ya3 (by omega)]
           ·rw[Ya4 d3];exact a9
          ·simp only[Q_,k_];omega
         ·obtain rfl:f=true:=by simpa using W
          (conv=>whnf);rw[w64 (x:=(j:Int)+1) (by have:=b6.le;simp only[maxLen]at this;omega) (by have:=b6.le;simp only[maxLen]at this;omega)];exact⟨rfl,(j+1,v7,bh,td),rfl,⟨by dsimp only;omega,bj,cy,V,M,c,N.skip ay bn bo,a9,b7⟩,by dsimp only;omega⟩
        ·have c7:j=xb.length:=by omega
         subst c7;(conv=>whnf);exact⟨rfl,(v7,bh,td),rfl,⟨ce.trans bj,by omega,V,M,c,N.done ay⟩,by dsimp only;omega⟩
      ·have a8:td=[]:=YaA (by omega);subst a8;(conv=>whnf);have z:=I.len;have f3:=Y.lt;refine⟨c3.trans (ce.mono fun k a=>by omega),by omega,al,some ⟨F,0,none⟩,rows.length,z,fun q _=>I.finish au (fun row e=>(ai row e).2) q,?_,?_⟩
       ·rw[z];exact Y
       ·have e7:=A.lt;refine S_.intro (show H.size≤F∧F<H6.size by omega) (by omega) (by simp only[maxLen];omega) (A.cells (cs:=al.map .bool) (fun j v R=>by rw[P_];exact R)) (EQ (by simp) fun i v x R P=>?_);rw[t_,P]at R;cases R;rfl
section
attribute [local irreducible] AN
structure AM where
 sets:List (BitVec 256)
 cell:List Nat
 next:List (List Int)
 final:List Bool
def BO(cells:List (BitVec 256))(next:List (List Int))(final:List Bool):AM:=
 ⟨(AN next cells (fun b=>AJ b b) 256).sets,(AN next cells (fun b=>AJ b b) 256).cell,next.map (Fs (AN next cells (fun b=>AJ b b) 256).cols),final⟩
structure AM.Ok(A:AM):Prop where
 n1:1≤A.next.length
 n2:A.next.length≤65536
 fl:A.final.length=A.next.length
 cell:A.cell.length=256
 places:∀p∈A.cell,p<A.sets.length
 sl:A.sets.length≤256
 rows:∀row∈A.next,row.length=A.sets.length∧∀t∈row,0≤t∧t<(A.next.length:Int)
structure LM(S:Nat→Prop)(H:Aa)(pb:Nat)(A:AM):Prop where
 own:S pb
 ok:A.Ok
 rep:∃ac cc an cn af cf aa ca al,K_ H pb 112 (BB (.slice ac A.sets.length cc) A.cell (.slice an A.next.length cn) (.slice af A.final.length cf) (.slice aa al.length ca))∧
  S_ CP S H ac cc A.sets∧S_ Lg S H an cn A.next∧S_ Bd S H af cf A.final∧S_ Bd S H aa ca al∧al.length=A.next.length∧∀q:Nat,q<A.next.length→(al[q]?=some true↔KL A.next A.final q)
theorem LM.frame{S:Nat→Prop}{H H':Aa}{pb:Nat}{A:AM}(h:LM S H pb A)(k:A_ S H H'):LM S H' pb A:=by
 have⟨a,b,c,d,e,f,g,j,l,m,al,n,p,q,r,t,u⟩:=h;exact⟨a,b,c,d,e,f,g,j,l,m,al,n.agr k a,p.frame k,q.frame k,r.frame k,t.frame k,u⟩
theorem LM.mono{S S':Nat→Prop}{H:Aa}{pb:Nat}{A:AM}(h:LM S H pb A)(k:∀b,S b→S' b):LM S' H pb A:=by
 have⟨a,c,d,e,f,g,j,l,m,n,al,p,q,r,t,u,w⟩:=h;exact⟨k _ a,c,d,e,f,g,j,l,m,n,al,p,q.mono k,r.mono k,t.mono k,u.mono k,w⟩
def Bc(S:Nat→Prop)(H:Aa)(v:v_):Option AM→Prop
 | none=>v= .pointer none
 | some A=>∃pb,v= H_ pb∧LM S H pb A
theorem Bc.frame{S:Nat→Prop}{H H':Aa}{v:v_}{o:Option AM}(h:Bc S H v o)(k:A_ S H H'):Bc S H' v o:=by
 cases o with
 | none=>exact h
 | some A=>have⟨pb,a,b⟩:=h;exact⟨pb,a,b.frame k⟩
theorem Bc.mono{S S':Nat→Prop}{H:Aa}{v:v_}{o:Option AM}(h:Bc S H v o)(k:∀b,S b→S' b):Bc S' H v o:=by
 cases o with
 | none=>exact h
 | some A=>have⟨pb,a,c⟩:=h;exact⟨pb,a,c.mono k⟩
theorem QS{cells:List (BitVec 256)}{next:List (List Int)}{final:List Bool}(h:Bp cells next final.length=true):(BO cells next final).Ok:=by
 have⟨j,k,l,d⟩:=E4 h;have e:=FE (next:=next) (sp:=fun b=>AJ b b) (fun b m=>(Cg h m).1) 256 (J_ _);have g:=e.len;have n:=e.le;have f:=e.cell;refine⟨by simpa [BO]using j,by simpa [BO]using k,by simp[BO,l],?_,?_,?_,?_⟩
 ·exact f
 ·intro p q;have:=e.places p q;simp only[BO];omega
 ·simp only[BO];omega
 ·intro row a;simp only[BO,List.mem_map]at a;obtain⟨r,u,rfl⟩:=a;refine⟨by simp only[Fs,BO,Z_];omega,fun t w=>?_⟩;obtain⟨c,x,rfl⟩:=List.mem_map.1 w;have y:=e.cols c x;have:=d r u;simp only[BO,Z_];rw[Ya5,Ya2 (by omega),YbH];exact this.2 _ (List.getElem_mem _)
theorem AhJ(G I fa:Option Addr)(J K fc:Nat)(cells:List (BitVec 256))(next:List (List Int))(final:List Bool)(S:Nat→Prop)(H:Aa)(y:∀k,S k→k<H.size)
  (W:S_ CP S H G J cells) (X:S_ Lg S H I K next) (Y:S_ Bd S H fa fc final):
  Al prog 182 #[.slice G cells.length J,.slice I next.length K,.slice fa final.length fc] H fun v H'=>
   A_ (D_ H) H H'∧H.size≤H'.size∧Bc (fun k=>H.size≤k∧k<H'.size) H' v (if Bp cells next final.length then some (BO cells next final)else none):=by
 have lf:=Y.le;unfold maxLen at lf;refine Al.of_vc func182 rfl (call182 _) (Ak (AbE G I fa J K fc final.length cells next S H y W X (by omega)) fun H1 l=>?_);have L:H.size≤H1.size:=by
  rcases YbA H.size with h | h
  ·omega
  ·have:=Ae l (k:=H.size-1) (by unfold D_;omega);omega
 refine Ag.mk (fun h=>?_) (fun h=>?_)
 ·(conv=>whnf);have q:Bp cells next final.length=false:=by simpa using h
  rw[q];exact⟨l,L,rfl⟩
 ·have q:Bp cells next final.length=true:=by simpa using h
  rw[q];have⟨n1,n2,n3,M⟩:=E4 q;refine Nq (T:=Bd) (S:=S) (lo:=H1.size) (xs:=[]) Fv Tl M_.nil (J_ _) (fun k a=>⟨by have:=y k a;omega,?_⟩) (Y.frame (l.mono y)) (by simp only[maxLen,J'];omega) (by simp only[J'];omega) ?_
  ·rintro⟨o,n,c,h⟩;cases h
  intro v2 H2 e N a0 _;rw[Ybj]at e;have m:M_ Bd (fun _=>False) H2 H1.size 4 v2 final:=e.free Tj;obtain⟨z,d,rfl,A,-⟩:=m.view (S':=fun k=>H1.size≤k∧k<H2.size) (fun k a=>e.lt a) (fun k a=>a.elim);refine Ah rfl rfl _ rfl (BB (.slice none 0 0) [] (.slice none 0 0) (.slice z final.length d) (.slice none 0 0)) (by rfl) (BC (BB (.slice none 0 0) [] (.slice none 0 0) (.slice z final.length d) (.slice none 0 0)) rfl ?_);intro pb H3 a5 a6 O B;have Z:H2.size=pb:=by omega
  have P:∀k,D_ H k→k<H1.size:=fun k a=>by unfold D_ at a;omega
  have u:A_ (fun k=>k<H.size) H H3:=(l.trans (N.mono fun k a=>⟨P k a,fun q=>by have⟨o,n,c,h⟩:=q;cases h⟩)).trans (B.mono fun k a=>by unfold D_ at a;omega);have Q:∀k,S k→k<H3.size∧k≠pb:=fun k a=>by have:=y k a;omega
  refine Aj.mk (AaM pb (.slice z final.length d) (.slice none 0 0) G I J K cells next final.length S H3 Q O (W.frame (u.mono y)) (X.frame (u.mono y)) q) ?_;rintro v4 H4 ⟨C,a7,ac,r,an,t,R,w,f⟩;have j:S_ Bd (fun k=>H1.size≤k∧k<H2.size) H4 z d final:=(A.frame (B.mono fun k a=>by omega)).frame (C.mono fun k a=>by omega);have g:=QS q;(conv=>whnf);refine Aj.mk (Ag0 pb (.slice ac (AN next cells (fun b=>AJ b b) 256).sets.length r) (.slice none 0 0) (AN next cells (fun b=>AJ b b) 256).cell an z t d (next.map (Fs (AN next cells (fun b=>AJ b b) 256).cols)) final
   (fun k=>H1.size≤k∧k<H4.size∧k≠pb) H4 (fun k a=>by omega) (by rw[Z_];exact R) (Yb2 g.cell) (f.mono fun k a=>by omega) (j.mono fun k a=>by omega)
   (by simpa using n2) (by simp[n3]) (fun row D=>?_)) ?_
  ·have:=g.rows row D;have h2:=g.sl;exact⟨by omega,this.2⟩
  rintro v5 H5 ⟨p,a8,al,aa,E,F,x,U,V⟩;(conv=>whnf);refine⟨?_,by omega,pb,rfl,⟨by omega,by omega⟩,g,ac,r,an,t,z,d,aa,E,al,U,?_,?_,?_,?_,F,x⟩
  ·exact(u.trans (C.mono fun k a=>by omega)).trans (p.mono fun k a=>by omega)
  ·exact(w.frame (p.mono fun k a=>by omega)).mono fun k a=>by omega
  ·exact(f.frame (p.mono fun k a=>by omega)).mono fun k a=>by omega
  ·exact(j.frame (p.mono fun k a=>by omega)).mono fun k a=>by omega
  ·exact V.mono fun k a=>by omega
def e_:Option AM→Nat
 | none=>1
 | some A=>A.next.length
theorem P1:prog.underlying 67=some (.pointer 112):=rfl
theorem Gz{S:Nat→Prop}{H:Aa}{v:v_}{o:Option AM}(h:Bc S H v o):AZ prog 86 #[v] H (.int .i64 (e_ o:Int)):=by
 cases o with
 | none=>
   obtain rfl:=h;refine Al.of_vc func86 rfl (call86 _) (XU P1 ?_);(conv=>whnf);exact⟨rfl,A_.refl _ _⟩
 | some A=>
   obtain⟨pb,rfl,f,a,m,n,p,q,r,t,u,w,al,k,b,c,g,l,j,d⟩:=h;have e:A.cell.length≤256:=Yb2 a.cell;refine Al.of_vc func86 rfl (call86 _) (Px P1 (fa ?_));refine B_ (by rw[k.cell,P_];exact EV e) trivial ?_;(conv=>whnf);exact⟨rfl,A_.refl _ _⟩
def AG:Option AM→Int→Bool
 | none,_=>false
 | some A,q=>decide (0≤q)&&(A.final[q.toNat]?).getD false
theorem BU{S:Nat→Prop}{H:Aa}{v:v_}{o:Option AM}{q:Int}(h:Bc S H v o):AZ prog 49 #[v,C_ q] H (.bool (AG o q)):=by
 cases o with
 | none=>
   obtain rfl:=h;refine Al.of_vc func49 rfl (call49 _) (La P1 ?_);(conv=>whnf);exact⟨rfl,A_.refl _ _⟩
 | some A=>
   obtain⟨pb,rfl,l,c,z,B,C,D,E,F,G,I,al,m,g,j,d,u,p,k⟩:=h;have e:A.cell.length≤256:=Yb2 c.cell;have w:=c.fl;have x:=c.n2;refine Al.of_vc func49 rfl (call49 _) ?_;cases q with
   | negSucc n=>
     refine HO P1 ?_;(conv=>whnf);exact⟨rfl,A_.refl _ _⟩
   | ofNat n=>
     refine HO P1 (fa ?_);refine B_ (by rw[m.cell,P_];exact Ke e) trivial ?_;by_cases b:n<A.final.length
     ·have⟨f,r⟩:=Am b;have hd:decide (AmI n<(A.final.length:Int))=true:=g_ (by simpa using b);(conv=>whnf);rw[hd];refine fa ?_;refine B_ (by rw[m.cell,P_];exact Ke e) trivial ?_;refine u_ Fv d r rfl ?_;rintro J K y t a rfl;refine lT a.one ?_;(conv=>whnf);exact⟨by simp[AG,r],A_.refl _ _⟩
     ·have hd:decide (AmI n<(A.final.length:Int))=false:=a_ (by simpa using b);(conv=>whnf);rw[hd];(conv=>whnf);exact⟨by simp[AG,YaE (Nat.le_of_not_lt b)],A_.refl _ _⟩
theorem Wu{cv nv fv av:v_}{cell:List Nat}{b c:Nat}(h:cell[b]?=some c):(BB cv cell nv fv av)[1+b]?=some (.int .u8 (c:Int)):=by
 have a:=(X_.1 h).1;unfold BB;rw[YaO,Nat.add_comm,YaL,YaC,YaK (by simpa using a),t_,h];rfl
def Ar(o:Option AM)(q:Int)(b:Nat):Int:=
 if q<0∨(e_ o:Int)≤q then -1 else match o with
  | none=>0
  | some A=>((A.next[q.toNat]?).getD []).getD (A.cell.getD b 0) 0
theorem Ng{S:Nat→Prop}{H:Aa}{v:v_}{o:Option AM}(h:Bc S H v o):1≤e_ o∧e_ o≤65536:=by
 cases o with
 | none=>simp[e_]
 | some A=>obtain⟨pb,rfl,b,a,_⟩:=h;exact⟨a.n1,a.n2⟩
theorem Cx{S:Nat→Prop}{H:Aa}{v:v_}{o:Option AM}{q:Int}{b:Nat}(K:∀k,S k→k<H.size)(h:Bc S H v o)(r:b<256):
  AZ prog 48 #[v,C_ q,.int .u8 (b:Int)] H (.int .i64 (Ar o q b)):=by
 refine Al.of_vc func48 rfl (call48 _) ?_;cases q with
 | negSucc n=>
   have hd:decide (Int.negSucc n<0)=true:=g_ (Yax n);(conv=>whnf);rw[hd];(conv=>whnf);exact⟨by simp[Ar,Yax],A_.refl _ _⟩
 | ofNat n=>
   refine Ak (Gz h) fun H1 f=>?_;have B:=h.frame (f.mono K);by_cases p:e_ o≤n
   ·have hd:decide ((e_ o:Int)≤AmI n)=true:=g_ (by simpa using p);(conv=>whnf);rw[hd];(conv=>whnf);exact⟨by simp[Ar,p],f⟩
   ·have hd:decide ((e_ o:Int)≤AmI n)=false:=a_ (by simpa using p);(conv=>whnf);rw[hd];have m:∀x,x=(match o with | none=>(0:Int) | some A=>((A.next[n]?).getD []).getD (A.cell.getD b 0) 0)→Ar o (AmI n) b=x:=by
     intro x L;subst L;unfold Ar;rw[G_ (by simp;omega)];cases o<;>rfl
    cases o with
    | none=>
      obtain rfl:=B;refine XU P1 ?_;(conv=>whnf);exact⟨by rw[m 0 rfl],f⟩
    | some A=>
      obtain⟨pb,rfl,C,g,T,U,V,W,X,Y,Z,ca,al,D,u,j,E,M,F,w⟩:=B;have y:A.cell.length≤256:=Yb2 g.cell;simp only[e_]at p;have⟨row,a⟩:=Am (l:=A.next) (k:=n) (by omega);have⟨c,z⟩:=Am (l:=A.cell) (k:=b) (by rw[g.cell];exact r);have N:=(g.rows row (d_ a)).1;have O:=g.places c (d_ z);have⟨t,G⟩:=Am (l:=row) (k:=c) (by omega);refine Px P1 (Au.lex rfl (by kernel_rfl) (fa ?_));refine B_ (by rw[D.cell,P_];exact EV y) trivial ?_;refine u_ DS j a rfl ?_;rintro b2 o2 P I d ⟨ra,rc,rfl,Q⟩;refine B_ d.one trivial (fa ?_);refine ixa Ac2 (by omega) (by omega) ?_;refine B_ (v:=.int .u8 (c:Int)) (by rw[D.cell,show 0+1+(b:Int).toNat*1=1+b by omega];exact Wu z) trivial ?_;refine u_ AO Q G rfl ?_;rintro b3 o3 R J e ⟨rfl,-⟩;refine lT e.one ?_;(conv=>whnf);exact⟨by rw[m t (by simp[a,z,G,Ya5])],f⟩
def HP(o:Option AM)(s:ByteArray)(k:Nat):Int:=(s.data.toList.take k).foldl (fun q b=>Ar o q b.toNat) 0
theorem Ot{o:Option AM}{s:ByteArray}{k:Nat}{b:UInt8}(h:s.data[k]?=some b):HP o s (k+1)=Ar o (HP o s k) b.toNat:=by
 unfold HP;rw[Ai (x:=b) (by rw[Yag];exact h),List.foldl_append];rfl
theorem Hv:prog.underlying 9=some .string:=rfl
theorem En{s:ByteArray}{k:Nat}(h:k<s.size):∃b,s.data[k]?=some b:=⟨s.data[k]'h,Yad h⟩
def Bs(o:Option AM)(s:ByteArray):Bool:=AG o (HP o s s.size)
theorem DT{S:Nat→Prop}{H:Aa}{v:v_}{o:Option AM}{s:ByteArray}(e:∀k,S k→k<H.size)(h:Bc S H v o)(hs:s.size≤maxLen):
  AZ prog 25 #[v,.string s] H (.bool (Bs o s)):=by
 unfold maxLen at hs;refine Al.of_vc func25 rfl (call25 _) ?_;(conv=>whnf);refine A8.mk [5,9] (fun k:Nat=>[C_ (HP o s k),C_ k]) (fun k H2=>k≤s.size∧A_ (D_ H) H H2) (fun k _=>s.size-k) ?_ ?_
 ·(conv=>whnf);exact⟨0,rfl,by omega,A_.refl _ _⟩
 ·rintro k H2 f ⟨d,a⟩;have g:=h.frame (a.mono e);refine Ag.m2 (fun h=>?_) (fun h=>?_)
  ·have⟨b,j⟩:=En (s:=s) (k:=k) (by omega);refine Ci Hv rfl j (Ak (Cx (fun k d=>Ae a (e k d)) g (UInt8.toNat_lt b)) fun H3 c=>?_);(conv=>whnf);rw[R_ k (by omega)];exact⟨rfl,k+1,by rw[Ot j];simp,⟨by omega,a.trans (c.mono fun k d=>Ae a d)⟩,by omega⟩
  ·obtain rfl:k=s.size:=by omega
   refine Ak (BU g) fun H3 c=>?_;(conv=>whnf);exact⟨rfl,a.trans (c.mono fun k d=>Ae a d)⟩
theorem Lf{A:AM}(d:A.Ok){q:Int}{b:Nat}(h:0≤q)(p:q<A.next.length)(j:b<256):0≤Ar (some A) q b∧Ar (some A) q b<A.next.length:=by
 obtain⟨n,rfl⟩:=Yav h;have⟨row,a⟩:=Am (l:=A.next) (k:=n) (by omega);have⟨c,f⟩:=Am (l:=A.cell) (k:=b) (by rw[d.cell];exact j);have e:=d.rows row (d_ a);have m:=d.places c (d_ f);have⟨t,g⟩:=Am (l:=row) (k:=c) (by omega);unfold Ar;rw[G_ (by simp[e_];omega)];simp only[Yau,a,Ya5,f,YbH,g];exact e.2 t (d_ g)
end
end Go.Proofs.YtdopnglgekglgaaGreatDoor
