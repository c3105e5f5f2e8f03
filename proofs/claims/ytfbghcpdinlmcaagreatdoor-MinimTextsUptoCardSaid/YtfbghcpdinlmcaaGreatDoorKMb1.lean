import Derived.OrdersHeld
import Derived.Deep.Quiet
import Derived.StillTail
import Derived.Tactics
import Derived.NoCompiler
import Derived.WalkKit
import Derived.Deep.MidRow
import Derived.Deep.AppendSrc
import Derived.DeepKeys
import Derived.Test.YtfbghcpdinlmcaaGreatDoorProg
import Derived.Laws.Pointers
import Derived.MapKept
import Derived.Laws.BytesArg
import Derived.Laws.Cover1
import Derived.DeepKeys3
import Derived.Maps.RangeRun
set_option maxHeartbeats 0
open Array renaming replicate → Ak4, ext' → AkI, map → AkS
open BitVec renaming ofInt → AjT, twoPow → Al3, allOnes → AlR, ofNat → Am1
open Int renaming reducePow → AkK
open List renaming replicate → AiF, range → Aj7, rec → AkR
open Nat renaming noConfusion → AhW, reducePow → AkC, reduceSub → Al2, beq → AlA, reduceMul → AlD
set_option maxRecDepth 100000
open Go renaming Value → v_, World → y_, Program → w_, Operand → z_, TypeId → x_
abbrev Ya0:=@Bool.true_and
abbrev U':=@Int.toNat_natCast
abbrev Ya2:=@Int.natCast_inj
abbrev Ya3:=@Int.natCast_add
abbrev O_:=@List.getElem?_eq_some_iff
abbrev N':=@List.getElem?_eq_getElem
abbrev J_:=@List.length_append
abbrev c_:=@List.mem_of_getElem?
abbrev Ya8:=@List.eq_nil_of_length_eq_zero
abbrev Ya9:=@List.pairwise_iff_getElem
abbrev YaA:=@List.getElem?_set_self
abbrev Y_:=@List.mem_singleton
abbrev YaC:=@List.getElem?_set_ne
abbrev YaD:=@List.getD_eq_getElem?_getD
abbrev YaE:=@List.getElem?_append_right
abbrev b_:=@List.length_cons
abbrev YaG:=@List.getElem?_append_left
abbrev YaH:=@List.length_set
abbrev YaI:=@List.getElem?_of_mem
abbrev YaJ:=@List.ext_getElem?
abbrev YaK:=@List.getElem?_take
abbrev YaL:=@List.getElem?_eq_none
abbrev h_:=@List.length_singleton
abbrev YaN:=@List.append_assoc
abbrev YaO:=@List.getElem?_replicate
abbrev YaP:=@List.mem_cons
abbrev o_:=@List.getElem?_map
abbrev YaR:=@List.getElem?_range
abbrev q_:=@List.mem_append
abbrev YaT:=@List.getElem?_set
abbrev YaU:=@List.filter_congr
abbrev YaV:=@List.map_cons
abbrev YaW:=@List.length_take
abbrev YaX:=@List.append_nil
abbrev YaY:=@List.mem_range
abbrev YaZ:=@List.take_length_add_append
abbrev Yaa:=@Array.getElem?_eq_some_iff
abbrev Yab:=@Array.length_toList
abbrev Yac:=@Array.getElem?_modify
abbrev Yad:=@Array.toArray_toList
abbrev Yae:=@Array.toList_map
abbrev Yaf:=@Array.getElem?_push
abbrev Yag:=@Array.getElem?_eq_getElem
abbrev Yah:=@Array.getElem?_eq_none
abbrev Yai:=@Array.getElem?_setIfInBounds_ne
abbrev Yaj:=@Array.setIfInBounds_comm
abbrev Yak:=@Array.getElem?_toList
abbrev Yal:=@Array.contains_push
abbrev Yam:=@Array.toList_filter
abbrev Yan:=@BitVec.toNat_ofNat
abbrev Yao:=@BitVec.ofInt_natCast
abbrev Yap:=@BitVec.eq_of_getLsbD_eq
abbrev Yaq:=@BitVec.getLsbD_or
abbrev Yar:=@BitVec.getLsbD_allOnes
abbrev Yas:=@BitVec.getLsbD_twoPow
abbrev Yat:=@BitVec.toNat_xor
abbrev Yau:=@BitVec.toNat_not
abbrev r_:=@Bool.and_eq_true
abbrev Yaw:=@Bool.false_eq_true
abbrev Yax:=@Bool.not_eq_true'
abbrev Yay:=@Bool.or_eq_true
abbrev Yaz:=@Bool.false_and
abbrev Yb0:=@Nat.ne_of_beq_eq_false
abbrev Yb1:=@Nat.min_eq_left
abbrev Yb2:=@Nat.and_two_pow_sub_one_eq_mod
abbrev Yb3:=@Nat.succ_mul
abbrev Yb4:=@Nat.add_mul
abbrev L':=@Nat.mul_one
abbrev Yb6:=@Nat.lt_or_gt_of_ne
abbrev t_:=@Nat.zero_le
abbrev Yb8:=@Nat.div_div_eq_div_mul
abbrev Yb9:=@Nat.eq_of_beq_eq_true
abbrev YbA:=@Nat.le_trans
abbrev YbB:=@Nat.eq_of_testBit_eq
abbrev YbC:=@Nat.lt_or_ge
abbrev YbD:=@Nat.pow_succ
abbrev YbE:=@Nat.testBit_mod_two_pow
abbrev YbF:=@Nat.testBit_div_two_pow
abbrev YbG:=@Nat.one_mul
abbrev YbH:=@Nat.testBit_or
abbrev YbI:=@Nat.div_lt_iff_lt_mul
abbrev YbJ:=@Nat.mod_lt
abbrev YbK:=@Nat.pow_lt_pow_right
abbrev YbL:=@Nat.testBit_two_pow
abbrev YbM:=@Nat.mul_le_mul
abbrev YbN:=@Nat.add_assoc
abbrev YbO:=@Option.isSome_iff_exists
abbrev YbP:=@Option.bind_some
abbrev YbQ:=@Array.getD_eq_getD_getElem?
abbrev YbR:=@Array.getElem?_replicate
abbrev YbS:=@Int.eq_ofNat_of_zero_le
abbrev YbT:=@List.filter_cons_of_pos
abbrev YbU:=@List.filter_cons_of_neg
abbrev YbV:=@List.mem_append_left
abbrev YbW:=@List.size_toArray
abbrev YbX:=@List.pairwise_append
abbrev YbY:=@List.mem_cons_of_mem
abbrev YbZ:=@List.toList_toArray
abbrev Yba:=@List.getElem?_cons_succ
abbrev Z_:=@List.length_map
abbrev Ybc:=@List.set_getElem_self
abbrev Ybd:=@List.length_filter_le
abbrev Ybe:=@List.range_add
abbrev Ybf:=@List.pairwise_cons
abbrev Ybg:=@List.filter_append
abbrev Ybh:=@List.foldl_append
abbrev Ybi:=@List.getElem?_inj
abbrev Ybj:=@List.getElem_set
abbrev Ybk:=@List.any_eq_true
abbrev Ybl:=@List.all_eq_true
abbrev Ybm:=@List.take_left'
abbrev Ybn:=@List.mem_filter
abbrev Ybo:=@List.nil_append
abbrev Ybp:=@List.filter_map
abbrev Ybq:=@List.take_zero
abbrev K_:=@Nat.zero_add
abbrev Ybs:=@Nat.mod_eq_of_lt
abbrev I_:=@Nat.le_refl
abbrev Ybu:=@Nat.lt_of_lt_of_le
abbrev Ybv:=@Nat.testBit_lt_two_pow
abbrev Ybw:=@Nat.mul_le_mul_right
abbrev Ybx:=@Nat.or_lt_two_pow
abbrev Yby:=@Nat.pow_le_pow_right
abbrev Ybz:=@Nat.and_le_right
abbrev Yc0:=@List.take_length
abbrev Yc1:=@List.foldl_cons
abbrev Yc2:=@List.take_of_length_le
abbrev Yc3:=@List.take_add_one
abbrev Yc4:=@List.not_mem_nil
abbrev Yc5:=@List.foldl_nil
abbrev Yc6:=@List.flatMap_cons
abbrev Yc7:=@List.all_eq_false
abbrev Yc8:=@List.map_nil
abbrev Yc9:=@List.length_filterMap_le
abbrev YcA:=@List.getElem?_cons_zero
abbrev YcB:=@List.map_append
abbrev YcC:=@List.take_append_drop
abbrev YcD:=@List.filterMap_append
abbrev YcE:=@List.map_congr_left
abbrev YcF:=@List.length_take_le
abbrev YcG:=@List.map_map
abbrev YcH:=@List.nodup_append
abbrev YcI:=@List.prefix_refl
abbrev YcJ:=@List.nodup_nil
abbrev YcK:=@Option.map_some
abbrev YcL:=@BitVec.getLsbD_and
abbrev YcM:=@BitVec.getLsbD_not
abbrev YcN:=@Bool.eq_iff_iff
abbrev YcO:=@Int.negSucc_lt_zero
abbrev YcP:=@List.findIdx?_eq_some_iff_getElem
abbrev YcQ:=@List.findIdx?_cons
abbrev I':=@List.mem_map
abbrev YcS:=@List.mem_flatMap
abbrev YcT:=@List.pairwise_singleton
abbrev YcU:=@List.filter_cons
abbrev YcV:=@List.flatMap_append
abbrev YcW:=@List.range_succ
abbrev YcX:=@List.sum_cons
abbrev YcY:=@List.cons_append
abbrev YcZ:=@List.findIdx?_append
abbrev Yca:=@List.mem_cons_self
abbrev Ycb:=@List.set_set
abbrev Ycc:=@List.drop_length_add_append
abbrev m_:=@List.length_nil
abbrev Yce:=@List.length_replicate
abbrev Ycf:=@List.set_append_right
abbrev Ycg:=@List.set_append_left
abbrev Ych:=@List.all_append
abbrev Yci:=@List.mapM_cons
abbrev Ycj:=@Nat.lt_succ_self
abbrev Yck:=@Nat.lt_or_eq_of_le
abbrev Ycl:=@Nat.le_of_lt_succ
abbrev Ycm:=@Nat.sub_self
abbrev Ycn:=@Nat.le_add_right
abbrev Yco:=@Bool.or_false
abbrev Ycp:=@Bool.and_false
abbrev Ycq:=@Bool.or_true
abbrev Ycr:=@Int.natCast_mul
abbrev Ycs:=@Int.toNat_of_nonneg
abbrev Yct:=@List.append_sublist_append_left
abbrev Ycu:=@List.set_cons_succ
abbrev Ycv:=@List.set_cons_zero
abbrev Ycw:=@List.nil_sublist
abbrev Ycx:=@Nat.mul_le_mul_left
abbrev Ycy:=@Nat.mul_add
abbrev Ycz:=@List.mem_append_right
abbrev Yd0:=@List.flatMap_nil
abbrev Yd1:=@List.not_of_lt_findIdx
abbrev Yd2:=@List.findIdx_append
abbrev Yd3:=@List.mem_map_of_mem
abbrev Yd4:=@List.find?_eq_none
abbrev Yd5:=@List.getElem?_drop
abbrev Yd6:=@List.cons_ne_nil
abbrev Yd7:=@List.range'_succ
abbrev Yd8:=@List.append_inj'
abbrev Yd9:=@List.getElem_map
abbrev YdA:=@List.find?_some
abbrev YdB:=@Nat.le_of_lt
abbrev YdC:=@Nat.sub_add_cancel
abbrev YdD:=@Option.map_eq_some_iff
abbrev YdE:=@List.sublist_cons_self
abbrev YdF:=@List.perm_append_singleton
abbrev YdG:=@List.eq_replicate_iff
abbrev YdH:=@List.filterMap_cons
abbrev YdI:=@List.filterMap_nil
abbrev Yda:=@List.filter_nil
abbrev Ydb:=@List.dropLast_concat_getLast
abbrev Ydc:=@List.getElem_mem
abbrev Ydd:=@List.sum_append
abbrev Yde:=@List.length_pos_of_mem
abbrev Ydf:=@List.pairwise_flatMap
abbrev Ydg:=@List.mem_of_mem_take
abbrev Ydh:=@List.getElem_of_mem
abbrev Ydi:=@List.mem_filterMap
abbrev Ydj:=@List.ne_nil_of_mem
abbrev Ydk:=@List.findIdx_cons
abbrev Ydl:=@List.count_cons
abbrev Ydm:=@Nat.le_of_eq
abbrev Ydn:=@Nat.add_right_cancel_iff
abbrev Ydo:=@Nat.lt_trichotomy
abbrev Ydp:=@Option.getD_some
abbrev Ydq:=@Option.map_none
abbrev Ydr:=@Bool.eq_false_iff
abbrev Yds:=@Bool.and_self
abbrev Ydt:=@Int.le_refl
abbrev Ydu:=@List.findIdx?_eq_none_iff
abbrev Ydv:=@List.length_range
abbrev Ydw:=@List.mem_of_find?_eq_some
abbrev Ydx:=@List.take_append_of_le_length
abbrev Ydy:=@List.prefix_append
abbrev Ydz:=@List.pairwise_map
abbrev D_:=@if_neg
abbrev F_:=@if_pos
abbrev T_(b:Nat):Option Go.Addr:=some ⟨b,0,none⟩
abbrev U_(b:Nat):Go.Value:=.pointer (some ⟨b,0,none⟩)
abbrev A_:Int→Go.Value:=Go.Value.int .i64
open Go.Proofs.Tryz
section
variable{p:Prop}
theorem j_[h:Decidable p](k:¬p):decide p=false:=decide_eq_false k
theorem n_[h:Decidable p](k:p):decide p=true:=decide_eq_true k
theorem V_[h:Decidable p](k:¬p:=by omega):decide p=false:=decide_eq_false k
theorem e_[h:Decidable p](k:p:=by omega):decide p=true:=decide_eq_true k
theorem Zzi[h:Decidable p]:(decide p=false)=¬p:=propext decide_eq_false_iff_not
theorem Zzj[h:Decidable p]:(decide p=true)=p:=decide_eq_true_eq
end
namespace Go.VC
abbrev Aa:=Array Obj
abbrev Fr:=List v_
structure d_(w w':y_):Prop where
 os:w'.os=w.os
 tape:w'.tape=w.tape
 output:w'.output=w.output
theorem d_.refl(w:y_):d_ w w:=⟨rfl,rfl,rfl⟩
theorem d_.trans{a b c:y_}(h:d_ a b)(k:d_ b c):d_ a c:=
 ⟨k.os.trans h.os,k.tape.trans h.tape,k.output.trans h.output⟩
def Ak(P:w_)(f:FuncId)(args:Array v_)(H:Aa)(R:v_→Aa→Prop):Prop:=
 ∀w:y_,w.heap=H→(callFunc f args).run P w= .ok (.enter f args) w∧
  Calls P f args w fun e w'=>∃v,e= .returned v∧d_ w w'∧R v w'.heap
theorem Ak.mono{P:w_}{f:FuncId}{a:Array v_}{H:Aa}{R R':v_→Aa→Prop}
  (h:Ak P f a H R) (c:∀v H',R v H'→R' v H'):Ak P f a H R':=fun w b=>
 ⟨(h w b).1,(h w b).2.mono fun _ _ ⟨v,d,e,r⟩=>⟨v,d,e,c _ _ r⟩⟩
def C_(S:Nat→Prop)(H H':Aa):Prop:=∀k,S k→H'[k]?=H[k]?
theorem C_.refl(S:Nat→Prop)(H:Aa):C_ S H H:=fun _ _=>rfl
theorem C_.trans{S:Nat→Prop}{a b c:Aa}(h:C_ S a b)(k:C_ S b c):C_ S a c:=
 fun i d=>(k i d).trans (h i d)
theorem C_.mono{S S':Nat→Prop}{a b:Aa}(h:C_ S a b)(hs:∀k,S' k→S k):C_ S' a b:=
 fun i c=>h i (hs i c)
structure AJ(P:w_)(m:Sem v_)(S:Nat→Prop)(H:Aa)(K:v_→Prop):Prop where
 in_::
 out_:∃v,(∀w:y_,C_ S H w.heap→m.run P w= .ok v w)∧K v
structure BH(P:w_)(m:Sem v_)(H:Aa)(K:v_→Aa→Prop):Prop where
 in_::
 out_:∀w:y_,w.heap=H→∃v w',m.run P w= .ok v w'∧d_ w w'∧K v w'.heap
structure CN(P:w_)(m:Sem Unit)(H:Aa)(K:Aa→Prop):Prop where
 in_::
 out_:∀w:y_,w.heap=H→∃w',m.run P w= .ok () w'∧d_ w w'∧K w'.heap
structure Ae(P:w_)(f:FuncId)(args:Array v_)(H:Aa)(K:v_→Aa→Prop):Prop where
 in_::
 out_:Ak P f args H K
structure Ki(P:w_)(f:FuncId)(args:Array v_)(S:Nat→Prop)(H:Aa)(K:v_→Prop):Prop where
 in_::
 out_:∃v,(∀H',C_ S H H'→Ak P f args H' fun v' H''=>v'=v∧C_ S H' H'')∧K v
section
variable{P:w_}
theorem AJ.mk{m:Sem v_}{S:Nat→Prop}{H:Aa}{K:v_→Prop}(v:v_)
  (h:∀w:y_,C_ S H w.heap→m.run P w= .ok v w) (k:K v):AJ P m S H K:=by
 exact⟨⟨v,h,k⟩⟩
theorem BH.mk{m:Sem v_}{H:Aa}{K:v_→Aa→Prop}
  (h:∀w:y_,w.heap=H→∃v a,m.run P w= .ok v a∧d_ w a∧K v a.heap):BH P m H K:=by
 exact⟨h⟩
theorem CN.mk{m:Sem Unit}{H:Aa}{K:Aa→Prop}
  (h:∀w:y_,w.heap=H→∃a,m.run P w= .ok () a∧d_ w a∧K a.heap):CN P m H K:=by
 exact⟨h⟩
theorem Ae.mk{f:FuncId}{a:Array v_}{H:Aa}{K R:v_→Aa→Prop}
  (h:Ak P f a H R) (k:∀v H',R v H'→K v H'):Ae P f a H K:=by
 exact⟨h.mono k⟩
theorem Ki.mk{f:FuncId}{a:Array v_}{S:Nat→Prop}{H:Aa}{K:v_→Prop}(v:v_)
  (h:∀H',C_ S H H'→Ak P f a H' fun b H''=>b=v∧C_ S H' H'') (k:K v):Ki P f a S H K:=by
 exact⟨⟨v,h,k⟩⟩
end
def AG(b:Bool)(p q:Prop):Prop:=match b with | true=>p | false=>q
theorem AG.mk{b:Bool}{p q:Prop}(h:b=true→p)(k:b=false→q):AG b p q:=by
 cases b;exact k rfl;exact h rfl
theorem AG.m2{d p q:Prop}[h:Decidable d](k:d→p)(l:¬d→q):AG (decide d) p q:=AG.mk (fun e=>k (of_decide_eq_true e)) (fun e=>l (of_decide_eq_false e))
section
variable{R:Type}
noncomputable def rdK(l:Fr):Nat→(v_→R)→R:=
 AkR (motive:=fun _=>Nat→(v_→R)→R) (fun _ K=>K undef) (fun v _ ih n K=>Nat.casesOn n (K v) fun m=>ih m K) l
noncomputable def wrK(l:Fr):Nat→v_→(Fr→R)→R:=
 AkR (motive:=fun _=>Nat→v_→(Fr→R)→R) (fun _ _ K=>K []) (fun x l ih n v K=>Nat.casesOn n (K (v::l)) fun m=>ih m v fun l'=>K (x::l')) l
noncomputable def O'(fr:Fr)(x:z_)(K:v_→R):R:=
 match x with
 | .tmp t=>rdK fr t K
 | .const v=>K v
 | .global g=>K (U_ g)
 | .func f=>K (.func (.func f) #[] #[])
noncomputable def HU(fr:Fr)(l:List z_):(List v_→R)→R:=
 AkR (motive:=fun _=>(List v_→R)→R) (fun K=>K []) (fun x _ ih K=>O' fr x fun v=>ih fun vs=>K (v::vs)) l
noncomputable def Db(dst:Option Tmp)(fr:Fr)(v:v_)(K:Fr→R):R:=
 match dst with
 | none=>K fr
 | some d=>wrK fr d v K
end
def rd(fr:Fr)(i:Nat):v_:=fr.getD i undef
def evF(fr:Fr):z_→v_
 | .tmp t=>rd fr t
 | .const v=>v
 | .global g=>U_ g
 | .func f=>.func (.func f) #[] #[]
theorem DW{R:Type}(K:v_→R):∀(fr:Fr) (i:Nat),rdK fr i K=K (rd fr i)
 | [],_=>rfl
 | _::_,0=>rfl
 | _::l,n+1=>by show rdK l n K=_;rw[DW K l n];simp[rd]
theorem F8{R:Type}:∀(fr:Fr) (i:Nat) (v:v_) (K:Fr→R),wrK fr i v K=K (fr.set i v)
 | [],_,_,_=>rfl
 | _::_,0,_,_=>rfl
 | x::l,n+1,v,K=>by show wrK l n v (fun a=>K (x::a))=_;rw[F8 l n v];rfl
theorem Ja{R:Type}(fr:Fr)(x:z_)(K:v_→R):O' fr x K=K (evF fr x):=by
 cases x<;>first | rfl | exact DW K fr _
theorem JM{R:Type}(fr:Fr):∀(l:List z_) (K:List v_→R),HU fr l K=K (l.map (evF fr))
 | [],_=>rfl
 | x::l,K=>by show O' fr x (fun v=>HU fr l fun vs=>K (v::vs))=_;simp only[Ja,JM fr l,YaV]
theorem Ce{R:Type}(a:Option Tmp)(fr:Fr)(v:v_)(K:Fr→R):
  Db a fr v K=K (match a with | none=>fr | some d=>fr.set d v):=by
 cases a with
 | none=>rfl
 | some d=>exact F8 fr d v K
structure At(fr:Fr)(a:Act):Prop where
 tmps:a.tmps.toList=fr
 defers:a.defers=[]
section
variable{fr:Fr}{a:Act}
theorem At.eval(h:At fr a)(x:z_):a.eval x=evF fr x:=by
 cases x with
 | tmp t=>obtain⟨rfl,_⟩:=h;simp[Act.eval,evF,rd]
 | const v=>rfl
 | global g=>rfl
 | func f=>rfl
theorem At.evalF(h:At fr a):a.eval=evF fr:=funext h.eval
theorem At.put(h:At fr a)(b:Option Tmp)(v:v_):
  At (match b with | none=>fr | some d=>fr.set d v) (a.put b v):=by
 obtain⟨rfl,c⟩:=h;cases b with
 | none=>exact⟨rfl,c⟩
 | some d=>exact⟨by simp[Act.put],c⟩
end
def kEq:IntKind→IntKind→Bool
 | .i8,.i8 | .i16,.i16 | .i32,.i32 | .i64,.i64 | .u8,.u8 | .u16,.u16 | .u32,.u32 | .u64,.u64=>true
 | _,_=>false
theorem AgO{a b:IntKind}(h:kEq a b=true):a=b:=by cases a<;>cases b<;>first | rfl | simp[kEq]at h
def QJ:BinOp→v_→v_→Option v_
 | .add,.int k a,.int k' b=>match kEq k k' with | true=>some (.int k (k.wrap (a+b))) | false=>none
 | .sub,.int k a,.int k' b=>match kEq k k' with | true=>some (.int k (k.wrap (a-b))) | false=>none
 | .mul,.int k a,.int k' b=>match kEq k k' with | true=>some (.int k (k.wrap (a*b))) | false=>none
 | .eql,.int k a,.int k' b=>match kEq k k' with | true=>some (.bool (a==b)) | false=>none
 | .neq,.int k a,.int k' b=>match kEq k k' with | true=>some (.bool (a != b)) | false=>none
 | .lss,.int k a,.int k' b=>match kEq k k' with | true=>some (.bool (decide (a<b))) | false=>none
 | .leq,.int k a,.int k' b=>match kEq k k' with | true=>some (.bool (decide (a≤b))) | false=>none
 | .gtr,.int k a,.int k' b=>match kEq k k' with | true=>some (.bool (decide (b<a))) | false=>none
 | .geq,.int k a,.int k' b=>match kEq k k' with | true=>some (.bool (decide (b≤a))) | false=>none
 | .eql,.string a,.string b=>some (.bool (a.toList==b.toList))
 | .neq,.string a,.string b=>some (.bool (!(a.toList==b.toList)))
 | _,_,_=>none
section
variable{P:w_}
theorem Dv(op:BinOp)(t:x_)(x y:z_)(k c:IntKind)(a b:Int)(w:y_):
  (eqGuard op t x y (.int k a) (.int c b)).run P w= .ok () w:=by
 cases op<;>simp[eqGuard]
theorem Gw(op:BinOp)(t:x_)(x y:z_)(a b:ByteArray)(w:y_):
  (eqGuard op t x y (.string a) (.string b)).run P w= .ok () w:=by
 cases op<;>simp[eqGuard]
theorem So{op:BinOp}{t:x_}{x y:z_}{a b v:v_}(h:QJ op a b=some v)(w:y_):
  (do eqGuard op t x y a b;binOp op t a b:Sem v_).run P w= .ok v w:=by
 unfold QJ at h;split at h
 all_goals try (split at h)
 all_goals first
  | (cases h;done)
  | (rename_i c;obtain rfl:=AgO c;cases h;simp[Dv,binOp,Op.intArith,Op.intCmp];done)
  | (cases h;simp[Gw,binOp,Op.stringOp];done)
end
def Vw:UnOp→v_→Option v_
 | .not,.bool b=>some (.bool (!b))
 | .neg,.int k n=>some (.int k (k.wrap (0-n)))
 | _,_=>none
theorem Vx{P:w_}{op:UnOp}{a v:v_}(h:Vw op a=some v)(w:y_):(Op.unary op a).run P w= .ok v w:=by
 unfold Vw at h;split at h<;>cases h<;>simp[Op.unary,Op.intArith]
noncomputable def Xl{R:Type}(fr:Fr)(x:Option z_)(K:Option v_→R):R:=
 match x with
 | none=>K none
 | some x=>O' fr x fun v=>K (some v)
theorem VN{R:Type}(fr:Fr)(x:Option z_)(K:Option v_→R):Xl fr x K=K (x.map (evF fr)):=by
 cases x<;>simp[Xl,Ja]
noncomputable def AcJ{R:Type}(fr:Fr)(l:List (Nat×z_)):(List (Nat×v_)→R)→R:=
 AkR (motive:=fun _=>(List (Nat×v_)→R)→R) (fun K=>K []) (fun p _ ih K=>O' fr p.2 fun v=>ih fun vs=>K ((p.1,v)::vs)) l
theorem QY{R:Type}(fr:Fr):∀(l:List (Nat×z_)) (K:List (Nat×v_)→R),AcJ fr l K=K (l.map fun(i,x)=>(i,evF fr x))
 | [],_=>rfl
 | (i,x)::l,K=>by show O' fr x (fun v=>AcJ fr l fun vs=>K ((i,v)::vs))=_;simp only[Ja,QY fr l,YaV]
def Rr:Option TypeDesc→List v_→Option v_
 | some (.slice _),[.slice _ n _]=>some (.int .i64 n)
 | some .string,[.string s]=>some (.int .i64 s.size)
 | _,_=>none
theorem SW{P:w_}{t ty:x_}{vs:List v_}{v:v_}(h:Rr (P.underlying t) vs=some v)(w:y_):
  (Builtin.len_ #[t] ty vs.toArray).run P w= .ok v w:=by
 unfold Rr at h;split at h<;>cases h<;>rename_i hu<;>simp[Builtin.len_,run_underlying hu,goInt]
def NN:Option TypeDesc→Option TypeDesc→v_→Option v_
 | some _,some (.int k),.int _ n=>some (.int k (k.wrap n))
 | some _,some .string,.string s=>some (.string s)
 | _,_,_=>none
theorem QR{P:w_}{s d:x_}{x v:v_}(h:NN (P.underlying s) (P.underlying d) x=some v)(w:y_):
  (convert s d x).run P w= .ok v w:=by
 unfold NN at h;split at h<;>cases h<;>rename_i a b
 ·simp[convert,run_underlying a,run_underlying b,Conv.intToInt]
 ·simp[convert,run_underlying a,run_underlying b]
def Ph(P:w_)(S:Nat→Prop)(o:Oper)(fr:Fr)(H:Aa)(K:v_→Prop):Prop:=
 match o.op with
 | .move x=>O' fr x K
 | .assign x=>O' fr x K
 | .pick c a b=>O' fr c fun vc=>match vc with
   | .bool b'=>AG b' (O' fr a K) (O' fr b K)
   | _=>False
 | .binOp op t x y _=>O' fr x fun a=>O' fr y fun b=>match QJ op a b with
   | some v=>K v
   | none=>AJ P (do eqGuard op t x y a b;binOp op t a b) S H K
 | .unOp op _ x=>O' fr x fun a=>match Vw op a with
   | some v=>K v
   | none=>AJ P (Op.unary op a) S H K
 | .convert s d x=>O' fr x fun a=>match NN (P.underlying s) (P.underlying d) a with
   | some v=>K v
   | none=>AJ P (convert s d a) S H K
 | .extract x i=>O' fr x fun a=>match a with
   | .tuple vs=>match vs.toList[i]? with
     | some v=>K v
     | none=>False
   | _=>False
 | .nilCheck x=>O' fr x fun a=>match a with
   | .pointer (some p)=>K (.pointer (some p))
   | _=>False
 | .makeInterface t x=>O' fr x fun a=>match P.underlying t with
   | some (.interface _)=>False
   | some _=>K (.iface t a)
   | none=>False
 | .makeFunc fn first cap=>HU fr first.toList fun vs=>HU fr cap.toList fun us=>K (.func fn vs.toArray us.toArray)
 | .load t a=>O' fr a fun p=>AJ P (Instr.loadAt t p) S H K
 | .index t x i=>O' fr x fun a=>O' fr i fun j=>AJ P (Instr.index t a j) S H K
 | .indexAddr t x i=>O' fr x fun a=>O' fr i fun j=>AJ P (Instr.indexAt t a j) S H K
 | .fieldAddr s x f=>O' fr x fun a=>AJ P (Instr.fieldAt s a f) S H K
 | .field t x f=>O' fr x fun a=>AJ P (Instr.field t a f) S H K
 | .slice t x lo hi mx=>O' fr x fun a=>Xl fr lo fun l=>Xl fr hi fun h=>Xl fr mx fun m=>AJ P (Instr.sliceAt t a l h m) S H K
 | .lookup t x i ok=>O' fr x fun a=>O' fr i fun j=>AJ P (Instr.lookup t a j ok) S H K
 | .build t ps=>AcJ fr ps.toList fun vs=>AJ P (Instr.build t vs.toArray) S H K
 | .typeAssert x t a ok=>O' fr x fun v=>AJ P (Instr.typeAssert v t a ok) S H K
 | .call {callee:=.builtin .len,args,argTypes}=>HU fr args.toList fun vs=>
   match argTypes.toList with
   | [t]=>match Rr (P.underlying t) vs with
     | some v=>K v
     | none=>AJ P (Builtin.len_ argTypes o.type vs.toArray) S H K
   | _=>AJ P (Builtin.len_ argTypes o.type vs.toArray) S H K
 | .call {callee:=.builtin .cap,args,argTypes}=>HU fr args.toList fun vs=>AJ P (Builtin.cap_ argTypes o.type vs.toArray) S H K
 | .call {callee:=.builtin .min,args,argTypes}=>HU fr args.toList fun vs=>AJ P (Builtin.min_ argTypes o.type vs.toArray) S H K
 | .call {callee:=.builtin .max,args,argTypes}=>HU fr args.toList fun vs=>AJ P (Builtin.max_ argTypes o.type vs.toArray) S H K
 | _=>False
def Mp(o:Oper):Bool:=
 match o.op with
 | .move _ | .assign _ | .pick .. | .binOp .. | .unOp .. | .convert .. | .extract .. | .nilCheck _ | .makeInterface .. | .makeFunc .. | .load .. | .index ..
 | .indexAddr .. | .fieldAddr .. | .field .. | .slice .. | .lookup .. | .build .. | .typeAssert .. =>true
 | .call {callee:=.builtin .len, .. } | .call {callee:=.builtin .cap, .. } | .call {callee:=.builtin .min, .. } | .call {callee:=.builtin .max, .. }=>true
 | _=>false
section
variable{P:w_}
theorem AJ.out{m:Sem v_}{S:Nat→Prop}{H:Aa}{K:v_→Prop}(h:AJ P m S H K):
  ∃v,(∀w:y_,C_ S H w.heap→m.run P w= .ok v w)∧K v:=by exact h.out_
theorem BF{m:Sem v_}{v:v_}{w w':y_}(h:m.run P w= .ok v w'):
  (do pure (Next.value (←m)):Sem Next).run P w= .ok (.value v) w':=by simp[h]
theorem AaL{m:Sem Unit}{w w':y_}(h:m.run P w= .ok () w'):
  (do m;pure Next.skip:Sem Next).run P w= .ok .skip w':=by simp[h]
theorem Em{S:Nat→Prop}{o:Oper}{fr:Fr}{H:Aa}{K:v_→Prop}(h:Ph P S o fr H K):
  ∃v,(∀w:y_,C_ S H w.heap→(execOp (evF fr) o).run P w= .ok (.value v) w)∧K v:=by
 unfold Ph at h;split at h<;>rename_i ho<;>simp only[Ja,JM,VN,QY]at h
 all_goals simp only[execOp,ho]
 case h_1=>exact⟨_,fun w _=>by simp,h⟩
 case h_2=>exact⟨_,fun w _=>by simp,h⟩
 case h_3=>
  split at h
  ·rename_i b g;cases b
   ·exact⟨_,fun w _=>by simp[g,asBool],h⟩
   ·exact⟨_,fun w _=>by simp[g,asBool],h⟩
  ·exact h.elim
 case h_4=>
  split at h
  ·rename_i v a;exact⟨v,fun w _=>BF (So a w),h⟩
  ·have⟨v,a,k⟩:=h.out;exact⟨v,fun w c=>BF (a w c),k⟩
 case h_5=>
  split at h
  ·rename_i v a;exact⟨v,fun w _=>BF (Vx a w),h⟩
  ·have⟨v,a,k⟩:=h.out;exact⟨v,fun w c=>BF (a w c),k⟩
 case h_6=>
  split at h
  ·rename_i v a;exact⟨v,fun w _=>BF (QR a w),h⟩
  ·have⟨v,a,k⟩:=h.out;exact⟨v,fun w c=>BF (a w c),k⟩
 case h_7=>
  split at h
  ·split at h
   ·rename_i vs f _ v a;refine⟨v,fun w _=>BF ?_,h⟩;simp at a;simp[Instr.extract,f,a]
   ·exact h.elim
  ·exact h.elim
 case h_8=>
  split at h
  ·rename_i p i;exact⟨_,fun w _=>by simp[i],h⟩
  ·exact h.elim
 case h_9=>
  split at h
  ·exact h.elim
  ·rename_i d j l;refine⟨_,fun w _=>BF ?_,h⟩;cases d<;>first | (exact(j _ rfl).elim) | simp[Instr.makeInterface,run_underlying l]
  ·exact h.elim
 case h_10=>
  refine⟨_,fun w _=>BF ?_,h⟩;simp only[←Yae,Yad];simp[Instr.makeFunc]
 all_goals try
  have⟨v,a,k⟩:=h.out;exact⟨v,fun w c=>BF (a w c),k⟩
 case h_18=>
  have⟨v,a,k⟩:=h.out;simp only[←Yae,Yad]at a;exact⟨v,fun w c=>BF (a w c),k⟩
 all_goals simp only[←Yae,Yad]at h
 case h_20=>
  split at h
  ·rename_i t n;split at h
   ·rename_i v a;refine⟨v,fun w _=>BF (m:=Builtin.len_ _ _ _) ?_,h⟩;have e:∀{A:Array x_},A.toList=[t]→A= #[t]:=fun h=>AkI (by simpa using h);obtain rfl:=e n;have q:=SW (ty:=o.type) a w;rwa [Yad]at q
   ·have⟨v,a,k⟩:=h.out;exact⟨v,fun w c=>BF (m:=Builtin.len_ _ _ _) (a w c),k⟩
  ·have⟨v,a,k⟩:=h.out;exact⟨v,fun w c=>BF (m:=Builtin.len_ _ _ _) (a w c),k⟩
 case h_21=>
  have⟨v,a,k⟩:=h.out;exact⟨v,fun w c=>BF (m:=Builtin.cap_ _ _ _) (a w c),k⟩
 case h_22=>
  have⟨v,a,k⟩:=h.out;exact⟨v,fun w c=>BF (m:=Builtin.min_ _ _ _) (a w c),k⟩
 case h_23=>
  have⟨v,a,k⟩:=h.out;exact⟨v,fun w c=>BF (m:=Builtin.max_ _ _ _) (a w c),k⟩
 all_goals exact h.elim
end
structure JY(P:w_)(t:x_)(x:v_)(name:String)(args:Array v_)(H:Aa)(K:v_→Aa→Prop):Prop where
 in_::
 out_:∃f as1,(∀w:y_,w.heap=H→(callMethod (.iface t x) name args).run P w= .ok (.enter f as1) w)∧Ak P f as1 H K
def V9(P:w_)(q:Bool)(S:Nat→Prop)(f:v_)(args:List v_)(H:Aa)(K:v_→Aa→Prop):Prop:=
 match f with
 | .func (.func g) first cap=>match q with
   | true=>Ki P g (first.toList++args++cap.toList).toArray S H fun v=>K v H
   | false=>Ae P g (first.toList++args++cap.toList).toArray H K
 | _=>False
def AgC(P:w_)(o:Oper)(fr:Fr)(H:Aa)(K:v_→Aa→Prop):Prop:=
 match o.op with
 | .alloc t=>BH P (Instr.alloc t true (.tuple #[])) H K
 | .box t x=>O' fr x fun v=>BH P (Instr.box t v) H K
 | .buildSlice t n ps=>AcJ fr ps.toList fun vs=>BH P (Instr.buildSlice t n vs.toArray) H K
 | .store t a x=>O' fr a fun p=>O' fr x fun v=>CN P (Instr.storeAt t p v) H fun H'=>K undef H'
 | .makeMap t r=>Xl fr r fun v=>BH P (Instr.makeMap t v) H K
 | .makeSlice t l c=>O' fr l fun n=>O' fr c fun m=>BH P (Instr.makeSlice t n m) H K
 | .mapUpdate t m k x=>O' fr m fun r=>O' fr k fun j=>O' fr x fun v=>CN P (Instr.mapUpdate t r j v) H fun H'=>K undef H'
 | .insert t m k x=>O' fr m fun r=>O' fr k fun j=>O' fr x fun v=>CN P (Instr.mapUpdate t r j v) H fun H'=>K undef H'
 | .mapEntry t m k=>O' fr m fun r=>O' fr k fun j=>BH P (Instr.mapEntry t r j) H K
 | .entryStore t m s x=>O' fr m fun r=>O' fr s fun j=>O' fr x fun v=>CN P (Instr.entryStore t r j v) H fun H'=>K undef H'
 | .range t x=>O' fr x fun v=>BH P (Instr.range t v) H K
 | .next it s=>O' fr it fun v=>BH P (Instr.next v s o.type) H K
 | .entry it=>O' fr it fun v=>BH P (Instr.entry v) H K
 | .convert s d x=>O' fr x fun v=>BH P (convert s d v) H K
 | .call {callee:=.builtin .append,args,argTypes}=>HU fr args.toList fun vs=>BH P (Builtin.append_ argTypes o.type vs.toArray) H K
 | .call {callee:=.builtin .copy,args,argTypes}=>HU fr args.toList fun vs=>BH P (Builtin.copy_ argTypes o.type vs.toArray) H K
 | .call {callee:=.builtin .delete,args,argTypes}=>HU fr args.toList fun vs=>BH P (Builtin.delete_ argTypes o.type vs.toArray) H K
 | .call {callee:=.builtin .clear,args,argTypes}=>HU fr args.toList fun vs=>BH P (Builtin.clear_ argTypes o.type vs.toArray) H K
 | .call {callee:=.invoke r name,args, .. }=>O' fr r fun v=>HU fr args.toList fun vs=>match v with
   | .iface t x=>JY P t x name vs.toArray H K
   | _=>False
 | .call {callee:=.value f,args, .. }=>O' fr f fun g=>HU fr args.toList fun vs=>V9 P false (fun _=>True) g vs H K
 | _=>False
def GJ(P:w_)(o:Oper):Bool:=
 match o.op with
 | .convert s d _=>match P.underlying s,P.underlying d with
   | some (.slice _),_=>false
   | some .string,some (.slice _)=>false
   | _,_=>true
 | _=>true
def opK(P:w_)(q:Bool)(S:Nat→Prop)(o:Oper)(fr:Fr)(H:Aa)(K:v_→Aa→Prop):Prop:=
 match Mp o&&GJ P o with
 | true=>Ph P S o fr H fun v=>K v H
 | false=>match q with
   | true=>match o.op with
     | .call {callee:=.value f,args, .. }=>O' fr f fun g=>HU fr args.toList fun vs=>V9 P true S g vs H K
     | _=>False
   | false=>AgC P o fr H K
section
variable{P:w_}
theorem BH.out{m:Sem v_}{H:Aa}{K:v_→Aa→Prop}(h:BH P m H K):
  ∀w:y_,w.heap=H→∃v a,m.run P w= .ok v a∧d_ w a∧K v a.heap:=by exact h.out_
theorem CN.out{m:Sem Unit}{H:Aa}{K:Aa→Prop}(h:CN P m H K):
  ∀w:y_,w.heap=H→∃a,m.run P w= .ok () a∧d_ w a∧K a.heap:=by exact h.out_
theorem Ae.out{f:FuncId}{a:Array v_}{H:Aa}{K:v_→Aa→Prop}(h:Ae P f a H K):Ak P f a H K:=by
 exact h.out_
theorem Ki.out{f:FuncId}{a:Array v_}{S:Nat→Prop}{H:Aa}{K:v_→Prop}(h:Ki P f a S H K):
  ∃v,(∀H',C_ S H H'→Ak P f a H' fun b H''=>b=v∧C_ S H' H'')∧K v:=by exact h.out_
theorem JY.out{t:x_}{x:v_}{a:String}{b:Array v_}{H:Aa}{K:v_→Aa→Prop}(h:JY P t x a b H K):
  ∃f c,(∀w:y_,w.heap=H→(callMethod (.iface t x) a b).run P w= .ok (.enter f c) w)∧Ak P f c H K:=by exact h.out_
theorem JY.mk{t:x_}{x:v_}{a:String}{b:Array v_}{H:Aa}{K R:v_→Aa→Prop}(f:FuncId)(c:Array v_)
  (d:∀w:y_,(callMethod (.iface t x) a b).run P w= .ok (.enter f c) w) (h:Ak P f c H R) (k:∀v H',R v H'→K v H'):JY P t x a b H K:=by
 exact⟨⟨f,c,fun w _=>d w,h.mono k⟩⟩
end
def TY(P:w_)(o:Oper)(a:Act)(w:y_)(K:v_→Aa→Prop):Prop:=
 ∀Q:Exit→Act→y_→Prop,o.wp P a w (fun a' w'=>∃v,a'=a.put o.dst v∧d_ w w'∧K v w'.heap) Q
section
variable{P:w_}{o:Oper}
theorem O1{a:Act}{w w':y_}{K:v_→Aa→Prop}{v:v_}
  (h:(execOp a.eval o).run P w= .ok (.value v) w') (b:d_ w w') (k:K v w'.heap):TY P o a w K:=by
 intro Q;unfold Oper.wp;rw[h];exact⟨v,rfl,b,k⟩
theorem XA{a:Act}{w w':y_}{K:v_→Aa→Prop}
  (h:(execOp a.eval o).run P w= .ok .skip w') (b:d_ w w') (k:K undef w'.heap):TY P o a w K:=by
 intro Q;unfold Oper.wp;rw[h];exact⟨undef,rfl,b,k⟩
theorem O0{a:Act}{w:y_}{K:v_→Aa→Prop}{f:FuncId}{b:Array v_}
  (h:(execOp a.eval o).run P w=(callFunc f b).run P w) (k:Ak P f b w.heap K):TY P o a w K:=by
 intro Q;unfold Oper.wp;rw[h,(k w rfl).1];refine(k w rfl).2.mono ?_;rintro e g ⟨v,rfl,c,d⟩;exact⟨v,rfl,c,d⟩
theorem Uz{fr:Fr}{a:Act}{w:y_}{K:v_→Aa→Prop}(j:At fr a)
  (h:AgC P o fr w.heap K):TY P o a w K:=by
 have i:=j.evalF;unfold AgC at h;split at h<;>rename_i ho<;>try simp only[Ja,JM,VN,QY,←Yae,Yad]at h
 all_goals try (
  have⟨v,n,k,d,l⟩:=h.out w rfl;exact O1 (by rw[i];simp only[execOp,ho];exact BF k) d l)
 all_goals try (
  have⟨n,k,d,l⟩:=h.out w rfl;exact XA (by rw[i];simp only[execOp,ho];exact AaL k) d l)
 case h_19=>
  split at h
  ·rename_i t x p;have⟨f,q,r,m⟩:=h.out;refine O0 ?_ m;rw[i];simp only[execOp,ho,resolve,p];rw[(m w rfl).1,←r w rfl];have s:∀A:Array v_,(#[Value.iface t x]++A)[0]?=some (Value.iface t x):=fun A=>by simp[Array.getElem?_append]
   rename_i b c _;have e2:(AkS (evF fr) b).extract 0 b.size=AkS (evF fr) b:=by
    rw[show b.size=(AkS (evF fr) b).size by simp];exact Array.extract_size
   simp[invoke,s,e2]
  ·exact h.elim
 case h_20=>
  unfold V9 at h;rename_i y b c;split at h
  ·rename_i g first cap u
   refine O0 ?_ h.out;rw[i];have e:(first.toList++(AkS (evF fr) b).toList++cap.toList).toArray=first++AkS (evF fr) b++cap:=AkI (by simp)
   rw[e];simp only[execOp,ho,resolve,u,Deferred.ofValue];simp[invoke]
  ·exact h.elim
 all_goals exact h.elim
theorem D0{fr:Fr}{a:Act}{w:y_}{K:v_→Aa→Prop}(b:At fr a)
  (h:opK P false (fun _=>True) o fr w.heap K):TY P o a w K:=by
 unfold opK at h;split at h
 ·have⟨v,c,d⟩:=Em h;exact O1 (by rw[b.evalF];exact c w (C_.refl _ _)) (d_.refl w) d
 ·exact Uz b h
end
def Cls(w0:y_)(S:Nat→Prop)(w:y_):Prop:=d_ w0 w∧C_ S w0.heap w.heap
theorem X9{P:w_}{S:Nat→Prop}{o:Oper}{fr:Fr}{a:Act}{w0:y_}{K:v_→Aa→Prop}(d:At fr a)
  (h:opK P true S o fr w0.heap K):∃v,(∀w,Cls w0 S w→o.quietAt P a (Cls w0 S) w v)∧K v w0.heap:=by
 unfold opK at h;split at h
 ·have⟨v,l,k⟩:=Em h;refine⟨v,fun w i=>?_,k⟩;unfold Oper.quietAt;rw[d.evalF,l w i.2];exact⟨rfl,rfl⟩
 ·dsimp only at h;split at h
  ·rename_i f b c m;simp only[Ja,JM,←Yae]at h;unfold V9 at h;split at h
   ·rename_i g first cap n
    have⟨v,p,k⟩:=h.out;refine⟨v,fun w i=>?_,k⟩;have⟨q,r⟩:=p w.heap i.2 w rfl;have s:(execOp a.eval o).run P w=(callFunc g (first.toList++(AkS (evF fr) b).toList++cap.toList).toArray).run P w:=by
     rw[d.evalF];have e:(first.toList++(AkS (evF fr) b).toList++cap.toList).toArray=first++AkS (evF fr) b++cap:=AkI (by simp)
     rw[e];simp only[execOp,m,resolve,n,Deferred.ofValue];simp[invoke]
    unfold Oper.quietAt;rw[s,q];refine⟨rfl,r.mono ?_⟩;rintro e u ⟨x,rfl,j,rfl,t⟩;exact⟨rfl,i.1.trans j,i.2.trans t⟩
   ·exact h.elim
  ·exact h.elim
def apK(K:Fr→Aa→Prop)(fr:Fr)(H:Aa):Prop:=K fr H
def Rj(P:w_)(q:Bool)(S:Nat→Prop)(o:Oper)(want:Bool)(t:Nat)(fr:Fr)(H:Aa)(K:Fr→Aa→Prop):Prop:=
 rdK fr t fun v=>match v with
  | .bool b=>AG b
    (wrK fr t (.bool true) fun fr1=>match want with
     | true=>opK P q S o fr1 H fun v H'=>Db o.dst fr1 v fun fr'=>apK K fr' H'
     | false=>Db o.dst fr1 undef fun fr'=>apK K fr' H)
    (wrK fr t (.bool false) fun fr1=>match want with
     | false=>opK P q S o fr1 H fun v H'=>Db o.dst fr1 v fun fr'=>apK K fr' H'
     | true=>Db o.dst fr1 undef fun fr'=>apK K fr' H)
  | .tuple _=>Db o.dst fr undef fun fr'=>apK K fr' H
  | _=>False
def Lh(P:w_)(q:Bool)(S:Nat→Prop)(all:List Oper)(l:List Oper):Fr→Aa→(Fr→Aa→Prop)→Prop:=
 AkR (motive:=fun _=>Fr→Aa→(Fr→Aa→Prop)→Prop) (fun fr H K=>K fr H) (fun o _ ih fr H K=>
  match o.guard with
  | none=>opK P q S o fr H fun v H'=>Db o.dst fr v fun fr'=>ih fr' H' K
  | some (j,want)=>match(all[j]?).bind (·.dst)with
    | none=>False
    | some t=>Rj P q S o want t fr H fun fr' H'=>ih fr' H' K) l
theorem PY(P:w_)(q:Bool)(S:Nat→Prop)(all rest:List Oper)(o:Oper)(fr:Fr)(H:Aa)(K:Fr→Aa→Prop):Lh P q S all (o::rest) fr H K=
  (match o.guard with
  | none=>opK P q S o fr H fun v H'=>Db o.dst fr v fun a=>Lh P q S all rest a H' K
  | some (j,want)=>match(all[j]?).bind (·.dst)with
    | none=>False
    | some t=>Rj P q S o want t fr H fun a H'=>Lh P q S all rest a H' K):=rfl
theorem Ez{fr:Fr}{t:Nat}{v:v_}(h:rd fr t=v)(b:v≠undef):fr.set t v=fr:=by
 unfold rd at h;rcases YbC t fr.length with a | a
 ·rw[YaD,N' a]at h;subst h;exact Ybc a
 ·rw[YaD,YaL a]at h;exact absurd h.symm b
theorem I1{c:List Oper}{fr:Fr}{a:Act}(e:At fr a){j t:Nat}(f:(c[j]?).bind (·.dst)=some t){b:Bool}(d:rd fr t= .bool b):
  yielded c.toArray a.tmps j=some b:=by
 obtain⟨rfl,_⟩:=e;unfold yielded;have:((c.toArray[j]?).bind (·.dst))=some t:=by simpa using f
 rw[this];unfold rd at d;rw[YaD]at d;simp only[YbP];cases h:a.tmps[t]? with
 | none=>simp[h,undef]at d
 | some v=>simp[h]at d;simp[d]
theorem I3{b:List Oper}{fr:Fr}{a:Act}(d:At fr a){j t:Nat}(e:(b[j]?).bind (·.dst)=some t){vs:Array v_}(c:rd fr t= .tuple vs):
  yielded b.toArray a.tmps j=none:=by
 obtain⟨rfl,_⟩:=d;unfold yielded;have:((b.toArray[j]?).bind (·.dst))=some t:=by simpa using e
 rw[this];unfold rd at c;rw[YaD]at c;simp only[YbP];cases h:a.tmps[t]? with
 | none=>rfl
 | some v=>simp[h]at c;simp[c]
theorem KC{P:w_}{all:List Oper}{Q:Exit→Act→y_→Prop}:∀(l:List Oper) (fr:Fr) (a:Act) (w:y_) (K:Fr→Aa→Prop),At fr a→
  (∀d a' g,At d a'→d_ w g→K d g.heap→Q .normal a' g)→
  Lh P false (fun _=>True) all l fr w.heap K→wpList P all.toArray Q l a w
 | [],fr,a,w,K,hat,hq,h=>hq fr a w hat (d_.refl w) h
 | o::l,fr,a,w,K,hat,hq,h=>by
   have go:∀(c:Bool),(c=true→TY P o a w fun v H'=>Db o.dst fr v fun d=>Lh P false (fun _=>True) all l d H' K)→
     (c=false→Db o.dst fr undef fun d=>Lh P false (fun _=>True) all l d w.heap K)→
     Region.wanted o (yielded all.toArray a.tmps)=c→wpList P all.toArray Q (o::l) a w:=by
    intro c n p u;unfold wpList;rw[u];cases c with
    | true=>
      refine .inl (Oper.wp_mono ?_ (n rfl _));rintro a' g ⟨v,rfl,f,r⟩;rw[Ce]at r;exact KC l _ _ _ K (hat.put o.dst v) (fun d a' q n p i=>hq d a' q n (f.trans p) i) r
    | false=>
      have i:=p rfl;rw[Ce]at i;exact KC l _ _ _ K (hat.put o.dst undef) hq i
   rw[PY]at h;split at h
   ·rename_i e;exact go true (fun _=>D0 hat h) (fun h=>by cases h) (by simp[Region.wanted,e])
   ·rename_i j c e;split at h
    ·exact h.elim
    ·rename_i t s;unfold Rj at h;simp only[apK]at h;rw[DW]at h;split at h
     ·rename_i b k;have m:=I1 hat s k;have hs:fr.set t (.bool b)=fr:=Ez k (by simp[undef]);cases b<;>cases c<;>simp only[AG,F8,hs]at h
      ·exact go true (fun _=>D0 hat h) (fun h=>by cases h) (by simp[Region.wanted,e,m])
      ·exact go false (fun h=>by cases h) (fun _=>h) (by simp[Region.wanted,e,m])
      ·exact go false (fun h=>by cases h) (fun _=>h) (by simp[Region.wanted,e,m])
      ·exact go true (fun _=>D0 hat h) (fun h=>by cases h) (by simp[Region.wanted,e,m])
     ·rename_i vs k;exact go false (fun h=>by cases h) (fun _=>h) (by simp[Region.wanted,e,I3 hat s k])
     ·exact h.elim
theorem AeS{P:w_}{id:Nat}{l:List Oper}{Q:Exit→Act→y_→Prop}{fr:Fr}{a:Act}{w:y_}{K:Fr→Aa→Prop}(c:At fr a)
  (e:∀b a' d,At b a'→d_ w d→K b d.heap→Q .normal a' d)
  (h:Lh P false (fun _=>True) l l fr w.heap K):(Code.region id l.toArray false).wp P Q a w:=
 wp_region_lit (KC l fr a w K c e h)
theorem Ih{P:w_}{S:Nat→Prop}{all:List Oper}{w0:y_}:∀(l:List Oper) (fr:Fr) (a:Act) (K:Fr→Aa→Prop) (Q:Act→Prop),At fr a→
  (∀d a',At d a'→K d w0.heap→Q a')→
  Lh P true S all l fr w0.heap K→wpQuiet P all.toArray (Cls w0 S) Q l a
 | [],fr,a,K,Q,hat,hq,h=>hq fr a hat h
 | o::l,fr,a,K,Q,hat,hq,h=>by
   have go:∀(c:Bool),(c=true→opK P true S o fr w0.heap fun v H'=>Db o.dst fr v fun d=>Lh P true S all l d H' K)→
     (c=false→Db o.dst fr undef fun d=>Lh P true S all l d w0.heap K)→
     Region.wanted o (yielded all.toArray a.tmps)=c→wpQuiet P all.toArray (Cls w0 S) Q (o::l) a:=by
    intro c n p q;unfold wpQuiet;rw[q];cases c with
    | true=>
      have⟨v,r,i⟩:=X9 hat (n rfl);rw[Ce]at i;exact⟨v,r,Ih l _ _ K Q (hat.put o.dst v) hq i⟩
    | false=>
      have k:=p rfl;rw[Ce]at k;exact Ih l _ _ K Q (hat.put o.dst undef) hq k
   rw[PY]at h;split at h
   ·rename_i e;exact go true (fun _=>h) (fun h=>by cases h) (by simp[Region.wanted,e])
   ·rename_i j c e;split at h
    ·exact h.elim
    ·rename_i t m;unfold Rj at h;simp only[apK]at h;rw[DW]at h;split at h
     ·rename_i b f;have g:=I1 hat m f;have hs:fr.set t (.bool b)=fr:=Ez f (by simp[undef]);cases b<;>cases c<;>simp only[AG,F8,hs]at h
      ·exact go true (fun _=>h) (fun h=>by cases h) (by simp[Region.wanted,e,g])
      ·exact go false (fun h=>by cases h) (fun _=>h) (by simp[Region.wanted,e,g])
      ·exact go false (fun h=>by cases h) (fun _=>h) (by simp[Region.wanted,e,g])
      ·exact go true (fun _=>h) (fun h=>by cases h) (by simp[Region.wanted,e,g])
     ·rename_i vs f;exact go false (fun h=>by cases h) (fun _=>h) (by simp[Region.wanted,e,I3 hat m f])
     ·exact h.elim
structure Aq(P:w_)(l:List Oper)(fr:Fr)(H:Aa)(K:Fr→Aa→Prop):Prop where
 in_::
 out_:∀(id:Nat) (Q:Exit→Act→y_→Prop) (a:Act) (w:y_),At fr a→w.heap=H→(∀c a w,¬Q (.panic c) a w)→
  (∀fr' a' w',At fr' a'→d_ w w'→K fr' w'.heap→Q .normal a' w')→(Code.region id l.toArray true).wp P Q a w
theorem Aq.quiet{P:w_}{l:List Oper}{fr:Fr}{H:Aa}{K:Fr→Aa→Prop}(S:Nat→Prop)(f:P.follows .mixedOrders=true)
  (g:Region.lexB .any l.toArray=true) (h:Lh P true S l l fr H fun b _=>∀H',C_ S H H'→K b H'):Aq P l fr H K:=by
 refine⟨?_⟩;intro id Q a w e i _ j;subst i;refine wp_region_quiet (C:=Cls w S) f g ⟨⟨rfl,rfl,rfl⟩,C_.refl _ _⟩ ?_;exact Ih l fr a _ _ e (fun b a' c k m d=>j b a' m c d.1 (k _ d.2)) h
theorem AbO{H H':Aa}(h:C_ (fun _=>True) H H'):H'=H:=Array.ext_getElem? fun i=>h i trivial
theorem Aq.lex{P:w_}{l:List Oper}{fr:Fr}{H:Aa}{K:Fr→Aa→Prop}(f:P.follows .mixedOrders=true)
  (g:Region.lexB .any l.toArray=true) (h:Lh P true (fun _=>True) l l fr H K):Aq P l fr H K:=by
 refine⟨?_⟩;intro id Q a w d i _ j;subst i;refine wp_region_quiet (C:=Cls w fun _=>True) f g ⟨⟨rfl,rfl,rfl⟩,C_.refl _ _⟩ ?_;exact Ih l fr a K _ d (fun e a' b k m c=>j e a' m b c.1 (by rw[AbO c.2];exact k)) h
def OY(P:w_)(ops:Array Oper)(Q:Exit→Act→y_→Prop)(S:y_→Prop)(z:Nat):Nat→Array Bool→Act→y_→Prop
 | 0,listed,a,w=>Region.ready .any ops listed=[]∧Q .normal a w
 | fuel+1,listed,a,w=>
   (Region.ready .any ops listed=[]→Q .normal a w)∧
   ∀i∈Region.ready .any ops listed,wpOp P ops Q i (fun a' w'=>(i≠z→S w')∧OY P ops Q S z fuel (listed.setIfInBounds i true) a' w') a w
theorem OZ{P:w_}{d:Array Oper}{Q:Exit→Act→y_→Prop}{S:y_→Prop}{z:Nat}:∀(b:Nat) (c:Array Bool) (a:Act) (w:y_),
  OY P d Q S z b c a w→wpAny P .any d Q b c a w
 | 0,_,_,_,h=>h
 | b+1,_,_,_,h=>⟨h.1,fun i e=>wpOp_mono (fun a' f g=>OZ b _ a' f g.2) (h.2 i e)⟩
theorem RU{P:w_}{f:Array Oper}{Q:Exit→Act→y_→Prop}{S:y_→Prop}{z:Nat}{i:Nat}{x:Oper}{v:v_}(K:f[i]?=some x)
  (r:∀(j:Nat) (o:Oper) B b,f[j]?=some o→o.op≠ .select B b)
  (X:∀c a w,Q (.panic c) (a.put x.dst v) w→Q (.panic c) a w) (Y:i≠z) (Z:∀V,f[z]?=some V→∃e∈V.after,Region.binds .any e=true∧e.on=i):
  ∀(g:Nat) (d:Array Bool) (a:Act) (w:y_),
   (∀j s,f[j]?=some s→j≠i→d.getD j true=false→(∀e∈s.after,Region.binds .any e=true→e.on≠i)→x.apart f s=true)→
   i∈Region.ready .any f d→YieldsIf P f S x v a→S w→
   OY P f Q S z g (d.setIfInBounds i true) (a.put x.dst v) w→OY P f Q S z (g+1) d a w:=by
 intro g
 induction g with
 | zero=>
   intro d a w _ y G C H;refine⟨fun h=>(by rw[h]at y;cases y),fun j I=>?_⟩;by_cases l:j=i
   ·subst l;exact G.wpOp K C ⟨fun _=>C,H⟩
   ·have:=ready_mono I l;rw[H.1]at this;cases this
 | succ g ih=>
   intro d a w m y G C H;refine⟨fun h=>(by rw[h]at y;cases y),fun j I=>?_⟩;by_cases l:j=i
   ·subst l;exact G.wpOp K C ⟨fun _=>C,H⟩
   ·have A:=H.2 j (ready_mono I l);have⟨t,s,n,D⟩:=mem_ready.1 I;have u:∀e∈s.after,Region.binds .any e=true→e.on≠i:=fun e L M N=>by
     have A:=D e L M;have W:=(mem_ready.1 y).1;rw[N]at A;rcases YbC i d.size with O | O
     ·simp[O]at W A;rw[W]at A;cases A
     ·simp[Yah O]at A
    have p:j≠z:=by
     intro p;subst p;have⟨e,L,M,R⟩:=Z s n;exact u e L M R
    have h2:=wpOp_putIf n (m j s n l t u) (fun B b=>r i x B b K) (fun B b=>r j s B b n) X G A;have q:∀k ok,f[k]?=some ok→k≠i→(d.setIfInBounds j true).getD k true=false→
      (∀e∈ok.after,Region.binds .any e=true→e.on≠i)→x.apart f ok=true:=fun k ok hk T E U=>by
     refine m k ok hk T ?_ U;by_cases F:j=k
     ·subst F;exact t
     ·rw[getD_set_ne true F]at E;exact E
    refine wpOp_mono (fun a' w' J=>⟨fun _=>J.2.1 p,ih (d.setIfInBounds j true) a' w' q (ready_mono y (Ne.symm l)) J.1 (J.2.1 p) ?_⟩) h2;rw[Yaj _ _ l];exact J.2.2
inductive Sch where
 | e
 | q (i:Nat) (s:Sch)
 | f (i:Nat) (s:Sch)
 | b (i:Nat) (s:Sch) (j:Nat) (s':Sch)
def sq:List Nat→Sch→Sch
 | [],s=>s
 | i::l,s=>.q i (sq l s)
def TI(P:w_)(S:Nat→Prop)(z:Nat)(H0:Aa)(all:List Oper)(i:Nat)(fr:Fr)(H:Aa)(next:Fr→Aa→Prop):Prop:=
 match all[i]? with
 | none=>False
 | some o=>match o.guard with
   | some _=>False
   | none=>match AlA i z with
     | true=>opK P false (fun _=>True) o fr H fun v H'=>Db o.dst fr v fun fr'=>next fr' H'
     | false=>opK P false (fun _=>True) o fr H fun v H'=>C_ S H0 H'∧Db o.dst fr v fun fr'=>next fr' H'
def SO(P:w_)(S:Nat→Prop)(z:Nat)(H0:Aa)(all:List Oper)(s:Sch):Fr→Aa→(Fr→Aa→Prop)→Prop:=
 Sch.rec (motive:=fun _=>Fr→Aa→(Fr→Aa→Prop)→Prop) (fun fr H K=>K fr H)
  (fun i _ ih fr H K=>match all[i]? with
   | none=>False
   | some o=>match o.guard with
     | some _=>False
     | none=>match Mp o&&GJ P o with
       | true=>Ph P S o fr H fun v=>Db o.dst fr v fun fr'=>ih fr' H K
       | false=>False)
  (fun i _ ih fr H K=>TI P S z H0 all i fr H fun fr' H'=>ih fr' H' K)
  (fun i _ j _ ih ih' fr H K=>(TI P S z H0 all i fr H fun fr' H'=>ih fr' H' K)∧TI P S z H0 all j fr H fun fr' H'=>ih' fr' H' K) s
theorem Ad2(P:w_)(S:Nat→Prop)(z:Nat)(H0:Aa)(all:List Oper)(i:Nat)(s:Sch)(fr:Fr)(H:Aa)(K:Fr→Aa→Prop):SO P S z H0 all (.q i s) fr H K=
  (match all[i]? with
   | none=>False
   | some o=>match o.guard with
     | some _=>False
     | none=>match Mp o&&GJ P o with
       | true=>Ph P S o fr H fun v=>Db o.dst fr v fun a=>SO P S z H0 all s a H K
       | false=>False):=rfl
def Jc(ops:Array Oper)(z:Nat):Sch→Array Bool→Bool
 | .e,listed=>(Region.ready .any ops listed).isEmpty
 | .q i s,listed=>(Region.ready .any ops listed).contains i&&Region.free .any ops listed i&& !(AlA i z)&&(decide (ops.size≤z)|| Region.waitsFor .any ops z i)&&Jc ops z s (listed.setIfInBounds i true)
 | .f i s,listed=>Region.ready .any ops listed==[i]&&(!(AlA i z)|| (match s with | .e=>true | _=>false))&&Jc ops z s (listed.setIfInBounds i true)
 | .b i s j s',listed=>Region.ready .any ops listed==[i,j]&& !(AlA i z)&& !(AlA j z)&&Jc ops z s (listed.setIfInBounds i true)&&Jc ops z s' (listed.setIfInBounds j true)
def Sch.len:Sch→Nat
 | .e=>0
 | .q _ s=>s.len+1
 | .f _ s=>s.len+1
 | .b _ s _ _=>s.len+1
def Sch.even:Sch→Bool
 | .e=>true
 | .q _ s=>s.even
 | .f _ s=>s.even
 | .b _ s _ s'=>s.even&&s'.even&&s.len==s'.len
theorem Jz{P:w_}{S:Nat→Prop}{z:Nat}{w0:y_}{all:List Oper}{Q:Exit→Act→y_→Prop}{i:Nat}{fr:Fr}{a:Act}{w:y_}{next:Fr→Aa→Prop}{N:Act→y_→Prop}
  (c:At fr a) (k:d_ w0 w) (h:TI P S z w0.heap all i fr w.heap next)
  (n:∀f a' e,At f a'→d_ w0 e→(i≠z→Cls w0 S e)→next f e.heap→N a' e):wpOp P all.toArray Q i N a w:=by
 unfold TI at h;split at h
 ·exact h.elim
 ·rename_i o p;have l:all.toArray[i]?=some o:=by simpa using p
  split at h
  ·exact h.elim
  ·rename_i q;have d:Region.wanted o (yielded all.toArray a.tmps)=true:=by simp[Region.wanted,q]
   unfold wpOp;rw[l];dsimp only;rw[F_ d];split at h
   ·rename_i r;refine .inl (Oper.wp_mono ?_ (D0 c h _));rintro a' e ⟨v,rfl,b,g⟩;rw[Ce]at g;exact n _ _ _ (c.put o.dst v) (k.trans b) (fun m=>absurd (Yb9 r) m) g
   ·refine .inl (Oper.wp_mono ?_ (D0 c h _));rintro a' e ⟨v,rfl,b,j,g⟩;rw[Ce]at g;exact n _ _ _ (c.put o.dst v) (k.trans b) (fun _=>⟨k.trans b,j⟩) g
theorem Fl{P:w_}{S:Nat→Prop}{z:Nat}{w0:y_}{all:List Oper}{Q:Exit→Act→y_→Prop}(hs:Region.noSelect all.toArray=true)
  (C:∀c a w,¬Q (.panic c) a w):∀(l:Sch) (d:Array Bool) (fr:Fr) (a:Act) (w:y_) (K:Fr→Aa→Prop),At fr a→(l= .e→d_ w0 w)→(l≠ .e→Cls w0 S w)→
  (∀m a' g,At m a'→d_ w0 g→K m g.heap→Q .normal a' g)→Jc all.toArray z l d=true→l.even=true→
  SO P S z w0.heap all l fr w.heap K→OY P all.toArray Q (Cls w0 S) z l.len d a w
 | .e,d,fr,a,w,K,hat,J,_,hq,hB,_,h=>⟨by simpa [Jc]using hB,hq fr a w hat (J rfl) h⟩
 | .q i s,d,fr,a,w,K,hat,_,p,hq,hB,hev,h=>by
   have p:=p (by simp);simp only[Jc,r_,Yay,Zzj,Yax]at hB;obtain⟨⟨⟨⟨y,t⟩,L⟩,D⟩,n⟩:=hB;rw[Ad2]at h;split at h
   ·exact h.elim
   ·rename_i o W;have E:all.toArray[i]?=some o:=by simpa using W
    split at h
    ·exact h.elim
    ·rename_i X;have A:Region.wanted o (yielded all.toArray a.tmps)=true:=by simp[Region.wanted,X]
     split at h
     ·have⟨v,Y,r⟩:=Em h;rw[Ce]at r;refine RU (v:=v) E (Region.noSelect_spec hs) (fun c a' g Z=>(C _ _ _ Z).elim) (Yb0 L) ?_ s.len d a w (Region.free_spec E t) (by simpa using y)
       (.inl ⟨A,fun g M=>?_⟩) p ?_
      ·intro oz B;rcases D with D | D
       ·rw[Yah D]at B;cases B
       ·have⟨oj,N,e,J,hb,O⟩:=Region.waitsFor_spec D;have:oj=oz:=Option.some.inj (N.symm.trans B);subst this;exact⟨e,J,hb,O⟩
      ·rw[hat.evalF];exact Y g fun k r=>(M.2 k r).trans (p.2 k r).symm
      ·exact Fl hs C s _ _ _ w K (hat.put o.dst v) (fun _=>p.1) (fun _=>p) hq n hev r
     ·exact h.elim
 | .f i s,d,fr,a,w,K,hat,_,p,hq,hB,hev,h=>by
   have u:=p (by simp);simp only[Jc,r_,Yay,Yax,beq_iff_eq]at hB;obtain⟨⟨y,t⟩,n⟩:=hB;refine⟨(fun F=>by rw[y]at F;cases F),fun j V=>?_⟩;rw[y]at V;obtain rfl:j=i:=by simpa using V
   refine Jz hat u.1 h fun m a' g G H x I=>⟨x,Fl hs C s _ _ _ g K G (fun _=>H) (fun R=>x fun T=>?_) hq n hev I⟩;rcases t with t | t
   ·exact Yb0 t T
   ·cases s<;>first | exact R rfl | cases t
 | .b i s j s',d,fr,a,w,K,hat,_,p,hq,hB,hev,h=>by
   have u:=p (by simp);simp only[Jc,r_,Yax,beq_iff_eq]at hB;obtain⟨⟨⟨⟨y,t⟩,L⟩,n⟩,U⟩:=hB;simp only[Sch.even,r_,beq_iff_eq]at hev;obtain⟨⟨e1,e2⟩,e3⟩:=hev;refine⟨(fun F=>by rw[y]at F;cases F),fun k r=>?_⟩;rw[y]at r;rcases YaP.1 r with rfl | r
   ·exact Jz hat u.1 h.1 fun m a' g G H x I=>⟨x,Fl hs C s _ _ _ g K G (fun _=>H) (fun _=>x (Yb0 t)) hq n e1 I⟩
   ·obtain rfl:k=j:=by simpa using r
    rw[e3];exact Jz hat u.1 h.2 fun m a' g G H x I=>⟨x,Fl hs C s' _ _ _ g K G (fun _=>H) (fun _=>x (Yb0 L)) hq U e2 I⟩
section
variable{P:w_}{l:List Oper}{fr:Fr}{H:Aa}{K:Fr→Aa→Prop}
theorem Aq.held(S:Nat→Prop)(z:Nat)(b:Sch)(e:P.follows .mixedOrders=true)
  (c:(Region.noSelect l.toArray&&(b.len==l.length)&&b.even&&Jc l.toArray z b (Ak4 l.length false))=true)
  (h:SO P S z H l b fr H K):Aq P l fr H K:=by
 refine⟨?_⟩;intro id Q a w d f g i;subst f;simp only[r_,beq_iff_eq]at c;refine wp_region_any e (OZ (S:=Cls w S) (z:=z) _ _ _ _ ?_);have:=Fl (P:=P) (S:=S) (z:=z) (w0:=w) (Q:=Q) c.1.1.1 g b (Ak4 l.length false) fr a {w with drawn:=w.drawn+1} K d (fun _=>⟨rfl,rfl,rfl⟩) (fun _=>⟨⟨rfl,rfl,rfl⟩,C_.refl _ _⟩) i c.2 c.1.2 h;rw[c.1.1.2]at this;simpa using this
theorem Aq.tail(z:Nat)(a:Sch)(b:P.follows .mixedOrders=true)
  (c:(Region.noSelect l.toArray&&(a.len==l.length)&&a.even&&Jc l.toArray z a (Ak4 l.length false))=true)
  (h:SO P (fun _=>True) z H l a fr H K):Aq P l fr H K:=Aq.held _ z a b c h
theorem Aq.out(h:Aq P l fr H K):
  ∀(id:Nat) (Q:Exit→Act→y_→Prop) (a:Act) (w:y_),At fr a→w.heap=H→(∀c a w,¬Q (.panic c) a w)→
  (∀b a' d,At b a'→d_ w d→K b d.heap→Q .normal a' d)→(Code.region id l.toArray true).wp P Q a w:=by
 exact h.out_
end
def Hd(w0:y_)(Q:Exit→Fr→Aa→Prop):Exit→Act→y_→Prop
 | .panic _,_,_=>False
 | .outgrown,_,_=>False
 | e,a,w=>∃fr,At fr a∧d_ w0 w∧Q e fr w.heap
def PD(X:List (Nat×(Fr→Aa→Prop)))(id:Nat)(fr:Fr)(H:Aa):Prop:=
 match X with
 | []=>False
 | (j,k)::X=>match AlA j id with
   | true=>k fr H
   | false=>PD X id fr H
def Qx(kn:Fr→Aa→Prop)(X:List (Nat×(Fr→Aa→Prop)))(kr:Fr→Aa→Prop)(e:Exit)(fr:Fr)(H:Aa):Prop:=
 match e with
 | .normal=>kn fr H
 | .exit id=>PD X id fr H
 | .ret=>kr fr H
 | _=>False
structure A0(P:w_)(c:Code)(fr:Fr)(H:Aa)(X:List (Nat×(Fr→Aa→Prop)))(kr:Fr→Aa→Prop):Prop where
 in_::
 out_:∀(a:Act) (w:y_),At fr a→w.heap=H→(Code.loop c).wp P (Hd w (Qx (fun _ _=>False) X kr)) a w
def Kx:Code→Bool
 | .ret | .exit _ | .goto _=>false
 | .seq a b=>Kx a&&Kx b
 | .cond _ a b=>Kx a|| Kx b
 | _=>true
def HW(id:Nat):Code→Nat
 | .exit j=>match AlA j id with
   | true=>1
   | false=>0
 | .seq a b=>HW id a+HW id b
 | .cond _ a b=>HW id a+HW id b
 | .block _ c=>HW id c
 | .loop c=>HW id c
 | _=>0
def LE:Code→Bool
 | .seq _ b=>LE b
 | .cond _ a b=>Kx a&&Kx b
 | .block id (.loop c)=>Nat.blt 1 (HW id c)
 | .block id c=>(Kx c&&Nat.blt 0 (HW id c))|| Nat.blt 1 (HW id c)|| LE c
 | _=>false
structure An(P:w_)(x y:Code)(fr:Fr)(H:Aa)(kn:Fr→Aa→Prop)(X:List (Nat×(Fr→Aa→Prop)))(kr:Fr→Aa→Prop):Prop where
 in_::
 out_:∀(a:Act) (w:y_),At fr a→w.heap=H→(Code.seq x y).wp P (Hd w (Qx kn X kr)) a w
def vc(P:w_)(c:Code):Fr→Aa→(Fr→Aa→Prop)→List (Nat×(Fr→Aa→Prop))→(Fr→Aa→Prop)→Prop:=
 Code.rec (motive:=fun _=>Fr→Aa→(Fr→Aa→Prop)→List (Nat×(Fr→Aa→Prop))→(Fr→Aa→Prop)→Prop)
  (fun fr H kn _ _=>kn fr H)
  (fun _ ops draw fr H kn _ _=>match draw with
   | false=>Lh P false (fun _=>True) ops.toList ops.toList fr H kn
   | true=>Aq P ops.toList fr H kn)
  (fun a b iha ihb fr H kn X kr=>match LE a with
   | true=>An P a b fr H kn X kr
   | false=>iha fr H (fun fr' H'=>ihb fr' H' kn X kr) X kr)
  (fun c _ _ ihx ihy fr H kn X kr=>match c with
   | .tmp t=>rdK fr t fun v=>match v with
     | .bool b=>AG b (wrK fr t (.bool true) fun fr1=>ihx fr1 H kn X kr) (wrK fr t (.bool false) fun fr1=>ihy fr1 H kn X kr)
     | _=>False
   | .const (.bool b)=>AG b (ihx fr H kn X kr) (ihy fr H kn X kr)
   | _=>False)
  (fun id _ ih fr H kn X kr=>ih fr H kn ((id,kn)::X) kr)
  (fun c _ fr H _ X kr=>A0 P c fr H X kr)
  (fun _ _ _ _ _ _ _ _ _ _ _=>False)
  (fun id fr H _ X _=>PD X id fr H)
  (fun _ _ _ _ _ _ _=>False)
  (fun _ _ _ _ _ _=>False)
  (fun _ _ _ _ _ _=>False)
  (fun fr H _ _ kr=>kr fr H)
  (fun _ _ _ _ _ _=>False) c
section
variable(P:w_)(a b:Code)(fr:Fr)(H:Aa)(kn:Fr→Aa→Prop)(X:List (Nat×(Fr→Aa→Prop)))(kr:Fr→Aa→Prop)
theorem Yo(id:Nat)(a:Array Oper)(b:Bool):vc P (.region id a b) fr H kn X kr=(match b with
   | false=>Lh P false (fun _=>True) a.toList a.toList fr H kn
   | true=>Aq P a.toList fr H kn):=rfl
theorem AhR:vc P (.seq a b) fr H kn X kr=(match LE a with
   | true=>An P a b fr H kn X kr
   | false=>vc P a fr H (fun c H'=>vc P b c H' kn X kr) X kr):=rfl
theorem AeR(c:z_):vc P (.cond c a b) fr H kn X kr=(match c with
   | .tmp t=>rdK fr t fun v=>match v with
     | .bool x=>AG x (wrK fr t (.bool true) fun d=>vc P a d H kn X kr) (wrK fr t (.bool false) fun d=>vc P b d H kn X kr)
     | _=>False
   | .const (.bool x)=>AG x (vc P a fr H kn X kr) (vc P b fr H kn X kr)
   | _=>False):=rfl
theorem AbD(id:Nat):vc P (.block id a) fr H kn X kr=vc P a fr H kn ((id,kn)::X) kr:=rfl
end
theorem A0.out{P:w_}{c:Code}{fr:Fr}{H:Aa}{X:List (Nat×(Fr→Aa→Prop))}{kr:Fr→Aa→Prop}(h:A0 P c fr H X kr):
  ∀(a:Act) (w:y_),At fr a→w.heap=H→(Code.loop c).wp P (Hd w (Qx (fun _ _=>False) X kr)) a w:=by exact h.out_
theorem An.out{P:w_}{x y:Code}{fr:Fr}{H:Aa}{kn:Fr→Aa→Prop}{X:List (Nat×(Fr→Aa→Prop))}{kr:Fr→Aa→Prop}(h:An P x y fr H kn X kr):
  ∀(a:Act) (w:y_),At fr a→w.heap=H→(Code.seq x y).wp P (Hd w (Qx kn X kr)) a w:=by exact h.out_
theorem Hd.env{w0 c:y_}{Q:Exit→Fr→Aa→Prop}(b:d_ w0 c):∀{e:Exit} {a:Act} {w:y_},Hd c Q e a w→Hd w0 Q e a w
 | .normal,_,_,⟨fr,h1,h2,h3⟩ | .exit _,_,_,⟨fr,h1,h2,h3⟩ | .goto _,_,_,⟨fr,h1,h2,h3⟩ | .ret,_,_,⟨fr,h1,h2,h3⟩=>⟨fr,h1,b.trans h2,h3⟩
theorem Hd.mono{w0:y_}{Q Q':Exit→Fr→Aa→Prop}(b:∀e fr H,Q e fr H→Q' e fr H):∀{e:Exit} {a:Act} {w:y_},Hd w0 Q e a w→Hd w0 Q' e a w
 | .normal,_,_,⟨fr,h1,h2,h3⟩ | .exit _,_,_,⟨fr,h1,h2,h3⟩ | .goto _,_,_,⟨fr,h1,h2,h3⟩ | .ret,_,_,⟨fr,h1,h2,h3⟩=>⟨fr,h1,h2,b _ _ _ h3⟩
theorem OM{P:w_}{x y:Code}{kn d:Fr→Aa→Prop}{X:List (Nat×(Fr→Aa→Prop))}{kr:Fr→Aa→Prop}{a:Act}{w:y_}
  (g:x.wp P (Hd w (Qx d X kr)) a w)
  (i:∀fr a' b,At fr a'→d_ w b→d fr b.heap→y.wp P (Hd b (Qx kn X kr)) a' b):(Code.seq x y).wp P (Hd w (Qx kn X kr)) a w:=by
 refine wp_seq (Code.wp_mono ?_ g);intro e a' b h;cases e with
 | normal=>
   have⟨fr,j,f,k⟩:=h;exact Code.wp_mono (fun e a w h=>Hd.env f h) (i fr a' b j f k)
 | exit id=>exact h
 | goto l=>exact h
 | ret=>exact h
 | panic c=>exact h
 | outgrown=>exact h
theorem Co{P:w_}:∀(c:Code) (fr:Fr) (kn:Fr→Aa→Prop) (X:List (Nat×(Fr→Aa→Prop))) (kr:Fr→Aa→Prop) (a:Act) (w:y_),At fr a→
  vc P c fr w.heap kn X kr→c.wp P (Hd w (Qx kn X kr)) a w
 | .skip,fr,kn,X,kr,a,w,hat,h=>wp_skip ⟨fr,hat,d_.refl w,h⟩
 | .region id ops draw,fr,kn,X,kr,a,w,hat,h=>by
   rw[Yo]at h;cases draw with
   | false=>
     have:=AeS (P:=P) (id:=id) (l:=ops.toList) (Q:=Hd w (Qx kn X kr)) hat (fun d a' k g j f=>⟨d,g,j,f⟩) h;simpa using this
   | true=>
     have:=h.out id (Hd w (Qx kn X kr)) a w hat rfl (fun _ _ _ h=>h) (fun d a' k g j f=>⟨d,g,j,f⟩);simpa using this
 | .seq x y,fr,kn,X,kr,a,w,hat,h=>by
   rw[AhR]at h;split at h
   ·exact h.out a w hat rfl
   ·exact OM (Co x fr _ X kr a w hat h) fun d a' k g _ f=>Co y d kn X kr a' k g f
 | .cond c x y,fr,kn,X,kr,a,w,hat,h=>by
   rw[AeR]at h;split at h
   ·rename_i t;rw[DW]at h;split at h
    ·rename_i b n;have hs:fr.set t (.bool b)=fr:=Ez n (by simp[undef]);have o:a.eval (.tmp t)= .bool b:=by rw[hat.eval];exact n
     cases b<;>simp only[AG,F8,hs]at h
     ·exact wp_cond_false o (Co y fr kn X kr a w hat h)
     ·exact wp_cond_true o (Co x fr kn X kr a w hat h)
    ·exact h.elim
   ·rename_i b;cases b<;>simp only[AG]at h
    ·exact wp_cond_false rfl (Co y fr kn X kr a w hat h)
    ·exact wp_cond_true rfl (Co x fr kn X kr a w hat h)
   ·exact h.elim
 | .block id c,fr,kn,X,kr,a,w,hat,h=>by
   rw[AbD]at h;refine wp_block (Code.wp_mono ?_ (Co c fr kn _ kr a w hat h));intro e a' k h;cases e with
   | exit m=>
     have⟨d,g,j,f⟩:=h;simp only[Qx,PD]at f;simp only[Exit.inBlock];split at f
     ·rename_i i;have:=Yb9 i;rw[F_ this.symm];exact⟨d,g,j,f⟩
     ·rename_i i;have:id≠m:=Yb0 i;rw[D_ (Ne.symm this)];exact⟨d,g,j,f⟩
   | normal=>exact h
   | goto l=>exact h
   | ret=>exact h
   | panic c=>exact h
   | outgrown=>exact h
 | .loop c,fr,kn,X,kr,a,w,hat,h=>Code.wp_mono (fun e a w=>Hd.mono fun e fr H p=>by
   cases e<;>first | exact p | exact p.elim) (h.out a w hat rfl)
 | .exit id,fr,kn,X,kr,a,w,hat,h=>wp_exit ⟨fr,hat,d_.refl w,h⟩
 | .ret,fr,kn,X,kr,a,w,hat,h=>wp_ret ⟨fr,hat,d_.refl w,h⟩
 | .rangeFunc ..,_,_,_,_,_,_,_,h=>h.elim
 | .scope _,_,_,_,_,_,_,_,h=>h.elim
 | .label _,_,_,_,_,_,_,_,h=>h.elim
 | .goto _,_,_,_,_,_,_,_,h=>h.elim
 | .refuse _,_,_,_,_,_,_,_,h=>h.elim
noncomputable def RF{R:Type}(fr:Fr)(ts:List Nat):(List v_→R)→R:=
 AkR (motive:=fun _=>(List v_→R)→R) (fun K=>K []) (fun t _ ih K=>rdK fr t fun v=>ih fun vs=>K (v::vs)) ts
noncomputable def Vz{R:Type}(fr:Fr)(ts:List Nat)(vs:List v_)(K:Fr→R):R:=
 AkR (motive:=fun _=>List v_→Fr→R) (fun _ fr=>K fr) (fun t _ ih vs fr=>List.casesOn vs (K fr) fun v vs=>wrK fr t v fun fr'=>ih vs fr') ts vs fr
noncomputable def HZ{R:Type}(f:Nat→v_)(fr:Fr)(ts:List Nat)(K:Fr→R):R:=
 AkR (motive:=fun _=>Fr→R) (fun fr=>K fr) (fun t _ ih fr=>wrK fr t (f t) fun fr'=>ih fr') ts fr
def wrs(fr:Fr):List Nat→List v_→Fr
 | t::ts,v::vs=>wrs (fr.set t v) ts vs
 | _,_=>fr
def Gm(f:Nat→v_)(fr:Fr):List Nat→Fr
 | []=>fr
 | t::ts=>Gm f (fr.set t (f t)) ts
theorem GU{R:Type}(fr:Fr):∀(a:List Nat) (K:List v_→R),RF fr a K=K (a.map (rd fr))
 | [],_=>rfl
 | t::a,K=>by show rdK fr t (fun v=>RF fr a fun vs=>K (v::vs))=_;simp only[DW,GU fr a,YaV]
theorem JX{R:Type}:∀(a:List Nat) (vs:List v_) (fr:Fr) (K:Fr→R),Vz fr a vs K=K (wrs fr a vs)
 | [],vs,fr,K=>by cases vs<;>rfl
 | _::_,[],_,_=>rfl
 | t::a,v::vs,fr,K=>by show wrK fr t v (fun b=>Vz b a vs K)=_;simp only[F8,wrs];exact JX a vs _ K
theorem Dh{R:Type}(f:Nat→v_):∀(a:List Nat) (fr:Fr) (K:Fr→R),HZ f fr a K=K (Gm f fr a)
 | [],_,_=>rfl
 | t::a,fr,K=>by show wrK fr t (f t) (fun b=>HZ f b a K)=_;simp only[F8,Gm];exact Dh f a _ K
theorem LD(f:Nat→v_):∀(a:List Nat) (fr:Fr) (i:Nat),(Gm f fr a)[i]?=if i∈a∧i<fr.length then some (f i)else fr[i]?
 | [],fr,i=>by simp[Gm]
 | t::a,fr,i=>by
   simp only[Gm,LD f a,YaH,YaP,YaT];by_cases d:i∈a<;>by_cases c:i<fr.length<;>by_cases b:t=i
   all_goals simp[d,c,b]
   all_goals first | (subst b;simp[c];done) | (rw[D_ (by omega)];done) | (have:¬i=t:=fun h=>b h.symm;simp[this];done) | skip
theorem KY(f:Nat→v_):∀(a:List Nat) (fr:Fr),(Gm f fr a).length=fr.length
 | [],_=>rfl
 | t::a,fr=>by simp only[Gm,KY f a,YaH]
theorem DB{b:List Nat}{fr a:Fr}(h:Gm (fun _=>undef) a b=Gm (fun _=>undef) fr b):Gm (rd a) fr b=a:=by
 have e:a.length=fr.length:=by have:=congrArg List.length h;simpa [KY]using this
 apply YaJ;intro i;rw[LD];have c:=congrArg (fun l:List v_=>l[i]?) h;simp only[LD,e]at c;by_cases d:i∈b∧i<fr.length
 ·rw[F_ d];simp[rd,N' (e ▸ d.2)]
 ·rw[D_ d]at c ⊢;rw[D_ d]at c;exact c.symm
theorem HL:∀(a:List Nat) (fr:Fr),wrs fr a (a.map (rd fr))=fr
 | [],_=>rfl
 | t::a,fr=>by
   have hs:fr.set t (rd fr t)=fr:=by
    unfold rd;rcases YbC t fr.length with b | b
    ·rw[YaD,N' b];exact Ybc b
    ·exact List.set_eq_of_length_le b
   simp only[YaV,wrs,hs];exact HL a fr
def Kf(ws:List Nat)(fr fr':Fr)(p:Prop):Prop:=
 HZ (fun _=>undef) fr' ws fun a=>HZ (fun _=>undef) fr ws fun b=>a=b∧p
theorem M4{P:w_}{c:Code}{Q:Exit→Act→y_→Prop}(J:Nat→Act→y_→Prop)
  (g:∀n a w,J n a w→c.wp P (Exit.then (fun a' i=>∃n',n'<n∧J n' a' i) Q) a w):∀n a w,J n a w→(Code.loop c).wp P Q a w:=by
 intro t u w0 v b k o;have p:∀n a w,J n a w→∃e a' i,Q e a' i∧Arrives P (lone (b.at a (.code c:: .inLoop c::k)) o w) b k o e a' i:=by
  intro n
  induction n using Nat.strongRecOn with
  | _ n ih=>
    intro a w y;have⟨e,j,m,f,d⟩:=g n a w y b (.inLoop c::k) o;cases e with
    | normal=>
      have⟨n',q,r⟩:=f;have⟨z,A,B,s,h⟩:=ih n' q j m r;exact⟨z,A,B,s,.of_steps (Steps.trans d (.one step_inLoop)) h⟩
    | exit id=>exact⟨_,j,m,f,.pass (x:=.inLoop c) rfl (fun _ _=>.inl (by simp)) d⟩
    | goto l=>exact⟨_,j,m,f,.pass (x:=.inLoop c) rfl (fun _ _=>.inl (by simp)) d⟩
    | ret=>exact⟨_,j,m,f,.pass (x:=.inLoop c) rfl (fun _ _=>.inl (by simp)) d⟩
    | panic C=>exact⟨_,j,m,f,.pass (x:=.inLoop c) rfl (fun _ _=>.inl (by simp)) d⟩
    | outgrown=>exact⟨_,j,m,f,.pass (x:=.inLoop c) rfl (fun _ _=>.inl (by simp)) d⟩
 have⟨e,a',i,f,d⟩:=p t u w0 v;exact⟨e,a',i,f,.of_steps (.one step_loop) d⟩
def Q2:List Oper→List Nat→List Nat
 | [],acc=>acc
 | o::l,acc=>match o.dst with
   | some d=>d::Q2 l acc
   | none=>Q2 l acc
def Iz:Code→List Nat→List Nat
 | .region _ ops _,acc=>Q2 ops.toList acc
 | .seq a b,acc=>Iz a (Iz b acc)
 | .cond _ a b,acc=>Iz a (Iz b acc)
 | .block _ c,acc=>Iz c acc
 | .loop c,acc=>Iz c acc
 | .scope c,acc=>Iz c acc
 | _,acc=>acc
section
variable{P:w_}
theorem A0.mk{c:Code}{fr:Fr}{H:Aa}{X:List (Nat×(Fr→Aa→Prop))}{kr:Fr→Aa→Prop}{α:Type}(j:List Nat)(enc:α→List v_)(I:α→Aa→Prop)(m:α→Aa→Nat)
  (h0:RF fr j fun vs=>∃x,vs=enc x∧I x H)
  (E:∀(x:α) (H1:Aa) (k:Nat→v_),I x H1→HZ k fr (Iz c []) fun r=>Vz r j (enc x) fun f=>
   vc P c f H1 (fun d H'=>Kf (Iz c []) fr d (RF d j fun vs=>∃y,vs=enc y∧I y H'∧m y H'<m x H1)) X kr):A0 P c fr H X kr:=by
 generalize Iz c []=F at E;refine⟨?_⟩;intro a w s K;subst K;have o:=h0;rw[GU]at o;have⟨L,t,u⟩:=o
 let J (n:Nat) (a':Act) (w':y_):Prop:=∃d x,At d a'∧d_ w w'∧Gm (fun _=>undef) d F=Gm (fun _=>undef) fr F∧j.map (rd d)=enc x∧I x w'.heap∧m x w'.heap=n
 refine M4 J ?_ _ a w ⟨fr,L,s,d_.refl w,rfl,t,u,rfl⟩;rintro n M G ⟨f,N,p,b,v,z,A,rfl⟩;have h:=E N G.heap (rd f) A;rw[Dh,JX,DB v,←z,HL j f]at h;refine Code.wp_mono ?_ (Co c f _ X kr M G p h);intro e S O g;cases e with
 | normal=>
   have⟨B,q,i,g⟩:=g;simp only[Qx,Kf,Dh,GU]at g;have⟨C,y,Q,D,R⟩:=g;exact⟨m y O.heap,R,B,y,q,b.trans i,C,Q,D,rfl⟩
 | exit id=>exact Hd.env b g
 | goto l=>exact Hd.env b g
 | ret=>exact Hd.env b g
 | panic c=>exact g
 | outgrown=>exact g
theorem An.run{x y:Code}{fr:Fr}{H:Aa}{kn:Fr→Aa→Prop}{X:List (Nat×(Fr→Aa→Prop))}{kr:Fr→Aa→Prop}
  (h:vc P x fr H (fun b H'=>vc P y b H' kn X kr) X kr):An P x y fr H kn X kr:=by
 refine⟨?_⟩;intro a w c d;subst d;exact OM (Co x fr _ X kr a w c h) fun b a' e f _ g=>Co y b kn X kr a' e f g
theorem An.cut{x y:Code}{fr:Fr}{H:Aa}{kn:Fr→Aa→Prop}{X:List (Nat×(Fr→Aa→Prop))}{kr:Fr→Aa→Prop}{α:Type}(e:List Nat)(enc:α→List v_)(I:α→Aa→Prop)
  (h:vc P x fr H (fun c H'=>Kf (Iz x []) fr c (RF c e fun vs=>∃y,vs=enc y∧I y H')) X kr)
  (k:∀(z:α) (H1:Aa) (d:Nat→v_),I z H1→HZ d fr (Iz x []) fun f=>Vz f e (enc z) fun b=>vc P y b H1 kn X kr):An P x y fr H kn X kr:=by
 generalize Iz x []=r at h k;refine⟨?_⟩;intro a w g l;subst l;refine OM (Co x fr _ X kr a w g h) fun b m i n _ j=>?_;simp only[Kf,Dh,GU]at j;have⟨o,z,p,q⟩:=j;have h:=k z i.heap (rd b) q;rw[Dh,JX,DB o,←p,HL e b]at h;exact Co y b kn X kr m i n h
end
def ldK(P:w_)(t:x_)(p:v_)(H:Aa)(K:v_→Prop):Prop:=
 match p with
 | .pointer (some a)=>AJ P (Instr.loadAt t (.pointer (some a))) (fun _=>True) H K
 | _=>False
def Pn(P:w_)(rs:List ResultVar)(fr:Fr)(H:Aa)(R:v_→Aa→Prop):Prop:=
 match rs with
 | [.tmp t]=>rdK fr t fun v=>R v H
 | []=>R (.tuple #[]) H
 | [.tmp t,.tmp u]=>rdK fr t fun v=>rdK fr u fun x=>R (.tuple #[v,x]) H
 | [.tmp t,.tmp u,.tmp y]=>rdK fr t fun v=>rdK fr u fun x=>rdK fr y fun z=>R (.tuple #[v,x,z]) H
 | [.cell a t]=>rdK fr a fun p=>ldK P t p H fun v=>R v H
 | [.cell a t,.tmp u]=>rdK fr a fun p=>ldK P t p H fun v=>rdK fr u fun x=>R (.tuple #[v,x]) H
 | [.tmp u,.cell a t]=>rdK fr a fun p=>ldK P t p H fun v=>rdK fr u fun x=>R (.tuple #[x,v]) H
 | [.cell a t,.cell b u]=>rdK fr a fun p=>ldK P t p H fun v=>rdK fr b fun q=>ldK P u q H fun x=>R (.tuple #[v,x]) H
 | _=>False
theorem Gb{P:w_}{t:x_}{p:v_}{w:y_}{K:v_→Prop}(h:ldK P t p w.heap K):
  ∃a v,p= .pointer (some a)∧(loadVar t a).run P w= .ok v w∧K v:=by
 unfold ldK at h;split at h
 ·rename_i a;have⟨v,c,k⟩:=h.out;have b:=c w (C_.refl _ _);simp[Instr.loadAt,Instr.sureAddr]at b;exact⟨a,v,rfl,b,k⟩
 ·exact h.elim
theorem OD{P:w_}{fn:Func}{fr:Fr}{a:Act}{w:y_}{R:v_→Aa→Prop}(g:At fr a)(h:Pn P fn.results.toList fr w.heap R):
  ∃v,(results fn a.tmps).run P w= .ok v w∧R v w.heap:=by
 have c:∀t,a.tmps.getD t undef=rd fr t:=fun t=>g.eval (.tmp t);have mk:∀l:List ResultVar,fn.results.toList=l→fn.results=l.toArray:=fun l k=>AkI (by simpa using k);unfold Pn at h;split at h<;>rename_i hr<;>(try simp only[DW]at h)<;>have b:=mk _ hr
 ·exact⟨_,by simp[results,b,c],h⟩
 ·exact⟨_,by simp[results,b],h⟩
 ·exact⟨_,by simp[results,b,c],h⟩
 ·exact⟨_,by simp[results,b,c],h⟩
 ·have⟨p,v,e,f,d⟩:=Gb h;exact⟨v,by simp[results,b,c,e,asAddr,f],d⟩
 ·have⟨p,v,e,f,d⟩:=Gb h;exact⟨_,by simp[results,b,c,e,asAddr,f],d⟩
 ·have⟨p,v,e,f,d⟩:=Gb h;exact⟨_,by simp[results,b,c,e,asAddr,f],d⟩
 ·have⟨p,v,e,f,d⟩:=Gb h;have⟨m,n,i,j,d⟩:=Gb d;exact⟨_,by simp[results,b,c,e,i,asAddr,f,j],d⟩
noncomputable def Ou{R:Type}(l:Fr):(Fr→R)→R:=
 AkR (motive:=fun _=>(Fr→R)→R) (fun K=>K []) (fun v _ ih K=>ih fun l'=>K (v::l')) l
theorem HD{R:Type}:∀(l:Fr) (K:Fr→R),Ou l K=K l
 | [],_=>rfl
 | v::l,K=>by show Ou l (fun a=>K (v::a))=_;exact HD l _
theorem Ak.of_vc{P:w_}{f:FuncId}{fn:Func}{c:Code}{a:Array v_}{H:Aa}{R:v_→Aa→Prop}(o:P.funcs[f]?=some fn)(p:fn.body=some c)
  (i:∀w:y_,(callFunc f a).run P w= .ok (.enter f a) w)
  (h:Ou (a.toList++AiF (fn.ntmps-a.size) undef) fun fr=>vc P c fr H (fun j H'=>Pn P fn.results.toList j H' R) [] (fun j H'=>Pn P fn.results.toList j H' R)):
  Ak P f a H R:=by
 intro w q;subst q;refine⟨i w,?_⟩;refine calls_of_wp o p ?_;rw[HD]at h;have m:At (a.toList++AiF (fn.ntmps-a.size) undef) {tmps:=a++Ak4 (fn.ntmps-a.size) undef,defers:=[]}:=⟨by simp,rfl⟩;refine Code.wp_mono ?_ (Co c _ _ _ _ _ w m h);intro e a' k b;have fin:∀fr,At fr a'→d_ w k→Pn P fn.results.toList fr k.heap R→a'.defers=[]∧∃v,(results fn a'.tmps).run P k= .ok v k∧∃n,Ending.returned v= .returned n∧d_ w k∧R n k.heap:=by
  intro fr g b d;have⟨v,r,s⟩:=OD g d;exact⟨g.defers,v,r,v,rfl,b,s⟩
 cases e with
 | normal=>have⟨fr,g,b,d⟩:=b;exact fin fr g b d
 | ret=>have⟨fr,g,b,d⟩:=b;exact fin fr g b d
 | exit id=>have⟨fr,g,b,d⟩:=b;exact d.elim
 | goto l=>have⟨fr,g,b,d⟩:=b;exact d.elim
 | panic c=>exact b.elim
 | outgrown=>exact b.elim
structure SlT(P:w_)(t e:x_)(sz by_:Nat)(z:v_):Prop where
 under:P.underlying t=some (.slice e)
 info:∃i,P.info? e=some i∧i.size=sz∧i.bytes=by_∧i.zero=some z
 zsz:z.cells.size=sz
structure BW(P:w_)(t:x_):Prop where
 under:∃d,P.underlying t=some d∧d.isRow=false
 size:(P.info? t).map (·.size)=some 1
structure Hb(P:w_)(t:x_)(n:Nat):Prop where
 under:∃d,P.underlying t=some d∧d.isRow=true
 size:(P.info? t).map (·.size)=some n
structure A8(P:w_)(s f off ft n:Nat):Prop where
 under:∃fs fd,P.underlying s=some (.struct fs)∧fs[f]?=some fd∧fd.offset=off∧fd.type=ft
 size:(P.info? ft).map (·.size)=some n
 pos:n≠0
structure Pb(P:w_)(t len e sz:Nat):Prop where
 under:P.underlying t=some (.array len e)
 size:(P.info? e).map (·.size)=some sz
def cell(H:Aa)(b o:Nat):Option v_:=match H[b]? with
 | some (.cells c _ _)=>c[o]?
 | _=>none
def Be(H:Aa)(b o:Nat)(cs:List v_):Prop:=∀j v,cs[j]?=some v→cell H b (o+j)=some v
def Q_(H:Aa)(b:Nat)(e:x_)(l:List v_):Prop:=H[b]?=some (.cells l.toArray e (0,0))
theorem EP(w:y_)(b o:Nat):w.cell? ⟨b,o,none⟩=cell w.heap b o:=by
 unfold World.cell? cell;cases h:w.heap[b]? with
 | none=>rfl
 | some x=>cases x<;>rfl
theorem MP{H H':Aa}{b o:Nat}(h:H'[b]?=H[b]?):cell H' b o=cell H b o:=by unfold cell;rw[h]
theorem Be.eq{H H':Aa}{b o:Nat}{cs:List v_}(a:Be H b o cs)(h:H'[b]?=H[b]?):Be H' b o cs:=
 fun j v c=>by rw[MP h];exact a j v c
theorem Q_.cell{H:Aa}{b:Nat}{e:x_}{l:List v_}(h:Q_ H b e l)(o:Nat):VC.cell H b o=l[o]? :=by
 unfold VC.cell;rw[h];simp
theorem Q_.ce{H b e l}(h:Q_ H b e l){o}{v:v_}(k:l[o]?=some v):VC.cell H b o=some v:=(h.cell o).trans k
section
variable{H:Aa}{b:Nat}{e:x_}
theorem Q_.cells{l cs:List v_}(h:Q_ H b e l){o:Nat}(a:∀j v,cs[j]?=some v→l[o+j]?=some v):Be H b o cs:=
 fun j v c=>by rw[h.cell];exact a j v c
theorem Q_.lt{l:List v_}(h:Q_ H b e l):b<H.size:=(Yaa.1 h).1
end
theorem Q_.eq{H H':Aa}{b:Nat}{e:x_}{l:List v_}(h:Q_ H b e l)(k:H'[b]?=H[b]?):Q_ H' b e l:=k.trans h
theorem Q_.agr{S:Nat→Prop}{H H':Aa}{b:Nat}{e:x_}{l:List v_}(h:Q_ H b e l)(k:C_ S H H')(a:S b):Q_ H' b e l:=(k b a).trans h
theorem Y7{n:Nat}{H H':Aa}(h:C_ (fun k=>k<n) H H')(b:n≤H.size):n≤H'.size:=by
 rcases Nat.eq_zero_or_pos n with a | a
 ·omega
 ·have:=h (n-1) (by omega);rw[Yag (show n-1<H.size by omega)]at this;have:=(Yaa.1 this).1;omega
theorem RE{w:y_}{H:Aa}{b o:Nat}{cs:List v_}(a:Be H b o cs)(h:w.heap[b]?=H[b]?):w.rangeAt b o cs:=fun j v c=>by
 rw[EP,MP h];exact a j v c
section
variable{P:w_}{t:x_}{b o:Nat}
theorem G_{S:Nat→Prop}{H:Aa}{K:v_→Prop}{v:v_}(c:BW P t)(e:cell H b o=some v)(f:S b)(k:K v):
  AJ P (Instr.loadAt t (.pointer (some ⟨b,o,none⟩))) S H K:=by
 refine AJ.mk v (fun w g=>?_) k;have⟨d,h,j⟩:=c.under;have i:w.cell? ⟨b,o,none⟩=some v:=by rw[EP,MP (g b f)];exact e
 have a:(isAgg t).run P w= .ok false w:=by
  unfold isAgg;rw[Sem.run_bind,run_underlying h w];cases d<;>simp_all
 simp[Instr.loadAt,Instr.sureAddr,loadVar,a,load,Sem.run,i]
theorem lT{H:Aa}{K:v_→Prop}{v:v_}(a:BW P t)(c:cell H b o=some v)(k:K v):AJ P (Instr.loadAt t (.pointer (some ⟨b,o,none⟩))) (fun _=>True) H K:=G_ a c trivial k
theorem L_{S:Nat→Prop}{H:Aa}{K:v_→Prop}{cs:List v_}(a:Hb P t cs.length)(c:Be H b o cs)(e:S b)(k:K (.agg cs.toArray)):
  AJ P (Instr.loadAt t (.pointer (some ⟨b,o,none⟩))) S H K:=by
 refine AJ.mk _ (fun w f=>?_) k;have⟨d,g,h⟩:=a.under;exact run_loadAt_mid w b o t cs d (RE c (f b e)) g h a.size
theorem lN{H:Aa}{K:v_→Prop}{cs:List v_}(a:Hb P t cs.length)(c:Be H b o cs)(k:K (.agg cs.toArray)):AJ P (Instr.loadAt t (.pointer (some ⟨b,o,none⟩))) (fun _=>True) H K:=L_ a c trivial k
end
theorem ix{P:w_}{t e:x_}{sz by_:Nat}{z:v_}{b o n cap:Nat}{k:IntKind}{i:Int}{S:Nat→Prop}{H:Aa}{K:v_→Prop}(a:SlT P t e sz by_ z)(h0:0≤i)(c:i<n)
  (d:K (.pointer (some ⟨b,o+i.toNat*sz,none⟩))):AJ P (Instr.indexAt t (.slice (some ⟨b,o,none⟩) n cap) (.int k i)) S H K:=by
 obtain⟨f,g,hs,_,_⟩:=a.info;refine AJ.mk _ (fun w _=>?_) d;have h:(⟨b,o,none⟩:Addr).add (i.toNat*sz)=⟨b,o+i.toNat*sz,none⟩:=Addr.add_mid _ _ _;simp[Instr.indexAt,asIntOf,run_underlying a.under,h0,c,sizeOf,typeInfo,g,hs,h]
theorem Ec(H:Aa)(o:Obj):C_ (fun k=>k<H.size) H (H.push o):=fun k a=>by
 rw[Yaf,D_ (by omega)]
theorem Gh(w:y_)(o:Obj):(w.alloc o).heap=w.heap.push o:=rfl
def New(H:Aa)(K:Nat→Aa→Prop)(e:x_)(l:List v_):Prop:=
 ∀b H',b=H.size→H'.size=b+1→Q_ H' b e l→C_ (fun k=>k<b) H H'→K b H'
theorem New.go{H:Aa}{K:Nat→Aa→Prop}{e:x_}{l:List v_}(h:New H K e l):K H.size (H.push (.cells l.toArray e)):=
 h H.size _ rfl (by simp) (by unfold Q_;simp) (Ec H _)
section
variable{P:w_}
theorem Ct{t:x_}{v:v_}{H:Aa}{K:v_→Aa→Prop}(l:List v_)(a:v.cells=l.toArray)
  (h:New H (fun b H'=>K (U_ b) H') t l):BH P (Instr.box t v) H K:=by
 refine BH.mk fun w c=>?_;subst c;exact⟨_,w.alloc (.cells l.toArray t),by simp[Instr.box,newVar,a,newRow],⟨rfl,rfl,rfl⟩,h.go⟩
theorem Am{t:x_}{H:Aa}{K:v_→Aa→Prop}(z:v_)(l:List v_)(a:(P.info? t).bind (·.zero)=some z)(e:z.cells=l.toArray)
  (h:New H (fun b H'=>K (U_ b) H') t l):BH P (Instr.alloc t true (.tuple #[])) H K:=by
 refine BH.mk fun w f=>?_;subst f;refine⟨_,w.alloc (.cells l.toArray t),?_,⟨rfl,rfl,rfl⟩,h.go⟩;cases c:P.info? t with
 | none=>rw[c]at a;cases a
 | some i=>
   have d:i.zero=some z:=by simpa [c]using a
   simp[Instr.alloc,zeroValue,typeInfo,c,d,newVar,e,newRow]
theorem AbB{t e:x_}{sz by_:Nat}{z:v_}{n:Nat}{vs:Array (Nat×v_)}{H:Aa}{K:v_→Aa→Prop}(a:SlT P t e sz by_ z)(l:List v_)(o:n*sz≤16777216)(h0:0<n*sz)
  (c:Instr.fill (fun i=>some (i*sz,sz)) ((Array.range (n*sz)).map (z.cells[· % z.cells.size]!)) vs.toList=some l.toArray)
  (h:New H (fun b H'=>K (.slice (T_ b) n n) H') e l):BH P (Instr.buildSlice t n vs) H K:=by
 refine BH.mk fun w d=>?_;subst d;refine⟨_,w.alloc (.cells l.toArray e),?_,⟨rfl,rfl,rfl⟩,h.go⟩;obtain⟨f,g,hs,_,j⟩:=a.info;have k:¬(16777216<n*sz):=by omega
 have m:¬(n*sz=0):=by omega
 simp only[Instr.buildSlice,Sem.run_bind,run_underlying a.under,Result.andThen_ok,sizeOf,typeInfo,zeroValue];simp[g,hs,j,k,m,c,newRow]
theorem AbE{t e:x_}{sz by_:Nat}{z:v_}{g i:IntKind}{l c:Int}{H:Aa}{K:v_→Aa→Prop}(j:SlT P t e sz by_ z)(h0:0≤l)(d:l≤c)(m:(by_:Int)*c≤281474976710656)
  (f:c≤9223372036854775807)
  (h:New H (fun b H'=>K (.slice (T_ b) l.toNat c.toNat) H') e ((Aj7 (c.toNat*sz)).map (z.cells[· % z.cells.size]!))):BH P (Instr.makeSlice t (.int g l) (.int i c)) H K:=by
 refine BH.mk fun w n=>?_;subst n;have⟨a,o,hs,hby,p⟩:=j.info;have k:=run_make (P:=P) w t e a z j.under o p g i l c h0 d (by rw[hby];exact m) f;have q:madeCells z.cells (c.toNat*a.size)=((Aj7 (c.toNat*sz)).map (z.cells[· % z.cells.size]!)).toArray:=by
  rw[hs];unfold madeCells;apply AkI;simp
 rw[q]at k;exact⟨_,_,k,⟨rfl,rfl,rfl⟩,h.go⟩
end
theorem RM(w:y_)(b o:Nat)(v:v_):(w.setCell ⟨b,o,none⟩ v).heap=w.heap.modify b fun
   | .cells c d a=>.cells (c.setIfInBounds o v) d a
   | x=>x:=by
 unfold World.setCell;simp only[Option.isSome_none,Yaw,if_false]
 congr 1
section
variable{w:y_}{b o:Nat}{e:x_}{l:List v_}
theorem Ju(a:Q_ w.heap b e l)(v:v_):
  Q_ (w.setCell ⟨b,o,none⟩ v).heap b e (l.set o v)∧C_ (fun k=>k≠b) w.heap (w.setCell ⟨b,o,none⟩ v).heap∧(w.setCell ⟨b,o,none⟩ v).heap.size=w.heap.size:=by
 rw[RM];refine⟨?_,fun k c=>?_,by simp⟩
 ·unfold Q_ at a ⊢;rw[Yac,F_ rfl,a];simp
 ·rw[Yac,D_ (fun h=>c h.symm)]
theorem Gk(a:Q_ w.heap b e l):w.frozen? ⟨b,o,none⟩=false:=by
 unfold World.frozen?;simp only;rw[a];simp
end
def Turn(H:Aa)(K:Aa→Prop)(b:Nat)(e:x_)(l:List v_):Prop:=
 ∀H',Q_ H' b e l→C_ (fun k=>k≠b) H H'→H'.size=H.size→K H'
theorem st1{P:w_}{t e:x_}{b o:Nat}{l:List v_}{v:v_}{H:Aa}{K:Aa→Prop}(g:BW P t)(c:Q_ H b e l)(j:o<l.length)(k:v.oneCell'=true)
  (h:Turn H K b e (l.set o v)):CN P (Instr.storeAt t (.pointer (some ⟨b,o,none⟩)) v) H K:=by
 refine CN.mk fun w m=>?_;subst m;have n:w.cell? ⟨b,o,none⟩=some l[o]:=by rw[EP,c.cell];simp[j]
 have⟨p,q,r⟩:=Ju (o:=o) c v;refine⟨_,?_,?_,h _ p q r⟩
 ·have d:v.cells= #[v]:=by cases v<;>simp_all [Value.cells,Value.oneCell']
  have a:=run_storeCells_cells (P:=P) b o [v] 0 w (by simp[n]) (by simp[Gk c]) (by simpa using k);cases f:P.info? t with
  | none=>have:=g.size;simp[f]at this
  | some i=>
    have hs:i.size=1:=by have:=g.size;simpa [f]using this
    simp only[Nat.add_zero]at a;simp[Instr.storeAt,Instr.sureAddr,storeVar,sizeOf,typeInfo,f,d,hs,a,World.setCells]
 ·exact⟨rfl,rfl,rfl⟩
def Ai(l:List v_)(o:Nat)(cs:List v_):List v_:=l.take o++cs++l.drop (o+cs.length)
section
variable{l:List v_}{o:Nat}{cs:List v_}
theorem Eh(h:o+cs.length≤l.length):(Ai l o cs).length=l.length:=by
 unfold Ai;simp;omega
theorem Ds(h:o+cs.length≤l.length)(j:Nat):
  (Ai l o cs)[j]?=if o≤j∧j<o+cs.length then cs[j-o]? else l[j]? :=by
 unfold Ai;rw[YaN];by_cases a:j<o
 ·rw[D_ (by omega),YaG (by simp;omega),List.getElem?_take_of_lt a]
 ·rw[YaE (by simp;omega)];simp only[YaW,Yb1 (show o≤l.length by omega)];by_cases b:j<o+cs.length
  ·rw[F_ (by omega),YaG (by omega)]
  ·rw[D_ (by omega),YaE (by omega),List.getElem?_drop]
   congr 1;omega
end
theorem FX{b:Nat}{e:x_}:∀(cs:List v_) (o:Nat) (l:List v_) (w:y_),Q_ w.heap b e l→o+cs.length≤l.length→
  Q_ (w.setCells b o cs).heap b e (Ai l o cs)∧C_ (fun k=>k≠b) w.heap (w.setCells b o cs).heap∧(w.setCells b o cs).heap.size=w.heap.size∧d_ w (w.setCells b o cs)
 | [],o,l,w,hb,_=>⟨by simpa [Ai,World.setCells]using hb,C_.refl _ _,rfl,d_.refl w⟩
 | v::cs,o,l,w,hb,hl=>by
   simp only[b_]at hl;have⟨f,a,g⟩:=Ju (o:=o) hb v;have⟨i,m,n,c⟩:=FX cs (o+1) (l.set o v) (w.setCell ⟨b,o,none⟩ v) f (by simp;omega);refine⟨?_,a.trans m,n.trans g,⟨c.os,c.tape,c.output⟩⟩;have p:Ai (l.set o v) (o+1) cs=Ai l o (v::cs):=by
    apply YaJ;intro j;rw[Ds (by simp;omega),Ds (by simp;omega)];simp only[b_];by_cases h:j=o
    ·subst h;rw[D_ (by omega),F_ (by omega)];simp[show j<l.length by omega]
    ·by_cases d:o+1≤j∧j<o+1+cs.length
     ·rw[F_ d,F_ (by omega)];rw[show j-o=(j-(o+1))+1 by omega,Yba]
     ·rw[D_ d,D_ (by omega),YaT,D_ (fun a=>h a.symm)]
   rw[←p];exact i
theorem stN{P:w_}{t e:x_}{b o:Nat}{l cs:List v_}{H:Aa}{K:Aa→Prop}(d:(P.info? t).map (·.size)=some cs.length)(c:Q_ H b e l)(f:o+cs.length≤l.length)(g:cs.all (·.oneCell')=true)
  (h:Turn H K b e (Ai l o cs)):CN P (Instr.storeAt t (.pointer (some ⟨b,o,none⟩)) (.agg cs.toArray)) H K:=by
 refine CN.mk fun w i=>?_;subst i;have a:w.there b o cs.toArray.size:=fun j k=>by
  simp only[List.size_toArray]at k;refine⟨?_,Gk c⟩;rw[EP,c.cell];simp;omega
 have⟨m,n,p,q⟩:=FX cs o l w c f;refine⟨_,run_storeAt_mid (P:=P) w b o t cs.toArray a (by simpa using d) (by simpa using g),by simpa using q,?_⟩;simpa using h _ m n p
def Sl(H:Aa)(lo:Nat)(e:x_)(sz:Nat)(v:v_)(n:Nat)(cs:List v_):Prop:=
 cs.length=n*sz∧((v= .slice none 0 0∧n=0)∨
  ∃b cap l,v= .slice (T_ b) n cap∧lo≤b∧Q_ H b e l∧n≤cap∧cap≤maxLen∧l.length=cap*sz∧l.take (n*sz)=cs)
def a_(v:v_)(k:Nat):Prop:=∃o n c,v= .slice (some ⟨k,o,none⟩) n c
theorem Sl.nil(H:Aa)(lo:Nat)(e:x_)(sz:Nat):Sl H lo e sz (.slice none 0 0) 0 []:=⟨by simp,.inl ⟨rfl,rfl⟩⟩
theorem Sl.made{H:Aa}{lo:Nat}{e:x_}{sz b n cap:Nat}{l:List v_}(a:lo≤b)(f:Q_ H b e l)(c:n≤cap)(g:cap≤maxLen)(d:l.length=cap*sz):
  Sl H lo e sz (.slice (T_ b) n cap) n (l.take (n*sz)):=
 ⟨by rw[YaW,d,Yb1 (Ybw _ c)],.inr ⟨b,cap,l,rfl,a,f,c,g,d,rfl⟩⟩
theorem Sl.agr{S:Nat→Prop}{H H':Aa}{lo:Nat}{e:x_}{sz n:Nat}{v:v_}{cs:List v_}(h:Sl H lo e sz v n cs)(k:C_ S H H')(d:∀b,a_ v b→S b):Sl H' lo e sz v n cs:=by
 have⟨f,a⟩:=h;refine⟨f,?_⟩;rcases a with a | ⟨b,cap,l,rfl,c,g,r⟩
 ·exact .inl a
 ·exact .inr ⟨b,cap,l,rfl,c,g.agr k (d b ⟨_,_,_,rfl⟩),r⟩
theorem Sl.lt{H:Aa}{lo:Nat}{e:x_}{sz n:Nat}{v:v_}{cs:List v_}(h:Sl H lo e sz v n cs){b:Nat}(a:a_ v b):lo≤b∧b<H.size:=by
 obtain⟨o,n',c,rfl⟩:=a;rcases h.2 with⟨d,_⟩ | ⟨b',cap,l,d,f,a,r⟩
 ·cases d
 ·cases d;exact⟨f,a.lt⟩
theorem Nw{P:w_}{t C ty e:x_}{sz by_:Nat}{z:v_}{H:Aa}{K:v_→Aa→Prop}(E:SlT P t e sz by_ z){lo n m:Nat}{v x:v_}{cs news:List v_}
  (hs:Sl H lo e sz v n cs) (N:lo≤H.size) (hx:∀w:y_,w.heap=H→Src P sz C x m news w) (F:n+m≤maxLen) (hby:(n+m)*by_≤140737488355328)
  (h:∀D H',Sl H' lo e sz D (n+m) (cs++news)→C_ (fun k=>k<H.size∧¬a_ v k) H H'→H.size≤H'.size→(∀k,a_ D k→a_ v k∨H.size≤k)→K D H'):
  BH P (Builtin.append_ #[t,C] ty [v,x].toArray) H K:=by
 refine BH.mk fun w hw=>?_;subst hw;have⟨i,O,p,Q,hz⟩:=E.info;have s:=hx w rfl;have a:Src P i.size C x m news w:=by rw[p];exact s
 have A:news.length=m*sz:=s.newsLen;have Z:n+m≤9223372036854775807:=by simp only[maxLen]at F;omega
 have⟨B,R⟩:=hs;have d:(cs++news).length=(n+m)*sz:=by rw[J_,B,A,Yb4]
 have u:∀(g:Option Addr) (cap:Nat),v= .slice g n cap→cap<n+m→(Builtin.firstCells i.size n (.slice g n cap)).run P w.drew= .ok cs.toArray w.drew→
   ∃D S,(Builtin.append_ #[t,C] ty [v,x].toArray).run P w= .ok D S∧d_ w S∧K D S.heap:=by
  intro g cap y G hold;subst y;have T:=run_append_grow_src (P:=P) w t C ty e i z E.under O hz g n cap cs hold x m news a G (by omega) (growslice_fits (by omega) (by rw[Q];exact hby));refine⟨_,_,T,⟨rfl,rfl,rfl⟩,?_⟩;have U:=grownCap_ge w (n+m) cap e;have V:=grownCap_le_maxLen w (n+m) cap e F;have I:Q_ (w.drew.alloc (.cells ((cs++news).toArray++Builtin.zeroCells z.cells (grownCap w (n+m) cap e-(n+m))) e)).heap w.heap.size e
    ((cs++news)++(Builtin.zeroCells z.cells (grownCap w (n+m) cap e-(n+m))).toList):=by
   unfold Q_;have:(w.drew.alloc (.cells ((cs++news).toArray++Builtin.zeroCells z.cells (grownCap w (n+m) cap e-(n+m))) e)).heap=w.heap.push (.cells ((cs++news).toArray++Builtin.zeroCells z.cells (grownCap w (n+m) cap e-(n+m))) e):=rfl;rw[this];simp
  refine h _ _ ⟨d,.inr ⟨w.heap.size,_,_,rfl,N,I,U,V,?_,?_⟩⟩ ?_ ?_ ?_
  ·rw[J_,d,Yab,size_zeroCells,E.zsz,←Yb4]
   congr 1;omega
  ·rw[←d,Ybm];rfl
  ·intro k q;exact Ec w.heap _ k q.1
  ·show w.heap.size≤(w.heap.push _).size;simp
  ·rintro k ⟨o,n',c,q⟩;cases q;exact .inr (I_ _)
 rcases R with⟨rfl,rfl⟩ | ⟨b,cap,l,rfl,J,M,a1,W,L,r⟩
 ·have X:cs=[]:=Ya8 (by simpa using B);subst X;by_cases hm:m=0
  ·subst hm;have hn:news=[]:=Ya8 (by simpa using A);subst hn;refine⟨.slice none 0 0,w,?_,d_.refl w,h _ _ (Sl.nil _ _ _ _) (C_.refl _ _) (I_ _) (fun k q=>.inl q)⟩;rcases a.kind with⟨e',q⟩ | q<;>simp[Builtin.append_,run_underlying E.under,run_underlying q,sizeOf,typeInfo,O,a.len,a.cells]
  ·exact u none 0 rfl (by omega) (by simp[Builtin.firstCells])
 ·by_cases f:n+m≤cap
  ·have a0:n*sz+news.length≤l.length:=by rw[A,L,←Yb4];exact Ybw _ f
   have T:=run_append_room_src (P:=P) w t C ty e i E.under O b 0 n cap x m news a f
    (fun j hj=>by rw[EP,M.cell];simp[p];omega) (fun j hj=>Gk M)
   have⟨h1,h2,h3,h4⟩:=FX news (0+n*i.size) l w M (by rw[p];omega);refine⟨_,_,T,h4,h _ _ ⟨d,.inr ⟨b,cap,_,rfl,J,h1,f,W,?_,?_⟩⟩ (h2.mono fun k q=>?_) (by omega) ?_⟩
   ·rw[Eh (by rw[p];omega)];exact L
   ·rw[p,K_];unfold Ai;rw[r,←d,Ybm];rfl
   ·intro Y;subst Y;exact q.2 ⟨0,n,cap,rfl⟩
   ·rintro k ⟨o,n',c,q⟩;cases q;exact .inl ⟨0,n,cap,rfl⟩
  ·refine u (T_ b) cap rfl (by omega) ?_;have hc:Be w.heap b 0 cs:=M.cells fun j v y=>by
    rw[←r,YaK]at y;split at y
    ·simpa using y
    ·cases y
   have:=run_firstCells_some (P:=P) w.drew i.size n ⟨b,0,none⟩ n cap cs (by rw[p];exact B) (fun j v y=>by
    rw[Addr.add_mid];have:=RE (w:=w.drew) (H:=w.heap) hc rfl j v y;exact this)
   exact this
structure Ty(α:Type) where
 size:Nat
 rep:(Nat→Prop)→Aa→List v_→α→Prop
 len:∀{S H cs x},rep S H cs x→cs.length=size
 frame:∀{S H H' cs x},rep S H cs x→C_ S H H'→rep S H' cs x
 mono:∀{S S' H cs x},rep S H cs x→(∀k,S k→S' k)→rep S' H cs x
def Ty.reps{α:Type}(T:Ty α)(S:Nat→Prop)(H:Aa):List v_→List α→Prop
 | cs,[]=>cs=[]
 | cs,x::xs=>∃c r,cs=c++r∧T.rep S H c x∧T.reps S H r xs
section
variable{α β:Type}{T:Ty α}{S S':Nat→Prop}{H H':Aa}
theorem Ty.reps_len:∀{xs:List α} {cs:List v_},T.reps S H cs xs→cs.length=xs.length*T.size
 | [],_,h=>by cases h;simp
 | x::xs,_,⟨c,r,rfl,h1,h2⟩=>by
   rw[J_,T.len h1,Ty.reps_len h2,b_,Yb3];omega
theorem Ty.reps_frame(k:C_ S H H'):∀{xs:List α} {cs:List v_},T.reps S H cs xs→T.reps S H' cs xs
 | [],_,h=>h
 | x::xs,_,⟨c,r,e,h1,h2⟩=>⟨c,r,e,T.frame h1 k,Ty.reps_frame k h2⟩
theorem Ty.reps_mono(k:∀i,S i→S' i):∀{xs:List α} {cs:List v_},T.reps S H cs xs→T.reps S' H cs xs
 | [],_,h=>h
 | x::xs,_,⟨c,r,e,h1,h2⟩=>⟨c,r,e,T.mono h1 k,Ty.reps_mono k h2⟩
theorem Ty.reps_append:∀{xs ys:List α} {cs ds:List v_},T.reps S H cs xs→T.reps S H ds ys→T.reps S H (cs++ds) (xs++ys)
 | [],_,_,_,h,h'=>by cases h;simpa using h'
 | x::xs,_,_,_,⟨c,r,e,h1,h2⟩,h'=>⟨c,r++_,by rw[e,YaN],h1,Ty.reps_append h2 h'⟩
theorem Ty.reps_one{c:List v_}{x:α}(h:T.rep S H c x):T.reps S H c [x]:=⟨c,[],by simp,h,rfl⟩
theorem Ty.reps_get:∀{xs:List α} {cs:List v_} {i:Nat} {x:α},T.reps S H cs xs→xs[i]?=some x→∃l c r,cs=l++c++r∧l.length=i*T.size∧T.rep S H c x
 | x::xs,_,0,y,⟨c,r,e,h1,h2⟩,hx=>by
   simp at hx;subst hx;exact⟨[],c,r,by simp[e],by simp,h1⟩
 | x::xs,_,i+1,y,⟨c,r,e,h1,h2⟩,hx=>by
   simp at hx;have⟨l,a,b,d,f,g⟩:=Ty.reps_get h2 hx;exact⟨c++l,a,b,by simp[e,d,YaN],by rw[J_,T.len h1,f,Yb3];omega,g⟩
theorem Be.mid{b o:Nat}{l c r:List v_}(h:Be H b o (l++c++r)):Be H b (o+l.length) c:=fun j v a=>by
 have:=h (l.length+j) v (by
  rw[YaN,YaE (by omega),YaG (by
   have:=(O_.1 a).1;omega)]
  rw[show l.length+j-l.length=j by omega];exact a)
 rw[←YbN]at this;exact this
theorem Be.one{b o:Nat}{v:v_}(h:Be H b o [v]):cell H b o=some v:=by have:=h 0 v rfl;simpa using this
end
def J'(k:IntKind)(x:Int):Prop:=k.min≤x∧x≤k.max
def GB(k:IntKind):Ty Int where
 size:=1
 rep _ _ cs x:=cs=[.int k x]∧J' k x
 len h:=by rw[h.1];rfl
 frame h _:=h
 mono h _:=h
def AQ:Ty Bool where
 size:=1
 rep _ _ cs x:=cs=[.bool x]
 len h:=by rw[h];rfl
 frame h _:=h
 mono h _:=h
def AhK:Ty ByteArray where
 size:=1
 rep _ _ cs x:=cs=[.string x]∧x.size≤maxLen
 len h:=by rw[h.1];rfl
 frame h _:=h
 mono h _:=h
section
variable{α:Type}
def g_(T:Ty α)(S:Nat→Prop)(H:Aa)(a:Option Addr)(cap:Nat)(xs:List α):Prop:=
 match a with
 | none=>xs=[]∧cap=0
 | some ad=>xs.length≤cap∧cap≤maxLen∧(cap=0∨ad.spot=none∧S ad.block∧∃ec,Be H ad.block ad.off ec∧T.reps S H ec xs)
theorem g_.intro{T:Ty α}{S:Nat→Prop}{H:Aa}{b o cap:Nat}{xs:List α}{ec:List v_}(a:S b)(c:xs.length≤cap)(d:cap≤maxLen)(e:Be H b o ec)(f:T.reps S H ec xs):g_ T S H (some ⟨b,o,none⟩) cap xs:=
 ⟨c,d,.inr ⟨rfl,a,ec,e,f⟩⟩
theorem g_.frame{T:Ty α}{S:Nat→Prop}{H H':Aa}{a:Option Addr}{cap:Nat}{xs:List α}(h:g_ T S H a cap xs)(k:C_ S H H'):g_ T S H' a cap xs:=by
 cases a with
 | none=>exact h
 | some l=>
   obtain⟨b,c,e | ⟨f,d,g,i,j⟩⟩:=h
   ·exact⟨b,c,.inl e⟩
   ·exact⟨b,c,.inr ⟨f,d,g,i.eq (k _ d),Ty.reps_frame k j⟩⟩
theorem g_.mono{T:Ty α}{S S':Nat→Prop}{H:Aa}{a:Option Addr}{cap:Nat}{xs:List α}(h:g_ T S H a cap xs)(k:∀i,S i→S' i):g_ T S' H a cap xs:=by
 cases a with
 | none=>exact h
 | some m=>
   obtain⟨b,c,d | ⟨e,f,g,j,l⟩⟩:=h
   ·exact⟨b,c,.inl d⟩
   ·exact⟨b,c,.inr ⟨e,k _ f,g,j,Ty.reps_mono k l⟩⟩
theorem g_.le{T:Ty α}{S:Nat→Prop}{H:Aa}{a:Option Addr}{cap:Nat}{xs:List α}(h:g_ T S H a cap xs):xs.length≤cap∧cap≤maxLen:=by
 cases a with
 | none=>obtain⟨rfl,rfl⟩:=h;simp
 | some b=>exact⟨h.1,h.2.1⟩
def tSl(T:Ty α):Ty (List α) where
 size:=1
 rep S H cs xs:=∃a cap,cs=[.slice a xs.length cap]∧g_ T S H a cap xs
 len:=by rintro S H cs x ⟨a,cap,rfl,_⟩;rfl
 frame:=by rintro S H H' cs x ⟨a,cap,e,h⟩ k;exact⟨a,cap,e,h.frame k⟩
 mono:=by rintro S S' H cs x ⟨a,cap,e,h⟩ k;exact⟨a,cap,e,h.mono k⟩
theorem g_.get{T:Ty α}{S:Nat→Prop}{H:Aa}{a:Option Addr}{cap i:Nat}{xs:List α}{x:α}(h:g_ T S H a cap xs)(d:xs[i]?=some x):
  ∃b o c,a=some ⟨b,o,none⟩∧S b∧Be H b (o+i*T.size) c∧T.rep S H c x:=by
 cases a with
 | none=>obtain⟨rfl,_⟩:=h;simp at d
 | some e=>
   have⟨b,o,n⟩:=e;obtain⟨p,q,s | ⟨rfl,f,t,g,j⟩⟩:=h
   ·have:=(O_.1 d).1;omega
   obtain⟨l,c,r,rfl,k,m⟩:=Ty.reps_get j d;exact⟨b,o,c,rfl,f,by rw[←k];exact g.mid,m⟩
theorem ixr{T:Ty α}{P:w_}{t e by_:Nat}{z:v_}{cap i:Nat}{k:IntKind}{j:Int}{S S0:Nat→Prop}{H:Aa}{K:v_→Prop}{a:Option Addr}{xs:List α}{x:α}
  (f:SlT P t e T.size by_ z) (h:g_ T S H a cap xs) (d:xs[i]?=some x) (g:j=(i:Int))
  (l:∀b o c,S b→Be H b o c→T.rep S H c x→K (.pointer (some ⟨b,o,none⟩))):AJ P (Instr.indexAt t (.slice a xs.length cap) (.int k j)) S0 H K:=by
 obtain⟨b,o,c,rfl,m,n,p⟩:=h.get d;subst g;have q:=(O_.1 d).1;exact ix f (by omega) (by omega) (by simpa using l b _ c m n p)
end
theorem fa{P:w_}{s f off e n b o:Nat}{S:Nat→Prop}{H:Aa}{K:v_→Prop}(a:A8 P s f off e n)(k:K (.pointer (some ⟨b,o+off,none⟩))):
  AJ P (Instr.fieldAt s (.pointer (some ⟨b,o,none⟩)) f) S H K:=by
 obtain⟨fs,c,g,h,rfl,rfl⟩:=a.under;refine AJ.mk _ (fun w _=>?_) k;cases d:P.info? c.type with
 | none=>have:=a.size;simp[d]at this
 | some i=>
   have hs:i.size=n:=by have:=a.size;simpa [d]using this
   have j:=a.pos;have l:(⟨b,o,none⟩:Addr).add c.offset=⟨b,o+c.offset,none⟩:=Addr.add_mid _ _ _;simp[Instr.fieldAt,run_underlying g,h,Instr.sureAddr,fieldPlace,sizeOf,typeInfo,d,hs,j,l]
abbrev f_:=@VC.fa
section
variable{P:w_}
theorem M'{t len e sz b o:Nat}{k:IntKind}{i:Int}{S:Nat→Prop}{H:Aa}{K:v_→Prop}(a:Pb P t len e sz)(h0:0≤i)(f:i<len)
  (g:K (.pointer (some ⟨b,o+i.toNat*sz,none⟩))):AJ P (Instr.indexAt t (.pointer (some ⟨b,o,none⟩)) (.int k i)) S H K:=by
 refine AJ.mk _ (fun w _=>?_) g;cases c:P.info? e with
 | none=>have:=a.size;simp[c]at this
 | some d=>
   have hs:d.size=sz:=by have:=a.size;simpa [c]using this
   have h:(⟨b,o,none⟩:Addr).add (i.toNat*sz)=⟨b,o+i.toNat*sz,none⟩:=Addr.add_mid _ _ _;simp[Instr.indexAt,asIntOf,run_underlying a.under,Instr.sureAddr,h0,f,sizeOf,typeInfo,c,hs,h]
theorem XT{t off:Nat}{cs:Array v_}{v:v_}(b:BW P t)(c:cs[off]?=some v)(w:y_):(part t cs off).run P w= .ok v w:=by
 have⟨d,e,f⟩:=b.under;have a:(isAgg t).run P w= .ok false w:=by
  unfold isAgg;rw[Sem.run_bind,run_underlying e w];cases d<;>simp_all
 simp[part,a,c]
theorem XU{t off n:Nat}{cs:Array v_}(b:Hb P t n)(w:y_):(part t cs off).run P w= .ok (.agg (cs.extract off (off+n))) w:=by
 have⟨d,e,f⟩:=b.under;have a:(isAgg t).run P w= .ok true w:=by
  unfold isAgg;rw[Sem.run_bind,run_underlying e w];cases d<;>simp_all
 cases c:P.info? t with
 | none=>have:=b.size;simp[c]at this
 | some i=>
   have hs:i.size=n:=by have:=b.size;simpa [c]using this
   simp[part,a,sizeOf,typeInfo,c,hs]
theorem ixv1{t len e sz:Nat}{k:IntKind}{i:Int}{cs:Array v_}{v:v_}{S:Nat→Prop}{H:Aa}{K:v_→Prop}(a:Pb P t len e sz)(d:BW P e)(h0:0≤i)(f:i<len)
  (g:cs[i.toNat*sz]?=some v) (h:K v):AJ P (Instr.index t (.agg cs) (.int k i)) S H K:=by
 refine AJ.mk _ (fun w _=>?_) h;cases b:P.info? e with
 | none=>have:=a.size;simp[b]at this
 | some c=>
   have hs:c.size=sz:=by have:=a.size;simpa [b]using this
   simp[Instr.index,asIntOf,run_underlying a.under,h0,f,sizeOf,typeInfo,b,hs,XT d g]
theorem Cz{t len e sz:Nat}{vs:Array (Nat×v_)}{S:Nat→Prop}{H:Aa}{K:v_→Prop}(b:Pb P t len e sz)(z:v_)(c:(P.info? t).bind (·.zero)=some z)(l:List v_)
  (h:Instr.fill (fun i=>some (i*sz,sz)) z.cells vs.toList=some l.toArray) (k:K (.agg l.toArray)):AJ P (Instr.build t vs) S H K:=by
 refine AJ.mk _ (fun w _=>?_) k;cases d:P.info? e with
 | none=>have:=b.size;simp[d]at this
 | some f=>
   have hs:f.size=sz:=by have:=b.size;simpa [d]using this
   cases a:P.info? t with
   | none=>rw[a]at c;cases c
   | some j=>
     have g:j.zero=some z:=by simpa [a]using c
     simp[Instr.build,zeroValue,typeInfo,a,g,run_underlying b.under,sizeOf,d,hs,h]
theorem Ax{t:Nat}{fs:Array Field}{vs:Array (Nat×v_)}{S:Nat→Prop}{H:Aa}{K:v_→Prop}(m:P.underlying t=some (.struct fs))(b:fs.toList.all (fun f=>(P.info? f.type).isSome)=true)
  (z:v_) (c:(P.info? t).bind (·.zero)=some z) (l:List v_)
  (n:Instr.fill (fun i=>(fs.toList.map fun f=>(f.offset,P.cellsOf f.type))[i]?) z.cells vs.toList=some l.toArray) (k:K (.agg l.toArray)):AJ P (Instr.build t vs) S H K:=by
 refine AJ.mk _ (fun w _=>?_) k;cases a:P.info? t with
 | none=>rw[a]at c;cases c
 | some o=>
   have d:o.zero=some z:=by simpa [a]using c
   have p:∀(l:List Field),l.all (fun f=>(P.info? f.type).isSome)=true→(l.mapM fun f=>(do pure (f.offset,←sizeOf f.type):Sem (Nat×Nat))).run P w= .ok (l.map fun f=>(f.offset,P.cellsOf f.type)) w:=by
    intro l
    induction l with
    | nil=>intro _;simp
    | cons f l q=>
      intro h;simp only[List.all_cons,r_]at h;have⟨r,s⟩:=YbO.1 h.1;have e:(sizeOf f.type).run P w= .ok (P.cellsOf f.type) w:=by simp[sizeOf,typeInfo,s,Program.cellsOf]
      simp only[List.mapM_cons,Sem.run_bind,e,Result.andThen_ok,Sem.run_pure,q h.2,YaV]
   have g:(fs.mapM fun f=>(do pure (f.offset,←sizeOf f.type):Sem (Nat×Nat))).run P w= .ok (fs.toList.map fun f=>(f.offset,P.cellsOf f.type)).toArray w:=by
    rw[Array.mapM_eq_mapM_toList];rw[show(List.toArray <$> fs.toList.mapM fun f=>(do pure (f.offset,←sizeOf f.type):Sem (Nat×Nat)))=(do let l ←fs.toList.mapM fun f=>(do pure (f.offset,←sizeOf f.type):Sem (Nat×Nat));pure l.toArray)from rfl];rw[Sem.run_bind,p _ b];simp
   have j:(zeroValue t).run P w= .ok z w:=by simp[zeroValue,typeInfo,a,d]
   simp only[Instr.build,Sem.run_bind,j,Result.andThen_ok,run_underlying m];rw[g];simp only[Result.andThen_ok,List.getElem?_toArray,n,Sem.run_pure]
theorem D3{t e:x_}{by_:Nat}{z:v_}{j k:IntKind}{l c:Int}{H:Aa}{K:v_→Aa→Prop}(m:SlT P t e 1 by_ z)(p:z.oneCell'=true)(h0:0≤l)(d:l≤c)(n:(by_:Int)*c≤281474976710656)
  (f:c≤9223372036854775807)
  (h:New H (fun b H'=>K (.slice (T_ b) l.toNat c.toNat) H') e (AiF c.toNat z)):BH P (Instr.makeSlice t (.int j l) (.int k c)) H K:=by
 refine AbE m h0 d n f ?_;have g:z.cells= #[z]:=by cases z<;>simp_all [Value.cells,Value.oneCell']
 have o:((Aj7 (c.toNat*1)).map (z.cells[· % z.cells.size]!))=AiF c.toNat z:=by
  rw[g,L'];apply YaJ;intro i;simp only[o_,YaO];by_cases a:i<c.toNat
  ·rw[YaR a,F_ a];simp[Nat.mod_one]
  ·rw[YaL (by simpa using a),D_ a]<;>rfl
 rw[o];exact h
end
theorem JW{k:IntKind}{x:Int}(h:J' k x):k.wrap x=x:=by
 have⟨a,b⟩:=h;unfold IntKind.wrap;cases k<;>simp only[IntKind.min,IntKind.max,IntKind.signed,IntKind.bits,if_true,Yaw,if_false,Al2,AkC,AkK]at a b ⊢ <;>simp only[Ya0,Yaz,Zzj,Yaw,if_false,ge_iff_le]<;>(try split)<;>omega
theorem w64{x:Int}(h0: -9223372036854775808≤x)(a:x≤9223372036854775807):IntKind.wrap .i64 x=x:=JW ⟨h0,a⟩
theorem W_{x:Int}(h:-9223372036854775808≤x∧x≤9223372036854775807):IntKind.wrap .i64 x=x:=w64 h.1 h.2
theorem P_(x:Int)(h:-9223372036854775808≤x+1∧x+1≤9223372036854775807):IntKind.wrap .i64 (x+1)=x+1:=w64 h.1 h.2
theorem w8{x:Int}(h0:0≤x)(a:x≤255):IntKind.wrap .u8 x=x:=JW ⟨h0,a⟩
theorem Fp{k:IntKind}{x:Nat}(h:J' k (x:Int)):x<2^k.bits:=by
 obtain⟨_,a⟩:=h;cases k<;>simp only[IntKind.max,IntKind.signed,IntKind.bits,if_true,Yaw,if_false,Al2,AkC,AkK]at a ⊢ <;>omega
theorem Z8{k:IntKind}{x y:Nat}(h:J' k (x:Int))(a:y≤x):J' k (y:Int):=by
 obtain⟨_,b⟩:=h;refine⟨?_,by omega⟩;cases k<;>simp only[IntKind.min,IntKind.signed,IntKind.bits,if_true,Yaw,if_false,Al2,AkK]<;>omega
theorem Ke{x:Nat}(h:x<18446744073709551616):J' .u64 (x:Int):=⟨by simp[IntKind.min,IntKind.signed],by simp[IntKind.max,IntKind.signed,IntKind.bits];omega⟩
theorem BX{x:Nat}(h:x<9223372036854775808):J' .i64 (x:Int):=by
 refine⟨?_,by simp[IntKind.max,IntKind.signed,IntKind.bits];omega⟩;have:IntKind.i64.min= -9223372036854775808:=by decide
 omega
theorem K5{x:Nat}(h:x<256):J' .u8 (x:Int):=⟨by simp[IntKind.min,IntKind.signed],by simp[IntKind.max,IntKind.signed,IntKind.bits];omega⟩
theorem IG{P:w_}{t:x_}{x y:z_}{k:IntKind}{a b:Nat}{S:Nat→Prop}{H:Aa}{K:v_→Prop}(c:J' k (a:Int))(d:J' k (b:Int))(e:K (.int k ((a &&& b:Nat):Int))):
  AJ P (do eqGuard .and t x y (.int k a) (.int k b);binOp .and t (.int k a) (.int k b)) S H K:=by
 refine AJ.mk _ (fun w _=>?_) e;have f:(AjT k.bits (a:Int) &&& AjT k.bits (b:Int)).toNat=a &&& b:=by
  simp only[Yao,BitVec.toNat_and,Yan,Ybs (Fp c),Ybs (Fp d)]
 simp[Dv,binOp,Op.intBits,Ybs (Fp c),Ybs (Fp d),JW (Z8 c (Nat.and_le_left))]
theorem Ah3{k:IntKind}{a b:Nat}(c:J' k (a:Int))(d:J' k (b:Int)):J' k ((a ||| b:Nat):Int):=by
 have⟨g,e⟩:=c;have⟨h,f⟩:=d;refine⟨?_,?_⟩
 ·cases k<;>simp only[IntKind.min,IntKind.signed,IntKind.bits,if_true,Yaw,if_false,Al2,AkK]<;>omega
 ·cases k<;>simp only[IntKind.max,IntKind.signed,IntKind.bits,if_true,Yaw,if_false,Al2,AkK]at e f ⊢
  ·have:=Ybx (n:=7) (x:=a) (y:=b) (by omega) (by omega);omega
  ·have:=Ybx (n:=15) (x:=a) (y:=b) (by omega) (by omega);omega
  ·have:=Ybx (n:=31) (x:=a) (y:=b) (by omega) (by omega);omega
  ·have:=Ybx (n:=63) (x:=a) (y:=b) (by omega) (by omega);omega
  ·have:=Ybx (n:=8) (x:=a) (y:=b) (by omega) (by omega);omega
  ·have:=Ybx (n:=16) (x:=a) (y:=b) (by omega) (by omega);omega
  ·have:=Ybx (n:=32) (x:=a) (y:=b) (by omega) (by omega);omega
  ·have:=Ybx (n:=64) (x:=a) (y:=b) (by omega) (by omega);omega
section
variable{P:w_}{t:x_}{x y:z_}
theorem vor{k:IntKind}{a b:Nat}{S:Nat→Prop}{H:Aa}{K:v_→Prop}(c:J' k (a:Int))(d:J' k (b:Int))(e:K (.int k ((a ||| b:Nat):Int))):
  AJ P (do eqGuard .or t x y (.int k a) (.int k b);binOp .or t (.int k a) (.int k b)) S H K:=by
 refine AJ.mk _ (fun w _=>?_) e;have f:(AjT k.bits (a:Int) ||| AjT k.bits (b:Int)).toNat=a ||| b:=by
  simp only[Yao,BitVec.toNat_or,Yan,Ybs (Fp c),Ybs (Fp d)]
 simp[Dv,binOp,Op.intBits,Ybs (Fp c),Ybs (Fp d),JW (Ah3 c d)]
theorem Ly{k c:IntKind}{a b:Nat}{S:Nat→Prop}{H:Aa}{K:v_→Prop}(d:b≤k.bits)(e:K (.int k ((a / 2^b:Nat):Int))):
  AJ P (do eqGuard .shr t x y (.int k a) (.int c b);binOp .shr t (.int k a) (.int c b)) S H K:=by
 refine AJ.mk _ (fun w _=>?_) e;have f:((a:Int).fdiv (2^b))=((a / 2^b:Nat):Int):=by
  rw[Int.fdiv_eq_ediv_of_nonneg _ (by exact_mod_cast t_ _)]
  push_cast;rfl
 have e2:min b k.bits=b:=Yb1 d;have g:¬((b:Int)<0):=by omega
 simp[Dv,binOp,Op.shift,e2,g,f]
theorem AhS{k d:IntKind}{a b:Nat}{S:Nat→Prop}{H:Aa}{K:v_→Prop}(e:b≤k.bits)(c:J' k ((a*2^b:Nat):Int))(f:K (.int k ((a*2^b:Nat):Int))):
  AJ P (do eqGuard .shl t x y (.int k a) (.int d b);binOp .shl t (.int k a) (.int d b)) S H K:=by
 refine AJ.mk _ (fun w _=>?_) f;have e2:min b k.bits=b:=Yb1 e;have g:¬((b:Int)<0):=by omega
 have h:(a:Int)*2^b=((a*2^b:Nat):Int):=by push_cast;rfl
 simp only[Dv,binOp,Op.shift,Sem.run_bind,Result.andThen_ok,g,if_false,U',e2,h,JW c,Sem.run_pure]
end
section
variable{P:w_}{t m D D':Nat}{a bs:Array v_}{la lb:List Lit}
theorem OI(e:P.keyTypeAt m t=true)(n:m≤10000)(f:P.eqGuardType P.depth t=false)
  (fa:(Value.agg a).formed P t=true) (fb:(Value.agg bs).formed P t=true) (g:P.keyLits D t a.toList=some la) (h:P.keyLits D' t bs.toList=some lb) {r:Bool} (i:r=true↔la=lb)
  {op:BinOp} (b:op= .eql∨op= .neq) (x y:z_) (w:y_):
  (do eqGuard op t x y (.agg a) (.agg bs);binOp op t (.agg a) (.agg bs):Sem v_).run P w= .ok (.bool (if op matches .eql then r else !r)) w:=by
 have⟨j,d,k⟩:=run_equalIn_deep (10000-m) m t e w D D' (.agg a) (.agg bs) la lb fa fb g h;rw[show 10000-m+m=10000 by omega]at d;have c:j=r:=by rw[Bool.eq_iff_iff,k,i]
 subst c;have l:program.run P w= .ok P w:=rfl;rcases b with rfl | rfl<;>simp[eqGuard,l,f,binOp,Op.equal,Op.maxDepth,d]
theorem veq{x y:z_}{S:Nat→Prop}{H:Aa}{K:v_→Prop}(b:P.keyTypeAt m t=true)(c:m≤10000)(d:P.eqGuardType P.depth t=false)
  (fa:(Value.agg a).formed P t=true) (fb:(Value.agg bs).formed P t=true) (e:P.keyLits D t a.toList=some la) (f:P.keyLits D' t bs.toList=some lb) {r:Bool} (g:r=true↔la=lb) (k:K (.bool r)):
  AJ P (do eqGuard .eql t x y (.agg a) (.agg bs);binOp .eql t (.agg a) (.agg bs)) S H K:=
 AJ.mk _ (fun w _=>OI b c d fa fb e f g (.inl rfl) x y w) k
theorem vneq{x y:z_}{S:Nat→Prop}{H:Aa}{K:v_→Prop}(b:P.keyTypeAt m t=true)(c:m≤10000)(d:P.eqGuardType P.depth t=false)
  (fa:(Value.agg a).formed P t=true) (fb:(Value.agg bs).formed P t=true) (e:P.keyLits D t a.toList=some la) (f:P.keyLits D' t bs.toList=some lb) {r:Bool} (g:r=true↔la=lb) (k:K (.bool (!r))):
  AJ P (do eqGuard .neq t x y (.agg a) (.agg bs);binOp .neq t (.agg a) (.agg bs)) S H K:=
 AJ.mk _ (fun w _=>OI b c d fa fb e f g (.inr rfl) x y w) k
end
def BM(P:w_)(f:FuncId)(args:Array v_)(H:Aa)(v:v_):Prop:=
 Ak P f args H fun v' H'=>v'=v∧C_ (fun k=>k<H.size) H H'
def H_(H:Aa)(k:Nat):Prop:=k<H.size
theorem Ar{H H':Aa}(h:C_ (H_ H) H H'){k:Nat}(a:H_ H k):k<H'.size:=by
 have b:=h k a;unfold H_ at a;rw[Yag a]at b;exact(Yaa.1 b).1
theorem Bv{H H':Aa}(h:C_ (H_ H) H H'):H.size≤H'.size:=Y7 h (I_ _)
section
variable{P:w_}{f:FuncId}{a:Array v_}{H:Aa}
theorem Aj6{K:v_→Prop}{v:v_}
  (h:∀H',C_ (H_ H) H H'→BM P f a H' v) (k:K v):Ki P f a (H_ H) H K:=
 Ki.mk v (fun H' b=>(h H' b).mono fun g H'' ⟨e,c⟩=>⟨e,c.mono fun k d=>Ar b d⟩) k
theorem Ah{K:v_→Aa→Prop}{v:v_}
  (h:BM P f a H v) (k:∀H',C_ (H_ H) H H'→K v H'):Ae P f a H K:=
 Ae.mk h fun c H' ⟨e,b⟩=>by subst e;exact k H' b
end
end Go.VC
namespace Go.Proofs.YtfbghcpdinlmcaaGreatDoor
open Go.VC
theorem E_:BW prog 3:=⟨⟨_,rfl,rfl⟩,rfl⟩
theorem ct4:BW prog 4:=⟨⟨_,rfl,rfl⟩,rfl⟩
theorem ct5:BW prog 5:=⟨⟨_,rfl,rfl⟩,rfl⟩
theorem ag8:Hb prog 8 4:=⟨⟨_,rfl,rfl⟩,rfl⟩
theorem ct9:BW prog 9:=⟨⟨_,rfl,rfl⟩,rfl⟩
theorem Pf:BW prog 23:=⟨⟨_,rfl,rfl⟩,rfl⟩
theorem Ks:BW prog 24:=⟨⟨_,rfl,rfl⟩,rfl⟩
theorem E4:BW prog 28:=⟨⟨_,rfl,rfl⟩,rfl⟩
theorem M9:BW prog 35:=⟨⟨_,rfl,rfl⟩,rfl⟩
theorem EY:SlT prog 35 41 1 24 (.slice none 0 0):=⟨rfl,⟨_,rfl,rfl,rfl,rfl⟩,rfl⟩
theorem Pg:BW prog 36:=⟨⟨_,rfl,rfl⟩,rfl⟩
theorem CJ:SlT prog 36 4 1 1 (.bool false):=⟨rfl,⟨_,rfl,rfl,rfl,rfl⟩,rfl⟩
theorem FK:BW prog 41:=⟨⟨_,rfl,rfl⟩,rfl⟩
theorem AU:SlT prog 41 3 1 8 (.int .i64 0):=⟨rfl,⟨_,rfl,rfl,rfl,rfl⟩,rfl⟩
theorem DZ:BW prog 54:=⟨⟨_,rfl,rfl⟩,rfl⟩
theorem EZ:SlT prog 54 159 261 296 (Tryz.t159.zero.getD undef):=⟨rfl,⟨_,rfl,rfl,rfl,rfl⟩,rfl⟩
theorem JZ:Hb prog 56 2:=⟨⟨_,rfl,rfl⟩,rfl⟩
theorem F1:A8 prog 56 0 0 54 1:=⟨⟨_,_,rfl,rfl,rfl,rfl⟩,rfl,AhW⟩
theorem Zv:A8 prog 56 1 1 3 1:=⟨⟨_,_,rfl,rfl,rfl,rfl⟩,rfl,AhW⟩
theorem Zw:A8 prog 64 0 0 28 1:=⟨⟨_,_,rfl,rfl,rfl,rfl⟩,rfl,AhW⟩
theorem Zx:A8 prog 64 1 1 28 1:=⟨⟨_,_,rfl,rfl,rfl,rfl⟩,rfl,AhW⟩
theorem Zy:A8 prog 65 0 0 28 1:=⟨⟨_,_,rfl,rfl,rfl,rfl⟩,rfl,AhW⟩
theorem Zz:A8 prog 65 1 1 28 1:=⟨⟨_,_,rfl,rfl,rfl,rfl⟩,rfl,AhW⟩
theorem N8:Hb prog 68 3:=⟨⟨_,rfl,rfl⟩,rfl⟩
theorem IW:BW prog 74:=⟨⟨_,rfl,rfl⟩,rfl⟩
theorem Jx:SlT prog 74 174 7 56 (Tryz.t174.zero.getD undef):=⟨rfl,⟨_,rfl,rfl,rfl,rfl⟩,rfl⟩
theorem FI:Hb prog 76 4:=⟨⟨_,rfl,rfl⟩,rfl⟩
theorem E8:A8 prog 76 0 0 3 1:=⟨⟨_,_,rfl,rfl,rfl,rfl⟩,rfl,AhW⟩
theorem K1:A8 prog 76 1 1 3 1:=⟨⟨_,_,rfl,rfl,rfl,rfl⟩,rfl,AhW⟩
theorem LA:A8 prog 76 2 2 3 1:=⟨⟨_,_,rfl,rfl,rfl,rfl⟩,rfl,AhW⟩
theorem ES:A8 prog 76 3 3 74 1:=⟨⟨_,_,rfl,rfl,rfl,rfl⟩,rfl,AhW⟩
theorem ct78:BW prog 78:=⟨⟨_,rfl,rfl⟩,rfl⟩
theorem Fj:BW prog 99:=⟨⟨_,rfl,rfl⟩,rfl⟩
theorem Ch:Pb prog 101 4 99 1:=⟨rfl,rfl⟩
theorem AT:Hb prog 101 4:=⟨⟨_,rfl,rfl⟩,rfl⟩
theorem AcP:A8 prog 104 0 0 101 4:=⟨⟨_,_,rfl,rfl,rfl,rfl⟩,rfl,AhW⟩
theorem VQ:A8 prog 105 0 0 28 1:=⟨⟨_,_,rfl,rfl,rfl,rfl⟩,rfl,AhW⟩
theorem QZ:A8 prog 105 1 1 28 1:=⟨⟨_,_,rfl,rfl,rfl,rfl⟩,rfl,AhW⟩
theorem S5:BW prog 106:=⟨⟨_,rfl,rfl⟩,rfl⟩
theorem C0:SlT prog 106 101 4 32 (Tryz.t101.zero.getD undef):=⟨rfl,⟨_,rfl,rfl,rfl,rfl⟩,rfl⟩
theorem Af0:Pb prog 107 256 5 1:=⟨rfl,rfl⟩
theorem KT:A8 prog 109 0 0 106 1:=⟨⟨_,_,rfl,rfl,rfl,rfl⟩,rfl,AhW⟩
theorem VR:A8 prog 109 1 1 107 256:=⟨⟨_,_,rfl,rfl,rfl,rfl⟩,rfl,AhW⟩
theorem GK:A8 prog 109 2 257 35 1:=⟨⟨_,_,rfl,rfl,rfl,rfl⟩,rfl,AhW⟩
theorem Ra:A8 prog 109 3 258 36 1:=⟨⟨_,_,rfl,rfl,rfl,rfl⟩,rfl,AhW⟩
theorem MV:A8 prog 109 4 259 36 1:=⟨⟨_,_,rfl,rfl,rfl,rfl⟩,rfl,AhW⟩
theorem AiD:BW prog 120:=⟨⟨_,rfl,rfl⟩,rfl⟩
theorem Dk:Pb prog 129 2 3 1:=⟨rfl,rfl⟩
theorem MW:A8 prog 139 0 0 9 1:=⟨⟨_,_,rfl,rfl,rfl,rfl⟩,rfl,AhW⟩
theorem AK:A8 prog 139 1 1 3 1:=⟨⟨_,_,rfl,rfl,rfl,rfl⟩,rfl,AhW⟩
theorem GL:A8 prog 139 2 2 41 1:=⟨⟨_,_,rfl,rfl,rfl,rfl⟩,rfl,AhW⟩
theorem VF:BW prog 140:=⟨⟨_,rfl,rfl⟩,rfl⟩
theorem AX:Hb prog 142 2:=⟨⟨_,rfl,rfl⟩,rfl⟩
theorem MX:A8 prog 142 0 0 3 1:=⟨⟨_,_,rfl,rfl,rfl,rfl⟩,rfl,AhW⟩
theorem MY:A8 prog 142 1 1 140 1:=⟨⟨_,_,rfl,rfl,rfl,rfl⟩,rfl,AhW⟩
theorem C7:BW prog 146:=⟨⟨_,rfl,rfl⟩,rfl⟩
theorem FG:SlT prog 146 150 6 48 (Tryz.t150.zero.getD undef):=⟨rfl,⟨_,rfl,rfl,rfl,rfl⟩,rfl⟩
theorem Cq:A8 prog 148 0 0 54 1:=⟨⟨_,_,rfl,rfl,rfl,rfl⟩,rfl,AhW⟩
theorem Bs:A8 prog 148 1 1 146 1:=⟨⟨_,_,rfl,rfl,rfl,rfl⟩,rfl,AhW⟩
theorem Ai4:Hb prog 150 6:=⟨⟨_,rfl,rfl⟩,rfl⟩
theorem AcQ:A8 prog 150 0 0 3 1:=⟨⟨_,_,rfl,rfl,rfl,rfl⟩,rfl,AhW⟩
theorem JN:A8 prog 150 1 1 3 1:=⟨⟨_,_,rfl,rfl,rfl,rfl⟩,rfl,AhW⟩
theorem Dd:A8 prog 150 2 2 3 1:=⟨⟨_,_,rfl,rfl,rfl,rfl⟩,rfl,AhW⟩
theorem MZ:A8 prog 150 3 3 5 1:=⟨⟨_,_,rfl,rfl,rfl,rfl⟩,rfl,AhW⟩
theorem CD:A8 prog 150 4 4 3 1:=⟨⟨_,_,rfl,rfl,rfl,rfl⟩,rfl,AhW⟩
theorem De:A8 prog 150 5 5 3 1:=⟨⟨_,_,rfl,rfl,rfl,rfl⟩,rfl,AhW⟩
theorem E6:Pb prog 157 256 4 1:=⟨rfl,rfl⟩
theorem Y6:Hb prog 157 256:=⟨⟨_,rfl,rfl⟩,rfl⟩
theorem KN:Hb prog 159 261:=⟨⟨_,rfl,rfl⟩,rfl⟩
theorem BI:A8 prog 159 0 0 3 1:=⟨⟨_,_,rfl,rfl,rfl,rfl⟩,rfl,AhW⟩
theorem Rb:A8 prog 159 1 1 157 256:=⟨⟨_,_,rfl,rfl,rfl,rfl⟩,rfl,AhW⟩
theorem Ci:A8 prog 159 2 257 3 1:=⟨⟨_,_,rfl,rfl,rfl,rfl⟩,rfl,AhW⟩
theorem Ej:A8 prog 159 3 258 3 1:=⟨⟨_,_,rfl,rfl,rfl,rfl⟩,rfl,AhW⟩
theorem VS:A8 prog 159 4 259 3 1:=⟨⟨_,_,rfl,rfl,rfl,rfl⟩,rfl,AhW⟩
theorem GM:A8 prog 159 5 260 3 1:=⟨⟨_,_,rfl,rfl,rfl,rfl⟩,rfl,AhW⟩
theorem P8:BW prog 168:=⟨⟨_,rfl,rfl⟩,rfl⟩
theorem S6:BW prog 170:=⟨⟨_,rfl,rfl⟩,rfl⟩
theorem TD:SlT prog 170 74 1 24 (.slice none 0 0):=⟨rfl,⟨_,rfl,rfl,rfl,rfl⟩,rfl⟩
theorem Na:A8 prog 172 0 0 35 1:=⟨⟨_,_,rfl,rfl,rfl,rfl⟩,rfl,AhW⟩
theorem KU:A8 prog 172 1 1 170 1:=⟨⟨_,_,rfl,rfl,rfl,rfl⟩,rfl,AhW⟩
theorem Nb:A8 prog 172 2 2 3 1:=⟨⟨_,_,rfl,rfl,rfl,rfl⟩,rfl,AhW⟩
theorem N6:Hb prog 174 7:=⟨⟨_,rfl,rfl⟩,rfl⟩
theorem GN:A8 prog 174 0 0 3 1:=⟨⟨_,_,rfl,rfl,rfl,rfl⟩,rfl,AhW⟩
theorem JO:A8 prog 174 1 1 3 1:=⟨⟨_,_,rfl,rfl,rfl,rfl⟩,rfl,AhW⟩
theorem VT:A8 prog 174 2 2 4 1:=⟨⟨_,_,rfl,rfl,rfl,rfl⟩,rfl,AhW⟩
theorem Rc:A8 prog 174 3 3 101 4:=⟨⟨_,_,rfl,rfl,rfl,rfl⟩,rfl,AhW⟩
theorem VG:BW prog 201:=⟨⟨_,rfl,rfl⟩,rfl⟩
theorem CS:SlT prog 201 5 1 1 (.int .u8 0):=⟨rfl,⟨_,rfl,rfl,rfl,rfl⟩,rfl⟩
theorem Rd:A8 prog 216 0 0 3 1:=⟨⟨_,_,rfl,rfl,rfl,rfl⟩,rfl,AhW⟩
theorem Nc:A8 prog 216 1 1 3 1:=⟨⟨_,_,rfl,rfl,rfl,rfl⟩,rfl,AhW⟩
theorem N7:Hb prog 224 2:=⟨⟨_,rfl,rfl⟩,rfl⟩
theorem VU:A8 prog 224 0 0 3 1:=⟨⟨_,_,rfl,rfl,rfl,rfl⟩,rfl,AhW⟩
theorem VV:A8 prog 224 1 1 3 1:=⟨⟨_,_,rfl,rfl,rfl,rfl⟩,rfl,AhW⟩
theorem AiE:BW prog 238:=⟨⟨_,rfl,rfl⟩,rfl⟩
theorem Cd:A8 prog 246 0 0 76 4:=⟨⟨_,_,rfl,rfl,rfl,rfl⟩,rfl,AhW⟩
theorem VW:A8 prog 246 1 4 78 1:=⟨⟨_,_,rfl,rfl,rfl,rfl⟩,rfl,AhW⟩
theorem CE:A8 prog 246 2 5 24 1:=⟨⟨_,_,rfl,rfl,rfl,rfl⟩,rfl,AhW⟩
theorem Af5:BW prog 256:=⟨⟨_,rfl,rfl⟩,rfl⟩
theorem Mh:BW prog 257:=⟨⟨_,rfl,rfl⟩,rfl⟩
theorem OP:SlT prog 257 9 1 16 (Tryz.t9.zero.getD undef):=⟨rfl,⟨_,rfl,rfl,rfl,rfl⟩,rfl⟩
theorem VX:A8 prog 259 0 0 256 1:=⟨⟨_,_,rfl,rfl,rfl,rfl⟩,rfl,AhW⟩
theorem GP:A8 prog 259 1 1 257 1:=⟨⟨_,_,rfl,rfl,rfl,rfl⟩,rfl,AhW⟩
theorem AcR:A8 prog 259 2 2 3 1:=⟨⟨_,_,rfl,rfl,rfl,rfl⟩,rfl,AhW⟩
theorem Af1:Pb prog 263 2 101 4:=⟨rfl,rfl⟩
theorem S7:BW prog 264:=⟨⟨_,rfl,rfl⟩,rfl⟩
theorem TE:SlT prog 264 267 1 24 (.slice none 0 0):=⟨rfl,⟨_,rfl,rfl,rfl,rfl⟩,rfl⟩
theorem AcS:A8 prog 266 0 0 56 2:=⟨⟨_,_,rfl,rfl,rfl,rfl⟩,rfl,AhW⟩
theorem GQ:A8 prog 266 1 2 9 1:=⟨⟨_,_,rfl,rfl,rfl,rfl⟩,rfl,AhW⟩
theorem KV:A8 prog 266 2 3 264 1:=⟨⟨_,_,rfl,rfl,rfl,rfl⟩,rfl,AhW⟩
theorem VH:BW prog 267:=⟨⟨_,rfl,rfl⟩,rfl⟩
theorem WE:SlT prog 267 36 1 24 (.slice none 0 0):=⟨rfl,⟨_,rfl,rfl,rfl,rfl⟩,rfl⟩
theorem Nf:A8 prog 279 1 1 201 1:=⟨⟨_,_,rfl,rfl,rfl,rfl⟩,rfl,AhW⟩
theorem Ps:Hb prog 288 2:=⟨⟨_,rfl,rfl⟩,rfl⟩
theorem VY:A8 prog 288 0 0 3 1:=⟨⟨_,_,rfl,rfl,rfl,rfl⟩,rfl,AhW⟩
theorem VZ:A8 prog 288 1 1 3 1:=⟨⟨_,_,rfl,rfl,rfl,rfl⟩,rfl,AhW⟩
theorem Ai5:Hb prog 290 2:=⟨⟨_,rfl,rfl⟩,rfl⟩
theorem Wa:A8 prog 290 0 0 3 1:=⟨⟨_,_,rfl,rfl,rfl,rfl⟩,rfl,AhW⟩
theorem AcT:A8 prog 290 1 1 5 1:=⟨⟨_,_,rfl,rfl,rfl,rfl⟩,rfl,AhW⟩
theorem Qr:SlT prog 292 288 2 16 (Tryz.t288.zero.getD undef):=⟨rfl,⟨_,rfl,rfl,rfl,rfl⟩,rfl⟩
theorem Af6:BW prog 298:=⟨⟨_,rfl,rfl⟩,rfl⟩
theorem Mi:BW prog 299:=⟨⟨_,rfl,rfl⟩,rfl⟩
theorem WF:SlT prog 299 224 2 16 (Tryz.t224.zero.getD undef):=⟨rfl,⟨_,rfl,rfl,rfl,rfl⟩,rfl⟩
theorem Wb:A8 prog 301 0 0 298 1:=⟨⟨_,_,rfl,rfl,rfl,rfl⟩,rfl,AhW⟩
theorem GR:A8 prog 301 1 1 299 1:=⟨⟨_,_,rfl,rfl,rfl,rfl⟩,rfl,AhW⟩
theorem AcU:A8 prog 301 2 2 3 1:=⟨⟨_,_,rfl,rfl,rfl,rfl⟩,rfl,AhW⟩
theorem Wc:A8 prog 305 0 0 28 1:=⟨⟨_,_,rfl,rfl,rfl,rfl⟩,rfl,AhW⟩
theorem Re:A8 prog 305 1 1 28 1:=⟨⟨_,_,rfl,rfl,rfl,rfl⟩,rfl,AhW⟩
theorem Wd:A8 prog 310 0 0 28 1:=⟨⟨_,_,rfl,rfl,rfl,rfl⟩,rfl,AhW⟩
theorem AeU:Hb prog 335 2:=⟨⟨_,rfl,rfl⟩,rfl⟩
theorem We:A8 prog 335 0 0 5 1:=⟨⟨_,_,rfl,rfl,rfl,rfl⟩,rfl,AhW⟩
theorem Wf:A8 prog 335 1 1 5 1:=⟨⟨_,_,rfl,rfl,rfl,rfl⟩,rfl,AhW⟩
theorem Af2:Pb prog 336 3 335 2:=⟨rfl,rfl⟩
theorem AeV:Hb prog 336 6:=⟨⟨_,rfl,rfl⟩,rfl⟩
theorem Rf:A8 prog 357 0 0 9 1:=⟨⟨_,_,rfl,rfl,rfl,rfl⟩,rfl,AhW⟩
theorem AI:A8 prog 357 1 1 3 1:=⟨⟨_,_,rfl,rfl,rfl,rfl⟩,rfl,AhW⟩
def wd(s:BitVec 256)(i:Nat):Nat:=(s.toNat / 2^(64*i)) % 2^64
def Bt(s:BitVec 256):v_:=.agg #[.int .u64 (wd s 0),.int .u64 (wd s 1),.int .u64 (wd s 2),.int .u64 (wd s 3)]
def Ad(s:BitVec 256):List v_:=[.int .u64 (wd s 0),.int .u64 (wd s 1),.int .u64 (wd s 2),.int .u64 (wd s 3)]
theorem JE(s:BitVec 256)(i:Nat):wd s i<2^64:=YbJ _ (by decide)
theorem E3(s:BitVec 256)(i:Nat):J' .u64 (wd s i:Int):=by
 have:=JE s i;refine⟨?_,?_⟩<;>simp only[IntKind.min,IntKind.max,IntKind.signed,IntKind.bits]<;>simp<;>omega
theorem Fb(s:BitVec 256)(i j:Nat)(a:j<64):(wd s i).testBit j=s.getLsbD (64*i+j):=by
 unfold wd;rw[YbE,YbF,BitVec.testBit_toNat];simp[a];congr 1;omega
theorem AbG{s t:BitVec 256}(h:∀i,i<4→wd s i=wd t i):s=t:=by
 apply Yap;intro k c;have a:=Fb s (k / 64) (k % 64) (YbJ _ (by decide));have b:=Fb t (k / 64) (k % 64) (YbJ _ (by decide));rw[show 64*(k / 64)+k % 64=k by omega]at a b;rw[←a,←b,h _ (by omega)]
theorem Aj9{s t:BitVec 256}(h:Bt s=Bt t):s=t:=by
 unfold Bt at h;simp only[Value.agg.injEq,Array.mk.injEq,List.cons.injEq,Value.int.injEq,true_and,and_true,Ya2]at h;apply AbG;intro i a
 match i,a with
 | 0,_=>exact h.1
 | 1,_=>exact h.2.1
 | 2,_=>exact h.2.2.1
 | 3,_=>exact h.2.2.2
theorem SM(s:BitVec 256)(b:Nat)(i:b<256)(H:Aa):BM prog 92 #[Bt s,.int .u8 b] H (.bool (s.getLsbD b)):=by
 refine Ak.of_vc func92 rfl (call92 _) ?_;(conv=>whnf);refine Ct (Ad s) rfl ?_;intro p H1 e f a c;refine Ly (b:=6) (by decide) (M' Ch (by omega) (by omega) (G_ Fj (v:=.int .u64 (wd s (b / 64))) ?_ trivial ?_))
 ·rw[a.cell];have:b / 2^6<4:=by omega
  rw[show b / 64=b / 2^6 by omega];generalize b / 2^6=q at this
  match q,this with
  | 0,_=>rfl
  | 1,_=>rfl
  | 2,_=>rfl
  | 3,_=>rfl
 refine IG (b:=63) ⟨by simp[IntKind.min,IntKind.signed],by simp[IntKind.max,IntKind.signed,IntKind.bits];omega⟩ ⟨by decide,by decide⟩ ?_;refine Ly (YbA Ybz (by decide)) (IG (b:=1) (Z8 (E3 s _) (Nat.div_le_self _ _)) ⟨by decide,by decide⟩ ?_);(conv=>whnf);refine⟨?_,by rw[←e];exact c⟩
 congr 1
 have g:b &&& 63=b % 64:=by rw[show(63:Nat)=2^6-1 by decide,Yb2]
 have d:=Fb s (b / 64) (b % 64) (YbJ _ (by decide));rw[show 64*(b / 64)+b % 64=b by omega]at d;rw[g,←d,Nat.testBit_eq_decide_div_mod_eq,Nat.and_one_is_mod];have:=Nat.mod_two_eq_zero_or_one (wd s (b / 64) / 2^(b % 64));rcases this with h | h<;>simp[h]
theorem RR(a b:BitVec 256)(i:Nat):wd (a &&& b) i=wd a i &&& wd b i:=by
 apply YbB;intro j;rw[Nat.testBit_and];by_cases c:j<64
 ·rw[Fb _ _ _ c,Fb _ _ _ c,Fb _ _ _ c,BitVec.getLsbD_and]
 ·rw[Ybv (Ybu (JE _ _) (Yby (by decide) (by omega))),
   Ybv (x:=wd a i) (Ybu (JE _ _) (Yby (by decide) (by omega)))];rfl
theorem WR(a b:BitVec 256)(i:Nat):wd (a ||| b) i=wd a i ||| wd b i:=by
 apply YbB;intro j;rw[YbH];by_cases c:j<64
 ·rw[Fb _ _ _ c,Fb _ _ _ c,Fb _ _ _ c,Yaq]
 ·rw[Ybv (Ybu (JE _ _) (Yby (by decide) (by omega))),
   Ybv (x:=wd a i) (Ybu (JE _ _) (Yby (by decide) (by omega))),
   Ybv (x:=wd b i) (Ybu (JE _ _) (Yby (by decide) (by omega)))];rfl
theorem UL(a b:BitVec 256)(H:Aa):BM prog 144 #[Bt a,Bt b] H (Bt (a &&& b)):=by
 refine Ak.of_vc func144 rfl (call144 _) (Ct (Ad a) rfl ?_);intro p H1 u m c g;refine Ct (Ad b) rfl ?_;intro q H2 w n d f;refine Am (Bt 0) (Ad 0) rfl rfl ?_;intro r H3 x o h e;replace c:=(c.agr f (show p<q by omega)).agr e (show p<r by omega);replace d:=d.agr e (show q<r by omega);refine M' Ch (by decide) (by decide) (G_ Fj ((c.cell _).trans rfl) trivial (M' Ch (by decide) (by decide) (G_ Fj ((d.cell _).trans rfl) trivial (IG (E3 a _) (E3 b _) (M' Ch (by decide) (by decide) (G_ Fj ((c.cell _).trans rfl) trivial (M' Ch (by decide) (by decide) (G_ Fj ((d.cell _).trans rfl) trivial (IG (E3 a _) (E3 b _) (M' Ch (by decide) (by decide) (G_ Fj ((c.cell _).trans rfl) trivial (M' Ch (by decide) (by decide) (G_ Fj ((d.cell _).trans rfl) trivial (IG (E3 a _) (E3 b _) (M' Ch (by decide) (by decide) (G_ Fj ((c.cell _).trans rfl) trivial (M' Ch (by decide) (by decide) (G_ Fj ((d.cell _).trans rfl) trivial (IG (E3 a _) (E3 b _) (Cz Ch (Bt 0) rfl [Value.int .u64 ((wd a 0 &&& wd b 0:Nat):Int),Value.int .u64 ((wd a 1 &&& wd b 1:Nat):Int),Value.int .u64 ((wd a 2 &&& wd b 2:Nat):Int),Value.int .u64 ((wd a 3 &&& wd b 3:Nat):Int)] rfl (stN rfl h (show 0+4≤4 by decide) rfl ?_)))))))))))))))))))));intro H4 i l s;refine L_ (cs:=[Value.int .u64 ((wd a 0 &&& wd b 0:Nat):Int),Value.int .u64 ((wd a 1 &&& wd b 1:Nat):Int),Value.int .u64 ((wd a 2 &&& wd b 2:Nat):Int),Value.int .u64 ((wd a 3 &&& wd b 3:Nat):Int)]) AT (i.cells (fun j v t=>by simpa [Ai,Ad]using t)) trivial (⟨?_,?_⟩)
 ·unfold Bt;rw[RR,RR,RR,RR]
 ·intro k y;rw[l k (by omega),e k (by omega),f k (by omega),g k (by omega)]
theorem FY(a b:BitVec 256)(H:Aa):BM prog 162 #[Bt a,Bt b] H (Bt (a ||| b)):=by
 refine Ak.of_vc func162 rfl (call162 _) (Ct (Ad a) rfl ?_);intro p H1 u m c g;refine Ct (Ad b) rfl ?_;intro q H2 w n d f;refine Am (Bt 0) (Ad 0) rfl rfl ?_;intro r H3 x o h e;replace c:=(c.agr f (show p<q by omega)).agr e (show p<r by omega);replace d:=d.agr e (show q<r by omega);refine M' Ch (by decide) (by decide) (G_ Fj ((c.cell _).trans rfl) trivial (M' Ch (by decide) (by decide) (G_ Fj ((d.cell _).trans rfl) trivial (vor (E3 a _) (E3 b _) (M' Ch (by decide) (by decide) (G_ Fj ((c.cell _).trans rfl) trivial (M' Ch (by decide) (by decide) (G_ Fj ((d.cell _).trans rfl) trivial (vor (E3 a _) (E3 b _) (M' Ch (by decide) (by decide) (G_ Fj ((c.cell _).trans rfl) trivial (M' Ch (by decide) (by decide) (G_ Fj ((d.cell _).trans rfl) trivial (vor (E3 a _) (E3 b _) (M' Ch (by decide) (by decide) (G_ Fj ((c.cell _).trans rfl) trivial (M' Ch (by decide) (by decide) (G_ Fj ((d.cell _).trans rfl) trivial (vor (E3 a _) (E3 b _) (Cz Ch (Bt 0) rfl [Value.int .u64 ((wd a 0 ||| wd b 0:Nat):Int),Value.int .u64 ((wd a 1 ||| wd b 1:Nat):Int),Value.int .u64 ((wd a 2 ||| wd b 2:Nat):Int),Value.int .u64 ((wd a 3 ||| wd b 3:Nat):Int)] rfl (stN rfl h (show 0+4≤4 by decide) rfl ?_)))))))))))))))))))));intro H4 i l s;refine L_ (cs:=[Value.int .u64 ((wd a 0 ||| wd b 0:Nat):Int),Value.int .u64 ((wd a 1 ||| wd b 1:Nat):Int),Value.int .u64 ((wd a 2 ||| wd b 2:Nat):Int),Value.int .u64 ((wd a 3 ||| wd b 3:Nat):Int)]) AT (i.cells (fun j v t=>by simpa [Ai,Ad]using t)) trivial (⟨?_,?_⟩)
 ·unfold Bt;rw[WR,WR,WR,WR]
 ·intro k y;rw[l k (by omega),e k (by omega),f k (by omega),g k (by omega)]
theorem AeW(b:Nat):b &&& 63=b % 64:=by rw[show(63:Nat)=2^6-1 by decide,Yb2]
theorem T5(s:BitVec 256)(b:Nat)(a:b<256):(Ad s)[b / 2^6]?=some (.int .u64 (wd s (b / 64))):=by
 have:b / 2^6<4:=by omega
 rw[show b / 64=b / 2^6 by omega];generalize b / 2^6=q at this
 match q,this with
 | 0,_=>rfl
 | 1,_=>rfl
 | 2,_=>rfl
 | 3,_=>rfl
theorem RT(s:BitVec 256)(b i:Nat)(e:b<256):wd (s ||| Al3 256 b) i=if i=b / 64 then wd s i ||| 2^(b % 64)else wd s i:=by
 apply YbB;intro j;by_cases c:j<64
 ·rw[Fb _ _ _ c,Yaq,Yas];by_cases d:i=b / 64
  ·rw[F_ d,YbH,Fb _ _ _ c,YbL]
   congr 1
   by_cases h:b % 64=j
   ·have:b=64*i+j:=by omega
    simp[h,←this,e]
   ·have:¬b=64*i+j:=by omega
    simp[h,this]
  ·rw[D_ d,Fb _ _ _ c];have:¬b=64*i+j:=by omega
   simp[this]
 ·have a:2^64≤2^j:=Yby (by decide) (by omega);rw[Ybv (Ybu (JE _ _) a)];split
  ·rw[YbH,Ybv (Ybu (JE _ _) a),YbL];simp;omega
  ·rw[Ybv (Ybu (JE _ _) a)]
theorem T6(s:BitVec 256)(b:Nat)(a:b<256):(Ad s).set (b / 64) (.int .u64 ((wd s (b / 64) ||| 2^(b % 64):Nat):Int))=Ad (s ||| Al3 256 b):=by
 have h:b / 64<4:=by omega
 unfold Ad;rw[RT s b 0 a,RT s b 1 a,RT s b 2 a,RT s b 3 a];generalize b / 64=q at h
 match q,h with
 | 0,_=>rfl
 | 1,_=>rfl
 | 2,_=>rfl
 | 3,_=>rfl
theorem AhG(lo g:Nat)(F:lo<256)(G:g<256)(H:Aa):Ak prog 124 #[.int .u8 lo,.int .u8 g] H fun v H'=>
  (∃s,v=Bt s∧∀b,b<256→s.getLsbD b=(decide (lo≤b)&&decide (b≤g)))∧C_ (H_ H) H H':=by
 refine Ak.of_vc func124 rfl (call124 _) (Am (Bt 0) (Ad 0) rfl rfl ?_);intro r H1 N I i y;refine Am (Bt 0) (Ad 0) rfl rfl ?_;intro p H2 O J z o;replace i:=i.agr o (show r<p by omega);(conv=>whnf);rw[W_ (x:=(lo:Int)) (by omega)];refine A0.mk [6] (fun b:Nat=>[A_ b]) (fun b H3=>lo≤b∧(b≤g+1∨b=lo)∧C_ (fun k=>k≠p) H2 H3∧H3.size=H2.size∧∃s:BitVec 256,Q_ H3 p 101 (Ad s)∧∀c,c<256→s.getLsbD c=(decide (lo≤c)&&decide (c<b))) (fun b _=>256-b) ?_ ?_
 ·(conv=>whnf);exact⟨lo,rfl,by omega,by omega,C_.refl _ _,rfl,0,z,fun c q=>by simp⟩
 ·rintro b H3 D ⟨K,w,l,L,s,m,hs⟩;(conv=>whnf);rw[W_ (x:=(g:Int)) (by omega)];refine AG.m2 (fun h=>?_) (fun h=>?_)
  ·(conv=>whnf);refine Aq.tail 9 (sq [0,1,2,3,4,5,6,7,8] (.f 9 .e)) rfl (by kernel_rfl) (Ly (b:=6) (by decide) (M' Ch (by omega) (by omega) ?_));refine G_ Fj (v:=.int .u64 (wd s (b / 64))) (by rw[m.cell,K_,L'];exact T5 s b (by omega)) trivial ?_;refine IG (b:=63) (BX (by omega)) (BX (by decide)) ?_;have E:2^(b % 64)<2^64:=YbK (by decide) (by omega);rw[AeW];have t:J' .u64 ((1*2^(b % 64):Nat):Int):=Ke (by omega);refine AhS (a:=1) (by simp[IntKind.bits];omega) t ?_;refine vor (E3 s _) t (M' Ch (by omega) (by omega) ?_);refine st1 Fj m (by simp[Ad];omega) rfl ?_;intro H4 d n A;(conv=>whnf);rw[P_ b (by omega)];refine⟨rfl,b+1,by simp,⟨by omega,by omega,l.trans n,by omega,s ||| Al3 256 b,?_,fun c q=>?_⟩,by omega⟩
   ·rw[K_,L',YbG]at d;rw[←T6 s b (by omega)];exact d
   ·rw[Yaq,hs c q,Yas];by_cases u:b=c
    ·subst u;simp[q,K]
    ·have:(decide (c<b+1))=decide (c<b):=by simp;omega
     simp[u,this]
  ·(conv=>whnf);refine L_ (cs:=Ad s) AT (m.cells (fun j v B=>by simpa using B)) trivial (stN rfl (i.agr l (show r≠p by omega)) (show 0+4≤4 by decide) rfl ?_);intro H4 d n A;refine L_ (cs:=Ad s) AT (d.cells (fun j v B=>by simpa [Ai,Ad]using B)) trivial (⟨⟨s,rfl,fun c q=>?_⟩,fun k M=>?_⟩)
   ·rw[hs c q];rcases w with w | w
    ·have:(decide (c<b))=decide (c≤g):=by simp;omega
     rw[this]
    ·subst w;by_cases C:b≤c
     ·simp[show¬c<b by omega,show¬c≤g by omega]
     ·simp[C]
   ·unfold H_ at M;rw[n k (by omega),l k (by omega),o k (by omega),y k (by omega)]
def Cp:Ty (BitVec 256) where
 size:=4
 rep _ _ cs s:=cs=Ad s
 len h:=by rw[h];rfl
 frame h _:=h
 mono h _:=h
def Io(s:BitVec 256):List Lit:=[.int .u64 (wd s 0),.int .u64 (wd s 1),.int .u64 (wd s 2),.int .u64 (wd s 3)]
theorem T7(a b:BitVec 256):decide (a=b)=true↔Io a=Io b:=by
 rw[Zzj];constructor
 ·rintro rfl;rfl
 ·intro h;unfold Io at h;simp only[List.cons.injEq,Lit.int.injEq,true_and,and_true,Ya2]at h;apply AbG;intro i c
  match i,c with
  | 0,_=>exact h.1
  | 1,_=>exact h.2.1
  | 2,_=>exact h.2.2.1
  | 3,_=>exact h.2.2.2
theorem AhA(s:BitVec 256)(i:Nat):(Lit.int .u64 (wd s i)).wf=true:=by
 have:=E3 s i;unfold Lit.wf;simp only[r_,Zzj];exact this
theorem T8(s:BitVec 256):prog.keyLits 2 101 (Ad s)=some (Io s):=by
 have a:prog.cellsOf 101=4:=rfl;have b:prog.cellsOf 99=1:=rfl;simp[Program.keyLits,underlying101,underlying99,a,b,Ad,Io,AhA,Aj7,Aj7.loop]
theorem Nr(a b:BitVec 256){x y:z_}{S:Nat→Prop}{H:Aa}{K:v_→Prop}(k:K (.bool (!decide (a=b)))):
  AJ prog (do eqGuard .neq 101 x y (Bt a) (Bt b);binOp .neq 101 (Bt a) (Bt b)) S H K:=
 vneq (m:=2) (la:=Io a) (lb:=Io b) rfl (by decide) (eqGuardType101) rfl rfl (T8 a) (T8 b) (T7 a b) k
def AC(lo hi:Nat):BitVec 256:=Am1 256 ((2^(hi+1-lo)-1) <<< lo)
theorem CL(lo a b:Nat)(c:b<256):(AC lo a).getLsbD b=(decide (lo≤b)&&decide (b≤a)):=by
 unfold AC;rw[BitVec.getLsbD_ofNat,Nat.testBit_shiftLeft,Nat.testBit_two_pow_sub_one];by_cases h:lo≤b
 ·simp only[c,decide_true,Ya0,h,ge_iff_le]
  congr 1
  rw[eq_iff_iff];omega
 ·simp[h]
theorem F5(lo a:Nat)(c:lo<256)(d:a<256)(H:Aa):BM prog 124 #[.int .u8 lo,.int .u8 a] H (Bt (AC lo a)):=by
 refine(AhG lo a c d H).mono ?_;rintro v H' ⟨⟨s,rfl,hs⟩,f⟩;refine⟨?_,f⟩
 congr 1
 apply Yap;intro b e;rw[hs b e,CL lo a b e]
theorem It:AC 0 255=AlR 256:=by
 apply Yap;intro b a;rw[CL 0 255 b a,Yar];simp[a];omega
structure Y' where
 fr:Int
 to:Int
 sil:Bool
 set:BitVec 256
structure N_ where
 st:Int
 start:Int
 fin:Int
 edges:List Y'
def N_.has(a:N_)(q:Int):Bool:=decide (0≤q)&&decide (q<a.st)&&decide (a.st≤65536)
theorem N_.has_iff{a:N_}{q:Int}:a.has q=true↔0≤q∧q<a.st∧a.st≤65536:=by
 unfold N_.has;simp only[r_,Zzj,and_assoc]
inductive Y0(a:N_):Int→Int→Prop
 | refl (p:Int):Y0 a p p
 | step {p:Int} {e:Y'}:Y0 a p e.fr→e∈a.edges→e.sil=true→a.has e.to=true→Y0 a p e.to
abbrev PS:=Int→Prop
def clS(a:N_)(X:PS):PS:=fun q=>∃p,X p∧Y0 a p q
def NF(a:N_):PS:=clS a fun q=>q=a.start∧a.has a.start=true
def Rl(a:N_)(X:PS)(b:Nat):PS:=fun q=>∃e∈a.edges,e.sil=false∧e.set.getLsbD b=true∧X e.fr∧a.has e.to=true∧q=e.to
def goS(a:N_)(X:PS)(b:Nat):PS:=clS a (Rl a X b)
def MC(a:N_)(s:List Nat):PS:=s.foldl (goS a) (NF a)
def RZ(a:N_)(X:PS):Prop:=∀e∈a.edges,e.sil=true→a.has e.to=true→X e.fr→X e.to
theorem YW{a:N_}{X:PS}{q:Int}(h:X q):clS a X q:=⟨q,h,.refl q⟩
theorem NL(a:N_)(X:PS):RZ a (clS a X):=fun e b c d ⟨p,f,hs⟩=>⟨p,f,.step hs b c d⟩
theorem JJ{a:N_}{X Y:PS}(h:∀q,X q→Y q)(hs:RZ a Y):∀q,clS a X q→Y q:=by
 rintro q ⟨p,b,c⟩
 induction c with
 | refl=>exact h _ b
 | step _ d e f g=>exact hs _ d e f g
theorem JI{a:N_}{X:PS}(h:∀q,X q→a.has q=true):∀q,clS a X q→a.has q=true:=JJ h fun e _ _ b _=>b
theorem Hp(a:N_):∀q,NF a q→a.has q=true:=JI fun q ⟨e,h⟩=>e ▸ h
theorem Rh(a:N_)(X:PS)(b:Nat):∀q,goS a X b q→a.has q=true:=JI fun q ⟨e,_,_,_,_,h,c⟩=>c ▸ h
theorem LT(a:N_)(s:List Nat)(b:Nat):MC a (s++[b])=goS a (MC a s) b:=by unfold MC;rw[Ybh];rfl
theorem SK(a:N_):∀(s:List Nat) (X:PS),(∀q,X q→a.has q=true)→∀q,s.foldl (goS a) X q→a.has q=true
 | [],X,h=>h
 | b::s,X,h=>SK a s (goS a X b) (Rh a X b)
theorem AaB(a:N_)(s:List Nat):∀q,MC a s q→a.has q=true:=SK a s _ (Hp a)
theorem PG(a:N_):∀(s:List Nat) (X:PS),RZ a X→RZ a (s.foldl (goS a) X)
 | [],X,h=>h
 | b::s,X,h=>PG a s (goS a X b) (NL a _)
theorem XK(a:N_)(s:List Nat):RZ a (MC a s):=PG a s _ (NL a _)
theorem TG:∀{l m:List Int},l.Pairwise (·<·)→m.Pairwise (·<·)→(∀q,q∈l↔q∈m)→l=m
 | [],[],_,_,_=>rfl
 | [],y::m,_,_,h=>by have:=(h y).2 (by simp);cases this
 | x::l,[],_,_,h=>by have:=(h x).1 (by simp);cases this
 | x::l,y::m,hl,hm,h=>by
   have⟨g,j⟩:=Ybf.1 hl;have⟨i,k⟩:=Ybf.1 hm;have b:x=y:=by
    have c:=(h x).1 (by simp);have d:=(h y).2 (by simp);rcases YaP.1 c with e | c
    ·exact e
    ·rcases YaP.1 d with e | d
     ·exact e.symm
     ·have:=g y d;have:=i x c;omega
   subst b
   congr 1
   refine TG j k fun q=>⟨fun a=>?_,fun a=>?_⟩
   ·rcases YaP.1 ((h q).1 (by simp[a]))with e | f
    ·have:=g q a;omega
    ·exact f
   ·rcases YaP.1 ((h q).2 (by simp[a]))with e | f
    ·have:=i q a;omega
    ·exact f
open Classical in
noncomputable def FR(X:PS):List Int:=((Aj7 65536).map fun(n:Nat)=>(n:Int)).filter fun q=>decide (X q)
theorem ZK(X:PS):(FR X).Pairwise (·<·):=by
 unfold FR;refine List.Pairwise.filter _ ?_;rw[List.pairwise_map];exact List.pairwise_lt_range.imp fun h=>by omega
open Classical in
theorem HC{X:PS}(h:∀q,X q→0≤q∧q<65536)(q:Int):q∈FR X↔X q:=by
 unfold FR;rw[Ybn,Zzj,List.mem_map];constructor
 ·exact fun⟨_,a⟩=>a
 ·intro a;have⟨b,c⟩:=h q a;exact⟨⟨q.toNat,YaY.2 (by omega),by omega⟩,a⟩
theorem PP{X:PS}{l:List Int}(h:∀q,X q→0≤q∧q<65536)(hs:l.Pairwise (·<·))(a:∀q,q∈l↔X q):l=FR X:=
 TG hs (ZK X) fun q=>(a q).trans (HC h q).symm
theorem Lb(X:PS):(FR X).length≤65536:=by
 unfold FR;exact YbA (Ybd _ _) (by simp)
theorem FP{a:N_}{X:PS}(h:∀q,X q→a.has q=true):∀q,X q→0≤q∧q<65536:=fun q b=>by
 have:=N_.has_iff.1 (h q b);omega
noncomputable def UZ(a:N_)(s:List Nat):List Int:=FR (MC a s)
theorem Tt(a:N_)(s:List Nat)(q:Int):q∈UZ a s↔MC a s q:=HC (FP (AaB a s)) q
open Classical in
noncomputable def WV(a:N_)(s:List Nat):Bool:=decide (MC a s a.fin)
theorem KM(a:N_)(s:List Nat):WV a s=true↔MC a s a.fin:=by unfold WV;simp
inductive Way(a:N_):Int→List Nat→Int→Prop
 | nil {p:Int}:a.has p=true→Way a p [] p
 | sil {e:Y'} {s:List Nat} {q:Int}:e∈a.edges→e.sil=true→a.has e.fr=true→Way a e.to s q→Way a e.fr s q
 | hop {e:Y'} {b:Nat} {s:List Nat} {q:Int}:e∈a.edges→e.sil=false→e.set.getLsbD b=true→a.has e.fr=true→Way a e.to s q→Way a e.fr (b::s) q
end Go.Proofs.YtfbghcpdinlmcaaGreatDoor
namespace Go.VC
def l_{α:Type}(T:Ty α)(S:Nat→Prop)(H:Aa)(lo:Nat)(e:x_)(v:v_)(xs:List α):Prop:=
 ∃cs,Sl H lo e T.size v xs.length cs∧T.reps S H cs xs
section
variable{α:Type}{T:Ty α}{S S':Nat→Prop}{H H':Aa}{lo:Nat}{e:x_}{v:v_}{xs:List α}
theorem l_.nil:l_ T S H lo e (.slice none 0 0) []:=⟨[],Sl.nil _ _ _ _,rfl⟩
theorem l_.agr(h:l_ T S H lo e v xs)(k:C_ S' H H')(a:∀b,a_ v b→S' b)(hs:∀b,S b→S' b):l_ T S H' lo e v xs:=by
 have⟨c,d,f⟩:=h;exact⟨c,d.agr k a,Ty.reps_frame (k.mono hs) f⟩
theorem l_.mono(h:l_ T S H lo e v xs)(hs:∀b,S b→S' b):l_ T S' H lo e v xs:=by
 have⟨a,c,d⟩:=h;exact⟨a,c,Ty.reps_mono hs d⟩
theorem l_.lt(h:l_ T S H lo e v xs){b:Nat}(a:a_ v b):lo≤b∧b<H.size:=by
 obtain⟨d,c,_⟩:=h;exact c.lt a
theorem l_.lower{a:Nat}(h:l_ T S H lo e v xs)(j:a≤lo):l_ T S H a e v xs:=by
 obtain⟨d,⟨f,c⟩,g⟩:=h;refine⟨d,⟨f,?_⟩,g⟩;rcases c with c | ⟨b,cap,l,i,k,r⟩
 ·exact .inl c
 ·exact .inr ⟨b,cap,l,i,by omega,r⟩
theorem l_.one(h:l_ T S H lo e v xs):v.oneCell'=true:=by
 obtain⟨c,⟨d,a⟩,f⟩:=h;rcases a with⟨rfl,_⟩ | ⟨b,cap,l,rfl,r⟩<;>rfl
theorem l_.len(h:l_ T S H lo e v xs):xs.length≤maxLen:=by
 obtain⟨c,⟨d,a⟩,f⟩:=h;rcases a with⟨_,a⟩ | ⟨b,cap,l,g,i,j,k,m,r⟩
 ·omega
 ·omega
theorem l_.view(h:l_ T S H lo e v xs)(g:∀b,a_ v b→S' b)(hs:∀b,S b→S' b):∃a cap,v= .slice a xs.length cap∧g_ T S' H a cap xs∧(∀b,a_ v b↔a.map (·.block)=some b):=by
 obtain⟨i,⟨s,d⟩,k⟩:=h;rcases d with⟨rfl,d⟩ | ⟨b,cap,l,rfl,t,m,p,q,w,r⟩
 ·refine⟨none,0,by rw[d],⟨Ya8 d,rfl⟩,fun b=>⟨?_,fun h=>by cases h⟩⟩;rintro⟨o,n,c,h⟩;cases h
 ·refine⟨some ⟨b,0,none⟩,cap,rfl,g_.intro (g b ⟨_,_,_,rfl⟩) p q (ec:=i) ?_ (Ty.reps_mono hs k),fun b'=>⟨?_,fun h=>?_⟩⟩
  ·refine m.cells fun j u f=>?_;rw[←r,YaK]at f;split at f
   ·simpa using f
   ·cases f
  ·rintro⟨o,n,c,h⟩;cases h;rfl
  ·cases h;exact⟨0,_,_,rfl⟩
theorem AaG{cs c:List v_}{i:Nat}{x:α}(h:T.reps S H cs xs)(b:T.rep S H c x)(e:i<xs.length):T.reps S H (Ai cs (i*T.size) c) (xs.set i x):=by
 induction xs generalizing cs i with
 | nil=>simp at e
 | cons y ys k=>
   obtain⟨d,r,rfl,f,g⟩:=h;have j:=T.len f;have a:=T.len b;cases i with
   | zero=>
     refine⟨c,r,?_,b,g⟩;unfold Ai;simp only[Nat.zero_mul,Ybq,Ybo,K_];rw[a,←j,List.drop_left]
   | succ i=>
     simp only[b_]at e;refine⟨d,Ai r (i*T.size) c,?_,f,k g (by omega)⟩;have l:(i+1)*T.size=d.length+i*T.size:=by rw[j,Yb3];omega
     unfold Ai;rw[l,YaZ,show d.length+i*T.size+c.length=d.length+(i*T.size+c.length) by omega,List.drop_length_add_append];simp[YaN]
theorem l_.place{i:Nat}(h:l_ T S H lo e v xs)(w:i<xs.length):∃b cap l k,v= .slice (T_ b) xs.length cap∧lo≤b∧Q_ H b e l∧i*T.size+T.size≤l.length∧
  (∀x,xs[i]?=some x→∃c,Be H b (i*T.size) c∧T.rep S H c x)∧T.reps S H k xs∧
  ∀(H':Aa) (c:List v_) (x:α),Q_ H' b e (Ai l (i*T.size) c)→C_ S H H'→T.rep S H' c x→l_ T S H' lo e v (xs.set i x):=by
 obtain⟨k,⟨f,y⟩,o⟩:=h;rcases y with⟨rfl,y⟩ | ⟨b,cap,l,rfl,z,A,B,F,C,D⟩
 ·omega
 ·have d:i*T.size+T.size≤xs.length*T.size:=by rw[←Yb3];exact Ybw _ w
  have E:xs.length*T.size≤l.length:=by rw[C];exact Ybw _ B
  refine⟨b,cap,l,k,rfl,z,A,by omega,?_,o,?_⟩
  ·intro x G;obtain⟨I,c,r,rfl,p,m⟩:=Ty.reps_get o G;refine⟨c,?_,m⟩;rw[←p];have q:Be H b 0 (I++c++r):=A.cells fun j u n=>by
    rw[←D,YaK]at n;split at n
    ·simpa using n
    ·cases n
   have:=q.mid;simpa using this
  intro H' c x s g m;have a:=T.len m;refine⟨Ai k (i*T.size) c,⟨?_,.inr ⟨b,cap,_,by rw[YaH],z,s,by rw[YaH];exact B,F,?_,?_⟩⟩,AaG (Ty.reps_frame g o) m w⟩
  ·rw[Eh (by rw[a,f];exact d),f,YaH]
  ·rw[Eh (by rw[a];omega),C]
  ·rw[YaH];apply YaJ;intro j;rw[YaK];by_cases t:j<xs.length*T.size
   ·rw[F_ t,Ds (by rw[a];omega),Ds (by rw[a,f];exact d)];split
    ·rfl
    ·rw[←D,YaK,F_ t]
   ·rw[D_ t,YaL];rw[Eh (by rw[a,f];exact d),f];omega
end
section
variable{α:Type}{T:Ty α}{P:w_}
theorem Di{t ty e by_:Nat}{z:v_}{S:Nat→Prop}{H:Aa}{K:v_→Aa→Prop}(n:SlT P t e T.size by_ z){lo q o m cap:Nat}{v:v_}{xs ys:List α}{ds:List v_}
  (hs:l_ T S H lo e v xs) (d:lo≤H.size) (p:∀k,S k→k<H.size∧¬a_ v k) (s:Be H q o ds) (r:T.reps S H ds ys) (x:m=ys.length) (y:∀u∈ds,u.oneCell'=true)
  (f:xs.length+ys.length≤maxLen) (hby:(xs.length+ys.length)*by_≤140737488355328)
  (h:∀b H',l_ T S H' lo e b (xs++ys)→C_ (fun k=>k<H.size∧¬a_ v k) H H'→H.size≤H'.size→(∀k,a_ b k→a_ v k∨H.size≤k)→K b H'):
  BH P (Builtin.append_ #[t,t] ty [v,.slice (some ⟨q,o,none⟩) m cap].toArray) H K:=by
 have⟨D,g,A⟩:=hs;subst x;refine Nw (m:=ys.length) (news:=ds) n g d (fun w B=>?_) f hby ?_
 ·refine Src.ofSlice w n.under ⟨q,o,none⟩ ys.length cap ds (Ty.reps_len r) (fun j u C=>?_) y;rw[Addr.add_mid];subst B;have:=s j u C;rw[EP];exact this
 ·intro b H' c a i l;refine h b H' ⟨_,by rw[J_];exact c,Ty.reps_append (Ty.reps_frame (a.mono p) A) (Ty.reps_frame (a.mono p) r)⟩ a i l
theorem IB{t e by_:Nat}{z:v_}{n cap i:Nat}{k:IntKind}{j:Int}{S S0:Nat→Prop}{H:Aa}{K:v_→Prop}{a:Option Addr}{xs:List α}{x:α}
  (d:SlT P t e T.size by_ z) (h:g_ T S H a cap xs) (f:n=xs.length) (g:xs[i]?=some x) (l:j=(i:Int))
  (m:∀b o c,S b→Be H b o c→T.rep S H c x→K (.pointer (some ⟨b,o,none⟩))):AJ P (Instr.indexAt t (.slice a n cap) (.int k j)) S0 H K:=by
 subst f;exact ixr d h g l m
end
theorem DJ{α:Type}{T:Ty α}{S:Nat→Prop}{H:Aa}:∀{vs:List v_} {xs:List α},vs.length=xs.length→(∀(i:Nat) (v:v_) (x:α),vs[i]?=some v→xs[i]?=some x→T.rep S H [v] x)→T.reps S H vs xs
 | [],[],_,_=>rfl
 | v::vs,[],h,_=>by simp at h
 | [],x::xs,h,_=>by simp at h
 | v::vs,x::xs,h,k=>⟨[v],vs,rfl,k 0 v x rfl rfl,DJ (by simpa using h) fun i a b c d=>k (i+1) a b (by simpa using c) (by simpa using d)⟩
theorem KW:∀(vs:List v_) (k:Nat) (cells:Array v_) (off:Nat),off+k+vs.length≤cells.size→
  (vs.zipIdx k).foldl (fun c (x:v_×Nat)=>c.setIfInBounds (off+x.2) x.1) cells=(Ai cells.toList (off+k) vs).toArray
 | [],k,cells,off,_=>by apply AkI;simp[Ai]
 | v::vs,k,cells,off,h=>by
   simp only[b_]at h;rw[List.zipIdx_cons,List.foldl_cons,KW vs (k+1) _ off (by simp;omega)];apply congrArg;apply YaJ;intro j;rw[Ds (by simp;omega),Ds (by simp;omega)];simp only[Array.toList_setIfInBounds,b_];by_cases a:off+(k+1)≤j∧j<off+(k+1)+vs.length
   ·rw[F_ a,F_ (by omega),show j-(off+k)=(j-(off+(k+1)))+1 by omega,Yba]
   ·rw[D_ a];by_cases b:j=off+k
    ·subst b;rw[F_ (by omega),Nat.sub_self,List.getElem?_cons_zero,YaA (by simp;omega)]
    ·rw[D_ (by omega),YaT,D_ (fun d=>b d.symm)]
theorem CK{place:Nat→Option (Nat×Nat)}{cells:Array v_}{i:Nat}{v:v_}{rest:List (Nat×v_)}{off size:Nat}(b:place i=some (off,size))(d:v.cells.size=size)(e:off+size≤cells.size):
  Instr.fill place cells ((i,v)::rest)=Instr.fill place (Ai cells.toList off v.cells.toList).toArray rest:=by
 have c:¬(v.cells.size≠size∨off+v.cells.size>cells.size):=by omega
 have a:=KW v.cells.toList 0 cells off (by simp;omega);simp only[Nat.add_zero]at a;rw[Instr.fill,b];simp only[Yay,Zzj,c,if_false]
 congr 1
 rw[←a,←Array.foldl_toList,Array.toList_zipIdx]
theorem Ay{P:w_}{t e:x_}{sz by_:Nat}{z v:v_}{H:Aa}{K:v_→Aa→Prop}(d:SlT P t e sz by_ z)(l:List v_)(a:v.cells=l.toArray)(c:l.length=sz)(h0:0<sz)(f:sz≤16777216)
  (h:New H (fun b H'=>K (.slice (T_ b) 1 1) H') e l):BH P (Instr.buildSlice t 1 [(0,v)].toArray) H K:=by
 refine AbB d l (by omega) (by omega) ?_ h;rw[show([(0,v)].toArray).toList=(0,v)::[]from rfl,CK (off:=0) (size:=sz) (by simp) (by rw[a];simpa using c) (by simp)];rw[Instr.fill,a]
 congr 1
 apply AkI;simp only[Ai];simp[c]
structure Tab{α:Type}(T:Ty α)(S:Nat→Prop)(H:Aa)(lo:Nat)(e:x_)(nb:Nat)(te:x_)(vs:List v_)(xs:List (List α)):Prop where
 len:vs.length=xs.length
 blk:Q_ H nb te vs
 nlo:nb<lo
 own:∀(i:Nat) (v:v_) (x:List α),vs[i]?=some v→xs[i]?=some x→l_ T S H lo e v x
 apart:∀(i j:Nat) (v w:v_) (k:Nat),i≠j→vs[i]?=some v→vs[j]?=some w→a_ v k→¬a_ w k
section
variable{α:Type}{T:Ty α}{S S':Nat→Prop}{H H1 H2:Aa}{lo nb:Nat}{e te:x_}{vs:List v_}{xs:List (List α)}
theorem Tab.agr(h:Tab T S H lo e nb te vs xs)(k:C_ S' H H1)(g:S' nb)(a:∀b,lo≤b→b<H.size→S' b)(hs:∀b,S b→S' b):Tab T S H1 lo e nb te vs xs:=
 ⟨h.len,h.blk.agr k g,h.nlo,fun i v x c d=>(h.own i v x c d).agr k (fun b f=>a b ((h.own i v x c d).lt f).1 ((h.own i v x c d).lt f).2) hs,h.apart⟩
theorem Tab.new{n:Nat}(f:Q_ H nb te (AiF n (.slice none 0 0)))(b:nb<lo):Tab T S H lo e nb te (AiF n (.slice none 0 0)) (AiF n []):=by
 refine⟨by simp,f,b,fun i v x a d=>?_,fun i j v w k g a p l=>?_⟩
 ·rw[YaO]at a d;split at a
  ·rename_i m;rw[F_ m]at d;cases a;cases d;exact l_.nil
  ·cases a
 ·rw[YaO]at a;split at a
  ·cases a;have⟨o,n,c,h⟩:=l;cases h
  ·cases a
theorem Tab.get(h:Tab T S H lo e nb te vs xs){i:Nat}(a:i<xs.length):∃v x,vs[i]?=some v∧xs[i]?=some x∧l_ T S H lo e v x:=by
 have b:i<vs.length:=by rw[h.len];exact a
 exact⟨vs[i],xs[i],N' b,N' a,h.own i _ _ (N' b) (N' a)⟩
theorem Tab.push(h:Tab T S H lo e nb te vs xs){t:Nat}{v m:v_}{x':List α}(B:vs[t]?=some v)(l:l_ T S H1 lo e m x')(F:C_ (fun k=>k<H.size∧¬a_ v k) H H1)
  (g:∀k,a_ m k→a_ v k∨H.size≤k) (c:Q_ H2 nb te (vs.set t m)) (p:C_ (fun k=>k≠nb) H1 H2) (y:∀k,S k→k<H.size∧¬a_ v k∧k≠nb):
  Tab T S H2 lo e nb te (vs.set t m) (xs.set t x'):=by
 have z:t<vs.length:=(O_.1 B).1;refine⟨by simp[h.len],c,h.nlo,fun i w x a A=>?_,fun i j u w k q r a n f=>?_⟩
 ·by_cases d:i=t
  ·subst d;rw[YaA z]at a;rw[YaA (by rw[←h.len];exact z)]at A;cases a;cases A;exact l.agr p (fun b c=>by have:=(l.lt c).1;have:=h.nlo;omega) (fun b c=>(y b c).2.2)
  ·rw[YaC (Ne.symm d)]at a A;have o:=h.own i w x a A;have G:l_ T S H1 lo e w x:=o.agr F (fun b c=>⟨(o.lt c).2,fun C=>h.apart i t w v b d a B c C⟩) (fun b c=>⟨(y b c).1,(y b c).2.1⟩);exact G.agr p (fun b c=>by have:=(o.lt c).1;have:=h.nlo;omega) (fun b c=>(y b c).2.2)
 ·have old:∀(i:Nat) (w:v_),i≠t→(vs.set t m)[i]?=some w→a_ w k→¬a_ m k:=by
   intro i w E a n f;rw[YaC (Ne.symm E)]at a;rcases g k f with o | o
   ·exact h.apart i t w v k E a B n o
   ·have D:i<xs.length:=by rw[←h.len];exact(O_.1 a).1
    have:=((h.own i w _ a (N' D)).lt n).2;omega
  by_cases d:i=t
  ·subst d;rw[YaA z]at r;cases r;exact old j w (Ne.symm q) a f n
  ·by_cases s:j=t
   ·subst s;rw[YaA z]at a;cases a;exact old i u d r n f
   ·rw[YaC (Ne.symm d)]at r;rw[YaC (Ne.symm s)]at a;exact h.apart i j u w k q r a n f
end
theorem Tab.view{α:Type}{T:Ty α}{S S':Nat→Prop}{H:Aa}{lo nb n:Nat}{e te:x_}{vs:List v_}{xs:List (List α)}(h:Tab T S H lo e nb te vs xs)(l:n=xs.length)(m:n≤maxLen)
  (f:∀k,nb≤k→k<H.size→S' k) (hs:∀k,S k→S' k):g_ (tSl T) S' H (T_ nb) n xs:=by
 subst l;refine g_.intro (f nb (I_ _) h.blk.lt) (I_ _) m (h.blk.cells (cs:=vs) (fun j v b=>by simpa using b)) (DJ h.len fun i v x b o=>?_);have c:=h.own i v x b o;obtain⟨p,a,rfl,d,-⟩:=c.view (S':=S') (fun k g=>f k (by have:=(c.lt g).1;have:=h.nlo;omega) (c.lt g).2) hs;exact⟨p,a,rfl,d⟩
theorem WO{P:w_}{t e sz by_:Nat}{z:v_}{a:Option Addr}{n cap:Nat}{k:IntKind}{h:Int}{S:Nat→Prop}{H:Aa}{K:v_→Prop}(b:SlT P t e sz by_ z)(h0:0≤h)(c:h≤cap)
  (d:K (.slice a h.toNat cap)):AJ P (Instr.sliceAt t (.slice a n cap) none (some (.int k h)) none) S H K:=by
 obtain⟨f,g,hs,_,_⟩:=b.info;refine AJ.mk _ (fun w _=>?_) d;have i:(a.map fun x=>x.add 0)=a:=by cases a<;>rfl
 simp[Instr.sliceAt,Instr.slice,run_underlying b.under,Instr.sliceBounds,Instr.sliceBound,asIntOf,h0,c,sizeOf,typeInfo,g,i]
theorem l_.pop{α:Type}{T:Ty α}{S:Nat→Prop}{H:Aa}{lo n cap:Nat}{e:x_}{a:Option Addr}{xs:List α}{x:α}(h:l_ T S H lo e (.slice a n cap) (xs++[x])):l_ T S H lo e (.slice a xs.length cap) xs:=by
 obtain⟨d,⟨g,f⟩,m⟩:=h;have split:∀(xs:List α) (d:List v_),T.reps S H d (xs++[x])→T.reps S H (d.take (xs.length*T.size)) xs:=by
  intro xs
  induction xs with
  | nil=>intro d _;simp[Ty.reps]
  | cons y ys o=>
    rintro d ⟨c,r,rfl,i,p⟩;refine⟨c,r.take (ys.length*T.size),?_,i,o r p⟩;have:=T.len i;rw[b_,Yb3,Nat.add_comm,←this,YaZ]
 rcases f with⟨f,q⟩ | ⟨b,j,l,f,s,t,u,v,w,k⟩
 ·simp at q
 ·cases f;simp only[J_,h_]at u k g;refine⟨d.take (xs.length*T.size),⟨?_,.inr ⟨b,cap,l,rfl,s,t,by omega,v,w,?_⟩⟩,split xs d m⟩
  ·rw[YaW,g,Yb1 (Ybw _ (by omega))]
  ·rw[←k,List.take_take,Yb1 (Ybw _ (by omega))]
def Ty.Ones{α:Type}(T:Ty α):Prop:=∀S H cs x,T.rep S H cs x→∀u∈cs,u.oneCell'=true
theorem Ty.Ones.reps{α:Type}{T:Ty α}(h:T.Ones){S:Nat→Prop}{H:Aa}:∀{cs:List v_} {xs:List α},T.reps S H cs xs→∀u∈cs,u.oneCell'=true:=by
 intro cs xs
 induction xs generalizing cs with
 | nil=>intro b u a;simp only[Ty.reps]at b;subst b;cases a
 | cons x xs d=>
   rintro⟨c,r,rfl,e,b⟩ u a;rcases q_.1 a with a | a
   ·exact h S H c x e u a
   ·exact d b u a
theorem Yf:∀(k:IntKind),(GB k).Ones:=by
 rintro k S H b x ⟨rfl,_⟩ u a;cases Y_.1 a;rfl
theorem Vs:AQ.Ones:=by
 rintro S H b x rfl u a;cases Y_.1 a;rfl
theorem OW{α:Type}{T:Ty α}{P:w_}{t ty e by_:Nat}{z:v_}{S:Nat→Prop}{H:Aa}{K:v_→Aa→Prop}(p:SlT P t e T.size by_ z)(r:T.Ones){lo cap:Nat}{v:v_}{a:Option Addr}{xs ys:List α}
  (hs:l_ T S H lo e v xs) (d:lo≤H.size) (s:∀k,S k→k<H.size∧¬a_ v k) (B:g_ T S H a cap ys)
  (f:xs.length+ys.length≤maxLen) (hby:(xs.length+ys.length)*by_≤140737488355328)
  (h:∀g H',l_ T S H' lo e g (xs++ys)→C_ (fun k=>k<H.size∧¬a_ v k) H H'→H.size≤H'.size→(∀k,a_ g k→a_ v k∨H.size≤k)→K g H'):
  BH P (Builtin.append_ #[t,t] ty [v,.slice a ys.length cap].toArray) H K:=by
 cases a with
 | some D=>
   have⟨q,o,G⟩:=D;obtain⟨I,J,L | ⟨rfl,M,N,E,C⟩⟩:=B
   ·obtain rfl:ys=[]:=Ya8 (by omega);have⟨x,i,y⟩:=hs;refine Nw (m:=0) (news:=[]) p i d (fun w F=>Src.ofSlice w p.under _ 0 cap [] (by simp) (fun j u A=>by simp at A) (fun u A=>by cases A)) (by simpa using f) (by simpa using hby) ?_;intro g H' c b l n;refine h g H' ⟨x,by simpa using c,?_⟩ b l n;rw[YaX];exact Ty.reps_frame (b.mono s) y
   exact Di p hs d s E C rfl (r.reps C) f hby h
 | none=>
   obtain⟨rfl,rfl⟩:=B;have⟨x,i,y⟩:=hs;refine Nw (m:=0) (news:=[]) p i d (fun w F=>Src.ofNil w p.under 0) (by simpa using f) (by simpa using hby) ?_;intro g H' c b l n;refine h g H' ⟨x,by simpa using c,?_⟩ b l n;rw[YaX];exact Ty.reps_frame (b.mono s) y
def Ty.Free{α:Type}(T:Ty α):Prop:=∀S S' H H' cs x,T.rep S H cs x→T.rep S' H' cs x
theorem Ye(k:IntKind):(GB k).Free:=fun S S' H H' a x h=>h
theorem Vr:AQ.Free:=fun S S' H H' a x h=>h
theorem Ty.Free.reps{α:Type}{T:Ty α}(h:T.Free){S S':Nat→Prop}{H H':Aa}:∀{cs:List v_} {xs:List α},T.reps S H cs xs→T.reps S' H' cs xs:=by
 intro cs xs
 induction xs generalizing cs with
 | nil=>exact fun a=>a
 | cons x xs b=>
   rintro⟨c,r,e,d,a⟩;exact⟨c,r,e,h S S' H H' c x d,b a⟩
theorem l_.free{α:Type}{T:Ty α}(a:T.Free){S S':Nat→Prop}{H:Aa}{lo:Nat}{e:x_}{v:v_}{xs:List α}(h:l_ T S H lo e v xs):l_ T S' H lo e v xs:=by
 have⟨b,c,d⟩:=h;exact⟨b,c,a.reps d⟩
section
variable{P:w_}{t e:x_}{x y:z_}{S:Nat→Prop}{H:Aa}{K:v_→Prop}{p:Option Addr}
theorem Mz(h:P.underlying t=some (.pointer e))(p:Option Addr)(w:y_):(Op.equal t (.pointer p) (.pointer none)).run P w= .ok p.isNone w:=by
 have:∀d:Nat,(Op.equalIn (d+1) t (.pointer p) (.pointer none)).run P w= .ok p.isNone w:=fun d=>by
  cases p<;>simp[Op.equalIn,run_underlying h]
 exact this 9999
theorem peq(h:P.underlying t=some (.pointer e))(k:K (.bool p.isNone)):AJ P (do eqGuard .eql t x y (.pointer p) (.pointer none);binOp .eql t (.pointer p) (.pointer none)) S H K:=by
 refine AJ.mk _ (fun w _=>?_) k;simp[eqGuard,binOp,Mz h]
theorem pneq(h:P.underlying t=some (.pointer e))(k:K (.bool (!p.isNone))):AJ P (do eqGuard .neq t x y (.pointer p) (.pointer none);binOp .neq t (.pointer p) (.pointer none)) S H K:=by
 refine AJ.mk _ (fun w _=>?_) k;simp[eqGuard,binOp,Mz h]
theorem Aa2(h:P.underlying t=some (.pointer e))(k:K (.bool true)):AJ P (do eqGuard .eql t x y (.pointer none) (.pointer none);binOp .eql t (.pointer none) (.pointer none)) S H K:=peq h k
theorem AdU{a:Addr}(h:P.underlying t=some (.pointer e))(k:K (.bool false)):AJ P (do eqGuard .eql t x y (.pointer (some a)) (.pointer none);binOp .eql t (.pointer (some a)) (.pointer none)) S H K:=peq h k
theorem Aj3(h:P.underlying t=some (.pointer e))(k:K (.bool false)):AJ P (do eqGuard .neq t x y (.pointer none) (.pointer none);binOp .neq t (.pointer none) (.pointer none)) S H K:=pneq h k
theorem AfI{a:Addr}(h:P.underlying t=some (.pointer e))(k:K (.bool true)):AJ P (do eqGuard .neq t x y (.pointer (some a)) (.pointer none);binOp .neq t (.pointer (some a)) (.pointer none)) S H K:=pneq h k
theorem My(h:P.underlying t=some .bool)(a b:Bool)(w:y_):(Op.equal t (.bool a) (.bool b)).run P w= .ok (a==b) w:=by
 have:∀d:Nat,(Op.equalIn (d+1) t (.bool a) (.bool b)).run P w= .ok (a==b) w:=fun d=>by simp[Op.equalIn,run_underlying h]
 exact this 9999
theorem Ai9{a b:Bool}(h:P.underlying t=some .bool)(k:K (.bool (a==b))):AJ P (do eqGuard .eql t x y (.bool a) (.bool b);binOp .eql t (.bool a) (.bool b)) S H K:=by
 refine AJ.mk _ (fun w _=>?_) k;simp[eqGuard,binOp,My h]
theorem YI{a b:Bool}(h:P.underlying t=some .bool)(k:K (.bool (!(a==b)))):AJ P (do eqGuard .neq t x y (.bool a) (.bool b);binOp .neq t (.bool a) (.bool b)) S H K:=by
 refine AJ.mk _ (fun w _=>?_) k;simp[eqGuard,binOp,My h]
end
theorem DQ{P:w_}{t:x_}{S:Nat→Prop}{H:Aa}{K:v_→Prop}{s:ByteArray}{k:IntKind}{i:Nat}{j:Int}{b:UInt8}(h:P.underlying t=some .string)(c:j=(i:Int))(d:s.data[i]?=some b)
  (e:K (.int .u8 (b.toNat:Int))):AJ P (Instr.index t (.string s) (.int k j)) S H K:=by
 subst c;have a:s[i]?=some b:=by
  have⟨f,g⟩:=Yaa.1 d;have l:i<s.size:=f;rw[getElem?_pos s i l];exact congrArg some g
 refine AJ.mk _ (fun w _=>?_) e;simp[Instr.index,asIntOf,run_underlying h,a]
section
variable{P:w_}{t e:x_}{x y:z_}{S:Nat→Prop}{H:Aa}
theorem l_.ofBlk{α:Type}{T:Ty α}{lo b n:Nat}{l:List v_}{xs:List α}(a:lo≤b)(f:Q_ H b e l)(c:T.reps S H l xs)(g:n=xs.length)(h:n≤maxLen):l_ T S H lo e (.slice (T_ b) n n) xs:=by
 subst g;have d:=Ty.reps_len c;refine⟨l,?_,c⟩;have:=Sl.made (sz:=T.size) (n:=xs.length) (cap:=xs.length) a f (I_ _) h d;rwa [←d,List.take_length]at this
theorem EF{α:Type}{T:Ty α}{c:List v_}{v:α}(h:T.rep S H c v):∀n,T.reps S H (AiF n c).flatten (AiF n v)
 | 0=>rfl
 | n+1=>⟨c,_,rfl,h,EF h n⟩
theorem Xx(z:Array v_)(n:Nat):(Aj7 (n*z.size)).map (z[· % z.size]!)=(AiF n z.toList).flatten:=by
 induction n with
 | zero=>simp
 | succ n b=>
   rw[Yb3,Ybe,List.map_append,b,List.replicate_succ',List.flatten_append]
   congr 1
   simp only[List.flatten_cons,List.flatten_nil,YaX,List.map_map];apply YaJ;intro i;by_cases a:i<z.size
   ·rw[o_,YaR a];simp only[Option.map_some,Function.comp,Yak];have:(n*z.size+i) % z.size=i:=by rw[Nat.mul_comm,Nat.mul_add_mod];exact Ybs a
    rw[this,getElem!_pos z i a,getElem?_pos z i a]
   ·rw[YaL (by simp;omega),YaL (by simp;omega)]
theorem AbF{α:Type}{T:Ty α}{by_:Nat}{z:v_}{g i:IntKind}{l c:Int}{v:α}{K:v_→Aa→Prop}(f:SlT P t e T.size by_ z)(k:T.rep S H z.cells.toList v)(h0:0≤l)(a:l=c)(j:(by_:Int)*c≤281474976710656)(d:c≤9223372036854775807)
  (h:New H (fun b H'=>K (.slice (T_ b) c.toNat c.toNat) H') e (AiF c.toNat z.cells.toList).flatten):BH P (Instr.makeSlice t (.int g l) (.int i c)) H K:=by
 subst a;refine AbE f h0 (Int.le_refl _) j d ?_;rw[←f.zsz,Xx];exact h
theorem l_.placeS{α:Type}{T:Ty α}{lo b o n cap i:Nat}{xs:List α}(h:l_ T S H lo e (.slice (some ⟨b,o,none⟩) n cap) xs)(f:i<xs.length):n=xs.length∧o=0∧lo≤b∧∃l,Q_ H b e l∧i*T.size+T.size≤l.length∧
  (∀x,xs[i]?=some x→∃c,Be H b (i*T.size) c∧T.rep S H c x)∧
  ∀(H':Aa) (c:List v_) (x:α),Q_ H' b e (Ai l (i*T.size) c)→C_ S H H'→T.rep S H' c x→l_ T S H' lo e (.slice (some ⟨b,o,none⟩) n cap) (xs.set i x):=by
 have⟨b',a,l,q,d,g,j,k,m,r,p⟩:=h.place f;have e2:=d;injection d with e3 e4 e5
 injection e3 with e3
 injection e3 with e6 e7 e8
 subst e6;subst e7;subst e4;subst e5;exact⟨rfl,rfl,g,l,j,k,m,p⟩
theorem Aq.cut{l:List Oper}{fr:Fr}{K:Fr→Aa→Prop}{α:Type}(f:List Nat)(enc:α→List v_)(I:α→Aa→Prop)
  (h:Aq P l fr H (fun b H'=>Kf (Q2 l []) fr b (RF b f fun vs=>∃y,vs=enc y∧I y H')))
  (k:∀(z:α) (H1:Aa) (c:Nat→v_),I z H1→HZ c fr (Q2 l []) fun g=>Vz g f (enc z) fun i=>K i H1):Aq P l fr H K:=by
 generalize Q2 l []=u at h k;have h:=h.out_;refine⟨?_⟩;intro id Q a w j o p q;refine h id Q a w j o p fun b a' m d e n=>q b a' m d e ?_;simp only[Kf,Dh,GU]at n;have⟨r,z,s,t⟩:=n;have h:=k z m.heap (rd b) t;rw[Dh,JX,DB r,←s,HL f b]at h;exact h
theorem HK{a b:ByteArray}{K:v_→Prop}(h:a.size+b.size≤maxLen)(k:K (.string (a++b))):AJ P (do eqGuard .add t x y (.string a) (.string b);binOp .add t (.string a) (.string b)) S H K:=by
 refine AJ.mk _ (fun w _=>?_) k;have c:((a.size+b.size:Nat):Int)≤9223372036854775807:=by
  unfold maxLen at h;omega
 have d:IntKind.i64.max=9223372036854775807:=rfl;rw[Ya3]at c;simp[Gw,binOp,Op.stringOp,d,c]
theorem WP{s:ByteArray}{k a:IntKind}{l h:Int}{K:v_→Prop}(b:P.underlying t=some .string)(h0:0≤l)(c:l≤h)(d:h≤s.size)(e:K (.string (s.extract l.toNat h.toNat))):
  AJ P (Instr.sliceAt t (.string s) (some (.int k l)) (some (.int a h)) none) S H K:=by
 refine AJ.mk _ (fun w _=>?_) e;have f:0≤h:=by omega
 have g:l≤max h 0:=by omega
 simp[Instr.sliceAt,Instr.slice,run_underlying b,Instr.sliceBounds,Instr.sliceBound,asIntOf,h0,c,d,f,g]
end
section
variable{α:Type}{l:List α}
theorem Zq{k:Nat}{x z:α}(h:l[k]?=some x):(l.take k++AiF (l.length-k) z).set k x=l.take (k+1)++AiF (l.length-(k+1)) z:=by
 have a:=(O_.1 h).1;have b:=(O_.1 h).2;rw[List.set_append_right _ _ (by simp;omega),YaW,Yb1 (by omega),Nat.sub_self,show l.length-k=(l.length-(k+1))+1 by omega,List.replicate_succ,List.set_cons_zero,List.take_succ_eq_append_getElem a,b,YaN];rfl
theorem Zp{k:Nat}{z:α}(h:k≤l.length):(l.take k++AiF (l.length-k) z).length=l.length:=by simp;omega
theorem Zo{z:α}:l.take l.length++AiF (l.length-l.length) z=l:=by simp
theorem Zn{z:α}:l.take 0++AiF (l.length-0) z=AiF l.length z:=by simp
end
theorem OQ{l:List v_}{o:Nat}{v:v_}(h:o<l.length):Ai l o [v]=l.set o v:=by
 apply YaJ;intro j;rw[Ds (by simp;omega),YaT];simp only[h_];by_cases a:o=j
 ·subst a;simp[h]
 ·rw[D_ (by omega),D_ a]
theorem WN{P:w_}{t e:x_}{sz by_:Nat}{z g i:v_}{H:Aa}{K:v_→Aa→Prop}(l:SlT P t e sz by_ z)(j k:List v_)(a:g.cells=j.toArray)(c:i.cells=k.toArray)(d:j.length=sz)(f:k.length=sz)(h0:0<sz)(m:2*sz≤16777216)
  (h:New H (fun b H'=>K (.slice (T_ b) 2 2) H') e (j++k)):BH P (Instr.buildSlice t 2 [(0,g),(1,i)].toArray) H K:=by
 refine AbB l (j++k) (by omega) (by omega) ?_ h;rw[show([(0,g),(1,i)].toArray).toList=(0,g)::(1,i)::[]from rfl,CK (off:=0) (size:=sz) (by simp) (by rw[a];simpa using d) (by simp;omega),
  CK (off:=sz) (size:=sz) (by simp) (by rw[c];simpa using f) (by simp[Ai,a];omega)]
 rw[Instr.fill,a,c]
 congr 1
 apply AkI;simp[Ai,d,f];omega
structure Pc where
 foot:Nat→Prop
 ok:Aa→Prop
 fr:∀{H H':Aa},C_ foot H H'→ok H→ok H'
def Dis(p q:Pc):Prop:=∀k,p.foot k→¬q.foot k
structure B_(B:Nat→Prop)(H0 H:Aa)(ps:List Pc):Prop where
 old:C_ B H0 H
 lt0:∀k,B k→k<H0.size
 size:H0.size≤H.size
 oks:∀p∈ps,p.ok H
 rng:∀p∈ps,∀k,p.foot k→¬B k∧k<H.size
 dis:ps.Pairwise Dis
abbrev St(H0 H:Aa)(ps:List Pc):Prop:=B_ (H_ H0) H0 H ps
section
variable{B:Nat→Prop}{H0 H H':Aa}{ps:List Pc}{p q:Pc}
theorem St.nil(H:Aa):St H H []:=⟨C_.refl _ _,fun _ h=>h,I_ _,(fun _ h=>by cases h),(fun _ h=>by cases h),List.Pairwise.nil⟩
theorem B_.up(st:B_ B H0 H ps){k:Nat}(a:B k):k<H.size:=Ybu (st.lt0 k a) st.size
theorem B_.call(st:B_ B H0 H ps)(h:C_ (H_ H) H H'):B_ B H0 H' ps:=
 ⟨st.old.trans (h.mono fun k a=>st.up a),st.lt0,YbA st.size (Bv h),fun p b=>p.fr (h.mono fun k a=>(st.rng p b k a).2) (st.oks p b),
  fun p b k a=>⟨(st.rng p b k a).1,Ar h (st.rng p b k a).2⟩,st.dis⟩
theorem B_.at_(st:B_ B H0 H ps)(i:Nat)(a:ps[i]?=some p):p.ok H:=st.oks p (c_ a)
theorem B_.in_(st:B_ B H0 H ps)(i:Nat)(a:ps[i]?=some p){k:Nat}(b:p.foot k):¬B k∧k<H.size:=st.rng p (c_ a) k b
theorem B_.add(st:B_ B H0 H ps)(h:C_ (H_ H) H H')(p:Pc)(j:p.ok H')(f:∀k,p.foot k→H.size≤k∧k<H'.size):B_ B H0 H' (ps++[p]):=by
 have d:=st.call h;refine⟨d.old,st.lt0,d.size,fun q c=>?_,fun q c k e=>?_,List.pairwise_append.2 ⟨st.dis,List.pairwise_singleton _ _,fun a l b i=>?_⟩⟩
 ·rcases q_.1 c with c | c
  ·exact d.oks q c
  ·rw[Y_]at c;subst c;exact j
 ·rcases q_.1 c with c | c
  ·exact d.rng q c k e
  ·rw[Y_]at c;subst c;exact⟨fun m=>by have:=st.up m;have:=f k e;omega,(f k e).2⟩
 ·rw[Y_]at i;subst i;intro k e g;have:=(st.rng a l k e).2;have:=(f k g).1;omega
theorem B_.upd(st:B_ B H0 H ps)(i:Nat)(u:ps[i]?=some p)(h:C_ (fun k=>k<H.size∧¬p.foot k) H H')(q:Pc)(C:q.ok H')(y:∀k,q.foot k→p.foot k∨H.size≤k)(D:∀k,q.foot k→k<H'.size)(hs:H.size≤H'.size):B_ B H0 H' (ps.set i q):=by
 have v:=(O_.1 u).1;have n:=c_ u;have o:∀(j:Nat) (r:Pc),ps[j]?=some r→j≠i→Dis r p:=by
  intro j r c g k d f;have s:=(O_.1 c).1;have z:=(O_.1 c).2;have e2:=(O_.1 u).2;rcases Yb6 g with e | e
  ·exact Ya9.1 st.dis j i s v e k (by rw[z];exact d) (by rw[e2];exact f)
  ·exact Ya9.1 st.dis i j v s e k (by rw[e2];exact f) (by rw[z];exact d)
 have t:∀r,r∈ps.set i q→r=q∨∃j,j≠i∧ps[j]?=some r:=by
  intro r c;have⟨j,g⟩:=YaI c;by_cases e:i=j
  ·subst e;rw[YaA v]at g;cases g;exact .inl rfl
  ·rw[YaC e]at g;exact .inr ⟨j,Ne.symm e,g⟩
 refine⟨st.old.trans (h.mono fun k d=>⟨st.up d,fun m=>(st.rng p n k m).1 d⟩),st.lt0,YbA st.size hs,fun r c=>?_,fun r c k d=>?_,?_⟩
 ·rcases t r c with rfl | ⟨j,g,c⟩
  ·exact C
  ·exact r.fr (h.mono fun k d=>⟨(st.rng r (c_ c) k d).2,fun m=>o j r c g k d m⟩) (st.oks r (c_ c))
 ·rcases t r c with rfl | ⟨j,g,c⟩
  ·refine⟨?_,D k d⟩;rcases y k d with l | l
   ·exact(st.rng p n k l).1
   ·exact fun E=>by have:=st.up E;omega
  ·have:=st.rng r (c_ c) k d;exact⟨this.1,by omega⟩
 ·have old:∀(j:Nat) (r:Pc),ps[j]?=some r→j≠i→Dis r q:=by
   intro j r c g k d f;rcases y k f with l | l
   ·exact o j r c g k d l
   ·have:=(st.rng r (c_ c) k d).2;omega
  rw[Ya9];intro a b w m x;simp only[YaH]at w m;rw[Ybj,Ybj];by_cases l:i=a
  ·subst l;rw[F_ rfl,D_ (by omega)];exact fun k d f=>old b _ (N' m) (by omega) k f d
  ·rw[D_ l];by_cases A:i=b
   ·subst A;rw[F_ rfl];exact old a _ (N' w) (by omega)
   ·rw[D_ A];exact Ya9.1 st.dis a b w m x
theorem B_.pick(st:B_ B H0 H ps)(is:List Nat)(q:is.Nodup):B_ B H0 H (is.filterMap fun i=>ps[i]?):=by
 have l:∀r,r∈is.filterMap (fun i=>ps[i]?)→r∈ps:=fun r c=>by
  obtain⟨i,_,s⟩:=List.mem_filterMap.1 c;exact c_ s
 refine⟨st.old,st.lt0,st.size,fun r c=>st.oks r (l r c),fun r c=>st.rng r (l r c),?_⟩;rw[List.pairwise_filterMap];refine q.imp ?_;intro i j g a m b n k o d;have e:=(O_.1 m).1;have f:=(O_.1 n).1;have p:=(O_.1 m).2;have e2:=(O_.1 n).2;rcases Yb6 g with h | h
 ·exact Ya9.1 st.dis i j e f h k (by rw[p];exact o) (by rw[e2];exact d)
 ·exact Ya9.1 st.dis j i f e h k (by rw[e2];exact d) (by rw[p];exact o)
theorem B_.say(st:B_ B H0 H ps)(i:Nat)(b:ps[i]?=some p)(q:Pc)(d:q.ok H)(c:∀k,q.foot k→p.foot k):B_ B H0 H (ps.set i q):=
 st.upd i b (C_.refl _ _) q d (fun k a=>.inl (c k a)) (fun k a=>(st.in_ i b (c k a)).2) (I_ _)
theorem St.ge(st:St H0 H ps)(i:Nat)(a:ps[i]?=some p){k:Nat}(b:p.foot k):H0.size≤k:=by
 have:=(st.in_ i a b).1;unfold H_ at this;omega
def pJ(p q:Pc):Pc:=⟨fun k=>p.foot k∨q.foot k,fun H=>p.ok H∧q.ok H,fun h hp=>⟨p.fr (h.mono fun _ hk=>.inl hk) hp.1,q.fr (h.mono fun _ hk=>.inr hk) hp.2⟩⟩
theorem B_.join(st:B_ B H0 H ps)(i j:Nat)(x:ps[i]?=some p)(y:ps[j]?=some q)(I:i<j):B_ B H0 H ((ps.eraseIdx j).set i (pJ p q)):=by
 have J:=(O_.1 x).1;have K:=(O_.1 y).1;have n:=c_ x;have o:=c_ y;have d:∀(a:Nat) (r:Pc),((ps.eraseIdx j).set i (pJ p q))[a]?=some r→(a=i∧r=pJ p q)∨(a≠i∧∃b,b≠i∧b≠j∧ps[b]?=some r∧b=if a<j then a else a+1):=by
  intro a r f;by_cases l:i=a
  ·subst l;rw[YaA (by rw[List.length_eraseIdx];split<;>omega)]at f;cases f;exact .inl ⟨rfl,rfl⟩
  ·rw[YaC l,List.getElem?_eraseIdx]at f;refine .inr ⟨Ne.symm l,if a<j then a else a+1,?_,?_,?_,rfl⟩
   ·split<;>omega
   ·split<;>omega
   ·split at f
    ·rename_i h;rw[F_ h];exact f
    ·rename_i h;rw[D_ h];exact f
 have g:∀(a b:Nat) (r s:Pc),a≠b→ps[a]?=some r→ps[b]?=some s→Dis r s:=by
  intro a b r s t f hs k e c;have u:=(O_.1 f).1;have v:=(O_.1 hs).1;have G:=(O_.1 f).2;have e2:=(O_.1 hs).2;rcases Yb6 t with h | h
  ·exact Ya9.1 st.dis a b u v h k (by rw[G];exact e) (by rw[e2];exact c)
  ·exact Ya9.1 st.dis b a v u h k (by rw[e2];exact c) (by rw[G];exact e)
 refine⟨st.old,st.lt0,st.size,fun r f=>?_,fun r f k e=>?_,?_⟩
 ·have⟨a,l⟩:=YaI f;rcases d a r l with⟨_,rfl⟩ | ⟨_,b,_,_,w,_⟩
  ·exact⟨st.oks p n,st.oks q o⟩
  ·exact st.oks r (c_ w)
 ·have⟨a,l⟩:=YaI f;rcases d a r l with⟨_,rfl⟩ | ⟨_,b,_,_,w,_⟩
  ·rcases e with e | e
   ·exact st.rng p n k e
   ·exact st.rng q o k e
  ·exact st.rng r (c_ w) k e
 ·rw[Ya9];intro a b l w t k e c;have L:=N' l;have M:=N' w;rcases d a _ L with⟨N,O⟩ | ⟨N,a',P,Q,z,R⟩<;>rcases d b _ M with⟨A,C⟩ | ⟨A,b',D,E,m,F⟩
  ·omega
  ·rw[O]at e;rcases e with e | e
   ·exact g i b' p _ (Ne.symm D) x m k e c
   ·exact g j b' q _ (Ne.symm E) y m k e c
  ·rw[C]at c;rcases c with c | c
   ·exact g a' i _ p P z x k e c
   ·exact g a' j _ q Q z y k e c
  ·refine g a' b' _ _ ?_ z m k e c;rw[R,F];split<;>split<;>omega
end
def pB(e:x_)(b:Nat)(l:List v_):Pc:=⟨fun k=>k=b,fun H=>Q_ H b e l,fun h hp=>hp.agr h rfl⟩
section
variable{B:Nat→Prop}{H0 H H':Aa}{ps:List Pc}{e:x_}{b:Nat}{l:List v_}
theorem B_.box(st:B_ B H0 H ps)(c:b=H.size)(hs:H'.size=b+1)(a:Q_ H' b e l)(d:C_ (fun k=>k<b) H H'):B_ B H0 H' (ps++[pB e b l]):=by
 subst c;exact st.add (d.mono fun k a=>a) _ a fun k a=>by have:k=H.size:=a;omega
theorem B_.skip(st:B_ B H0 H ps)(a:b=H.size)(c:C_ (fun k=>k<b) H H'):B_ B H0 H' ps:=by
 subst a;exact st.call (c.mono fun k d=>d)
theorem B_.blk(st:B_ B H0 H ps)(i:Nat)(a:ps[i]?=some (pB e b l)):Q_ H b e l:=st.at_ i a
theorem Bh{P:w_}{t o:Nat}{v:v_}{K:Aa→Prop}(st:B_ B H0 H ps)(i:Nat)(j:BW P t)(c:ps[i]?=some (pB e b l))(m:o<l.length)(n:v.oneCell'=true)
  (k:∀H',B_ B H0 H' (ps.set i (pB e b (l.set o v)))→K H'):CN P (Instr.storeAt t (.pointer (some ⟨b,o,none⟩)) v) H K:=by
 refine VC.st1 j (st.at_ i c) m n ?_;intro H' d f g;exact k H' (st.upd i c (f.mono fun k a h=>a.2 h) _ d (fun k a=>.inl a) (fun k a=>by rw[g];exact(st.in_ i c a).2) (by omega))
theorem AN{P:w_}{t o:Nat}{cs:List v_}{K:Aa→Prop}(st:B_ B H0 H ps)(i:Nat)(j:(P.info? t).map (·.size)=some cs.length)(c:ps[i]?=some (pB e b l))(m:o+cs.length≤l.length)(n:cs.all (·.oneCell')=true)
  (k:∀H',B_ B H0 H' (ps.set i (pB e b (Ai l o cs)))→K H'):CN P (Instr.storeAt t (.pointer (some ⟨b,o,none⟩)) (.agg cs.toArray)) H K:=by
 refine VC.stN j (st.at_ i c) m n ?_;intro H' d f g;exact k H' (st.upd i c (f.mono fun k a h=>a.2 h) _ d (fun k a=>.inl a) (fun k a=>by rw[g];exact(st.in_ i c a).2) (by omega))
end
section
variable{α:Type}
def pN(T:Ty α)(S:Nat→Prop)(e:x_)(a:Option Addr)(n cap:Nat)(xs:List α):Pc where
 foot k:=a_ (.slice a n cap) k∨S k
 ok H:=l_ T S H 0 e (.slice a n cap) xs∧∀k,S k→¬a_ (.slice a n cap) k
 fr h hp:=⟨hp.1.agr h (fun _ hb=>.inl hb) (fun _ hb=>.inr hb),hp.2⟩
def none_(_:Nat):Prop:=False
abbrev pS(T:Ty α)(e:x_)(a:Option Addr)(n cap:Nat)(xs:List α):Pc:=pN T none_ e a n cap xs
variable{T:Ty α}{S:Nat→Prop}{e:x_}{a:Option Addr}{n cap:Nat}{xs:List α}{B:Nat→Prop}{H0 H H':Aa}{ps:List Pc}
theorem l_.hull{lo:Nat}{v:v_}(h:l_ T S H lo e v xs):∃a cap,v= .slice a xs.length cap:=by
 obtain⟨d,⟨f,c⟩,g⟩:=h;rcases c with⟨rfl,c⟩ | ⟨b,cap,l,rfl,i,j,k,m,n,o⟩
 ·exact⟨none,0,by rw[c]⟩
 ·exact⟨_,_,rfl⟩
theorem l_.nlen{lo:Nat}(h:l_ T S H lo e (.slice a n cap) xs):n=xs.length:=by
 have⟨a',b,e⟩:=h.hull;injection e
theorem l_.up{lo:Nat}{v:v_}(h:l_ T S H 0 e v xs)(c:∀b,a_ v b→lo≤b):l_ T S H lo e v xs:=by
 obtain⟨d,⟨f,a⟩,g⟩:=h;refine⟨d,⟨f,?_⟩,g⟩;rcases a with a | ⟨b,cap,l,rfl,r⟩
 ·exact .inl a
 ·exact .inr ⟨b,cap,l,rfl,c b ⟨_,_,_,rfl⟩,r.2⟩
theorem St.own(st:St H0 H ps)(i:Nat)(c:ps[i]?=some (pN T S e a n cap xs)):l_ T S H H0.size e (.slice a n cap) xs:=
 (st.at_ i c).1.up fun b d=>st.ge i c (.inl d)
theorem B_.len(st:B_ B H0 H ps)(i:Nat)(b:ps[i]?=some (pN T S e a n cap xs)):n=xs.length:=(st.at_ i b).1.nlen
theorem B_.max(st:B_ B H0 H ps)(i:Nat)(b:ps[i]?=some (pN T S e a n cap xs)):xs.length≤maxLen:=(st.at_ i b).1.len
theorem B_.adr(st:B_ B H0 H ps)(i:Nat)(d:ps[i]?=some (pN T S e a n cap xs))(f:0<xs.length):∃b,a=some ⟨b,0,none⟩:=by
 obtain⟨g,⟨h,c⟩,j⟩:=(st.at_ i d).1;rcases c with⟨c,k⟩ | ⟨b,cap,l,c,r⟩
 ·omega
 ·injection c with c
  exact⟨b,c⟩
theorem B_.view(st:B_ B H0 H ps)(i:Nat)(c:ps[i]?=some (pN T S e a n cap xs)):g_ T (H_ H) H a cap xs:=by
 obtain⟨a',g,d,h,-⟩:=(st.at_ i c).1.view (S':=H_ H) (fun b f=>(st.in_ i c (.inl f)).2) (fun b f=>(st.in_ i c (.inr f)).2);injection d with d e2 e3
 subst d;subst e3;exact h
section
variable{P:w_}
theorem ixO{t by_ j:Nat}{z:v_}{k:IntKind}{x:α}{d:Int}{S0:Nat→Prop}{H2:Aa}{K:v_→Prop}(l:SlT P t e T.size by_ z)(st:B_ B H0 H ps)(i:Nat)(f:ps[i]?=some (pN T S e a n cap xs))
  (g:xs[j]?=some x) (m:d=(j:Int)) (p:∀b o c,H_ H b→Be H b o c→T.rep (H_ H) H c x→K (.pointer (some ⟨b,o,none⟩))):AJ P (Instr.indexAt t (.slice a n cap) (.int k d)) S0 H2 K:=by
 have h:=st.view i f;have u:=st.len i f;obtain⟨b,o,c,rfl,q,r,s⟩:=h.get g;subst m;have v:=(O_.1 g).1;exact ix l (by omega) (by omega) (by simpa using p b _ c q r s)
theorem GA{t b o j:Nat}{v:v_}{x:α}{K:Aa→Prop}(st:B_ B H0 H ps)(i:Nat)(w:BW P t)(q:ps[i]?=some (pN T S t (T_ b) n cap xs))(r:T.size=1)(y:o=j)(z:j<xs.length)
  (A:v.oneCell'=true) (C:∀H',C_ S H H'→T.rep S H' [v] x) (k:∀H',B_ B H0 H' (ps.set i (pN T S t (T_ b) n cap (xs.set j x)))→K H'):CN P (Instr.storeAt t (.pointer (some ⟨b,o,none⟩)) v) H K:=by
 subst y;have c:=st.at_ i q;obtain⟨-,-,-,l,f,g,-,a⟩:=c.1.placeS z;rw[r,L']at g a;refine VC.st1 w f (by omega) A ?_;intro H' s h u;have m:C_ S H H':=h.mono fun k d e=>c.2 k d (by subst e;exact⟨0,n,cap,rfl⟩);have p:=a H' [v] x (by rw[OQ (by omega)];exact s) m (C H' m);refine k H' (st.upd i q (h.mono fun k d e=>d.2 (.inl (by subst e;exact⟨0,n,cap,rfl⟩))) _ ⟨p,c.2⟩ (fun k d=>.inl d) (fun k d=>by rw[u];exact(st.in_ i q d).2) (by omega))
theorem stNO{t b o j:Nat}{cs:List v_}{x:α}{K:Aa→Prop}(st:B_ B H0 H ps)(i:Nat)(w:(P.info? t).map (·.size)=some T.size)(r:ps[i]?=some (pN T S t (T_ b) n cap xs))(y:o=j*T.size)(z:j<xs.length)
  (A:cs.all (·.oneCell')=true) (v:∀H',C_ S H H'→T.rep S H' cs x) (k:∀H',B_ B H0 H' (ps.set i (pN T S t (T_ b) n cap (xs.set j x)))→K H'):CN P (Instr.storeAt t (.pointer (some ⟨b,o,none⟩)) (.agg cs.toArray)) H K:=by
 subst y;have a:=st.at_ i r;have e:=T.len (v H (C_.refl _ _));obtain⟨-,-,-,l,f,g,-,h⟩:=a.1.placeS z;refine VC.stN (by rw[e];exact w) f (by rw[e];exact g) A ?_;intro H' s m u;have p:C_ S H H':=m.mono fun k c d=>a.2 k c (by subst d;exact⟨0,n,cap,rfl⟩);have q:=h H' cs x s p (v H' p);refine k H' (st.upd i r (m.mono fun k c d=>c.2 (.inl (by subst d;exact⟨0,n,cap,rfl⟩))) _ ⟨q,a.2⟩ (fun k c=>.inl c) (fun k c=>by rw[u];exact(st.in_ i r c).2) (by omega))
end
theorem B_.new{b:Nat}{l:List v_}(st:B_ B H0 H ps)(d:b=H.size)(hs:H'.size=b+1)(a:Q_ H' b e l)(f:C_ (fun k=>k<b) H H')(g:T.reps none_ H' l xs)(i:n=xs.length)(j:n≤maxLen):B_ B H0 H' (ps++[pS T e (T_ b) n n xs]):=by
 subst d;refine st.add (f.mono fun k a=>a) _ ⟨l_.ofBlk (t_ _) a g i j,fun k a=>a.elim⟩ fun k a=>?_;rcases a with⟨o,n',c,h⟩ | h
 ·cases h;omega
 ·exact h.elim
theorem B_.nils(st:B_ B H0 H ps)(T:Ty α)(e:x_):B_ B H0 H (ps++[pS T e none 0 0 []]):=
 st.add (C_.refl _ _) _ ⟨l_.nil,fun k a=>a.elim⟩ fun k a=>by
  rcases a with⟨o,n',c,h⟩ | h
  ·cases h
  ·exact h.elim
theorem B_.got{v:v_}(st:B_ B H0 H ps)(c:C_ (H_ H) H H')(h:l_ T none_ H' H.size e v xs):∃a cap,v= .slice a xs.length cap∧B_ B H0 H' (ps++[pS T e a xs.length cap xs]):=by
 obtain⟨a,cap,rfl⟩:=h.hull;refine⟨a,cap,rfl,st.add c _ ⟨h.lower (t_ _),fun k b=>b.elim⟩ fun k b=>?_⟩;rcases b with b | b
 ·exact h.lt b
 ·exact b.elim
theorem QF{P:w_}{t ty q o m g by_:Nat}{z:v_}{ys:List α}{ds:List v_}{K:v_→Aa→Prop}(st:B_ B H0 H ps)(i:Nat)(s:SlT P t e T.size by_ z)(r:ps[i]?=some (pS T e a n cap xs))
  (v:Be H q o ds) (w:T.reps none_ H ds ys) (x:m=ys.length) (y:∀u∈ds,u.oneCell'=true) (l:xs.length+ys.length≤34359738368) (hby:by_≤1024)
  (k:∀a' c H',B_ B H0 H' (ps.set i (pS T e a' (xs.length+ys.length) c (xs++ys)))→C_ (fun k=>k<H.size∧¬a_ (.slice a n cap) k) H H'→K (.slice a' (xs.length+ys.length) c) H'):
  BH P (Builtin.append_ #[t,t] ty [.slice a n cap,.slice (some ⟨q,o,none⟩) m g].toArray) H K:=by
 refine Di (T:=T) (S:=none_) (lo:=0) s (st.at_ i r).1 (t_ _) (fun k b=>b.elim) v w x y (by unfold maxLen;omega) (by have:=YbM l hby;omega) ?_;intro C H' d f p j;obtain⟨a',c,rfl⟩:=d.hull;rw[J_]at d j ⊢;refine k a' c H' (st.upd i r (f.mono fun k b=>⟨b.1,fun A=>b.2 (.inl A)⟩) _ ⟨d,fun k b=>b.elim⟩ (fun k b=>?_) (fun k b=>?_) p) f
 ·rcases b with b | b
  ·rcases j k b with h | h
   ·exact .inl (.inl h)
   ·exact .inr h
  ·exact b.elim
 ·rcases b with b | b
  ·exact(d.lt b).2
  ·exact b.elim
theorem IN{P:w_}{t ty q by_:Nat}{z v:v_}{x:α}{K:v_→Aa→Prop}(st:B_ B H0 H ps)(i:Nat)(f:SlT P t e T.size by_ z)(g:ps[i]?=some (pS T e a n cap xs))
  (h:Q_ H q e [v]) (l:T.rep none_ H [v] x) (c:v.oneCell'=true) (d:xs.length+1≤34359738368) (hby:by_≤1024)
  (k:∀a' b H',B_ B H0 H' (ps.set i (pS T e a' (xs.length+1) b (xs++[x])))→C_ (fun k=>k<H.size∧¬a_ (.slice a n cap) k) H H'→K (.slice a' (xs.length+1) b) H'):
  BH P (Builtin.append_ #[t,t] ty [.slice a n cap,.slice (T_ q) 1 1].toArray) H K:=
 QF (ys:=[x]) st i f g (h.cells (fun j v c=>by simpa using c)) (Ty.reps_one l) rfl (fun u m=>by cases Y_.1 m;exact c) (by simpa using d) hby k
end
section
variable{α:Type}{T:Ty α}{B:Nat→Prop}{H0 H H1:Aa}{ps:List Pc}{e te:x_}{nb:Nat}{vs:List v_}{xs:List (List α)}
theorem Tab.hold{S':Nat→Prop}{lo:Nat}(h:Tab T none_ H lo e nb te vs xs)(k:C_ S' H H1)(f:S' nb)(a:∀(i:Nat) (v:v_),vs[i]?=some v→∀j,a_ v j→S' j):Tab T none_ H1 lo e nb te vs xs:=
 ⟨h.len,h.blk.agr k f,h.nlo,fun i v x d g=>(h.own i v x d g).agr k (fun b c=>a i v d b c) (fun b a=>a.elim),h.apart⟩
def pT(T:Ty α)(e te:x_)(nb:Nat)(vs:List v_)(xs:List (List α)):Pc where
 foot k:=k=nb∨∃(i:Nat) (v:v_),vs[i]?=some v∧a_ v k
 ok H:=Tab T none_ H (nb+1) e nb te vs xs
 fr h hp:=hp.hold h (.inl rfl) fun i v hv j hj=>.inr ⟨i,v,hv,hj⟩
theorem B_.tab(st:B_ B H0 H ps)(i:Nat)(a:ps[i]?=some (pT T e te nb vs xs)):Tab T none_ H (nb+1) e nb te vs xs:=st.at_ i a
theorem B_.tabNew{n:Nat}(st:B_ B H0 H ps)(T:Ty α)(e:x_)(d:nb=H.size)(hs:H1.size=nb+1)(a:Q_ H1 nb te (AiF n (.slice none 0 0)))(f:C_ (fun k=>k<nb) H H1):B_ B H0 H1 (ps++[pT T e te nb (AiF n (.slice none 0 0)) (AiF n [])]):=by
 subst d;refine st.add (f.mono fun k a=>a) _ (Tab.new a (Nat.lt_succ_self _)) fun k a=>?_;rcases a with rfl | ⟨i,v,b,a⟩
 ·omega
 ·rw[YaO]at b;split at b
  ·cases b;have⟨o,n,c,h⟩:=a;cases h
  ·cases b
theorem B_.row(st:B_ B H0 H ps)(i:Nat)(h:ps[i]?=some (pT T e te nb vs xs)){t:Nat}{x:List α}(g:xs[t]?=some x):∃a cap,vs[t]?=some (.slice a x.length cap)∧g_ T (H_ H) H a cap x:=by
 have tab:=st.tab i h;have j:=(O_.1 g).1;have⟨v,n,k,d,c⟩:=tab.get j;rw[g]at d;cases d;obtain⟨a,cap,rfl,l,-⟩:=c.view (S':=H_ H) (fun b m=>(c.lt m).2) (fun _ f=>f.elim);exact⟨a,cap,k,l⟩
theorem B_.tcell(st:B_ B H0 H ps)(i:Nat)(a:ps[i]?=some (pT T e te nb vs xs)){t o:Nat}{v:v_}(b:vs[t]?=some v)(c:o=t):VC.cell H nb o=some v:=by
 subst c;rw[(st.tab i a).blk.cell];exact b
structure Mid(T:Ty α)(B:Nat→Prop)(H0 H H1:Aa)(ps:List Pc)(i:Nat)(e te:x_)(nb:Nat)(vs:List v_)(xs:List (List α))(t:Nat)(v':v_)(x':List α):Prop where
 st:B_ B H0 H ps
 hp:ps[i]?=some (pT T e te nb vs xs)
 own:l_ T none_ H1 (nb+1) e v' x'
 ex:∃v,vs[t]?=some v∧C_ (fun k=>k<H.size∧¬a_ v k) H H1∧∀k,a_ v' k→a_ v k∨H.size≤k
 le:H.size≤H1.size
theorem appT{P:w_}{l ty q by_ t:Nat}{z w:v_}{a:Option Addr}{n cap:Nat}{x:List α}{y:α}{K:v_→Aa→Prop}(st:B_ B H0 H ps)(i:Nat)(r:SlT P l e T.size by_ z)(p:ps[i]?=some (pT T e te nb vs xs))(h:vs[t]?=some (.slice a n cap))(s:xs[t]?=some x)
  (A:Q_ H q e [w]) (C:T.rep none_ H [w] y) (D:w.oneCell'=true) (m:x.length+1≤34359738368) (hby:by_≤1024)
  (k:∀a' c H1,Mid T B H0 H H1 ps i e te nb vs xs t (.slice a' (x.length+1) c) (x++[y])→K (.slice a' (x.length+1) c) H1):BH P (Builtin.append_ #[l,l] ty [.slice a n cap,.slice (T_ q) 1 1].toArray) H K:=by
 have tab:=st.tab i p;have d:=tab.own t _ _ h s;refine Di (T:=T) (S:=none_) (lo:=nb+1) (ys:=[y]) r d tab.blk.lt (fun k E=>E.elim) (A.cells (fun j v h=>by simpa using h)) (Ty.reps_one C) rfl (fun u F=>by cases Y_.1 F;exact D) (by unfold maxLen;simp only[h_];omega) (by have:=YbM m hby;simp only[h_];omega) ?_;intro G H1 b f o g;obtain⟨a',c,rfl⟩:=b.hull;rw[J_,h_]at b g ⊢;exact k a' c H1 ⟨st,p,b,⟨_,h,f,g⟩,o⟩
theorem stT{P:w_}{i t o:Nat}{g:v_}{x':List α}{K:Aa→Prop}(m:Mid T B H0 H H1 ps i e te nb vs xs t g x')(E:BW P te)(F:o=t)
  (k:∀H2,B_ B H0 H2 (ps.set i (pT T e te nb (vs.set t g) (xs.set t x')))→K H2):CN P (Instr.storeAt te (.pointer (some ⟨nb,o,none⟩)) g) H1 K:=by
 subst F;have⟨v,l,c,n⟩:=m.ex;have st:=m.st;have tab:=st.tab i m.hp;have f:o<vs.length:=(O_.1 l).1;have s:o<xs.length:=by rw[←tab.len];exact f
 obtain⟨x,G⟩:∃x,xs[o]?=some x:=⟨xs[o],N' s⟩;have u:=tab.own o v x l G;have y:¬a_ v nb:=fun h=>by have:=(u.lt h).1;omega
 have p:=tab.blk.agr c ⟨tab.blk.lt,y⟩;refine VC.st1 E p f m.own.one ?_;intro H2 z q I;have b:Tab T none_ H2 (nb+1) e nb te (vs.set o g) (xs.set o x'):=tab.push l m.own c n z q (fun k a=>a.elim);have J:=m.le;have r:∀(j:Nat) (w:v_),(vs.set o g)[j]?=some w→∀k,a_ w k→k<H2.size:=fun j w d k a=>by
  have A:=(O_.1 d).1;have:j<(xs.set o x').length:=by rw[←b.len];exact A
  exact((b.own j w _ d (N' this)).lt a).2
 refine k H2 (st.upd i m.hp (H':=H2) ?_ _ b ?_ ?_ (by omega))
 ·exact(c.mono fun k a=>⟨a.1,fun L=>a.2 (.inr ⟨o,v,l,L⟩)⟩).trans (q.mono fun k a C=>a.2 (.inl C))
 ·intro k a;rcases a with rfl | ⟨j,w,d,a⟩
  ·exact .inl (.inl rfl)
  ·by_cases D:o=j
   ·subst D;rw[YaA f]at d;cases d;rcases n k a with h | h
    ·exact .inl (.inr ⟨o,v,l,h⟩)
    ·exact .inr h
   ·rw[YaC D]at d;exact .inl (.inr ⟨j,w,d,a⟩)
 ·intro k a;rcases a with rfl | ⟨j,w,d,a⟩
  ·exact b.blk.lt
  ·exact r j w d k a
theorem B_.tview(st:B_ B H0 H ps)(i:Nat)(a:ps[i]?=some (pT T e te nb vs xs))(b:xs.length≤maxLen):g_ (tSl T) (H_ H) H (T_ nb) xs.length xs:=
 (st.tab i a).view rfl b (fun k _ c=>c) (fun _ f=>f.elim)
end
section
variable{P:w_}{c:Array x_}{t:x_}{k d:IntKind}{a b:Int}{S:Nat→Prop}{H:Aa}{K:v_→Prop}
theorem AjG(h:K (.int k (if b<a then b else a))):AJ P (Builtin.min_ c t [.int k a,.int d b].toArray) S H K:=by
 refine AJ.mk _ (fun w _=>?_) h;simp[Builtin.min_,Builtin.min2]
theorem AfP(h:K (.int k (if a<b then b else a))):AJ P (Builtin.max_ c t [.int k a,.int d b].toArray) S H K:=by
 refine AJ.mk _ (fun w _=>?_) h;simp[Builtin.max_,Builtin.max2]
end
theorem AhV(n:Nat):IntKind.wrap .u64 (n:Int)=((n % 18446744073709551616:Nat):Int):=by
 unfold IntKind.wrap;simp only[IntKind.bits,IntKind.signed,Yaz,Yaw,if_false,AkC,AkK];omega
theorem Md{x y:Nat}(h:x+y<18446744073709551616):IntKind.wrap .u64 ((x:Int)+(y:Int))=((x+y:Nat):Int):=by
 rw[←Ya3,AhV,Ybs h]
theorem AhU{n:Nat}(h:n<9223372036854775808):IntKind.wrap .i64 (n:Int)=(n:Int):=w64 (by omega) (by omega)
end Go.VC
namespace Go.Proofs.YtfbghcpdinlmcaaGreatDoor
open Go.VC
theorem Ho{a c x y:Nat}(b:a<256)(d:c<256):(a+256*x) &&& (c+256*y)=(a &&& c)+256*(x &&& y):=by
 have e:((a+256*x) &&& (c+256*y)) % 2^8=(a &&& c):=by rw[Nat.and_mod_two_pow,show(a+256*x) % 2^8=a by omega,show(c+256*y) % 2^8=c by omega]
 have f:((a+256*x) &&& (c+256*y)) / 2^8=(x &&& y):=by rw[Nat.and_div_two_pow,show(a+256*x) / 2^8=x by omega,show(c+256*y) / 2^8=y by omega]
 omega
def mk_(c:Nat):Nat→Nat
 | 0=>0
 | m+1=>c+256*mk_ c m
theorem R2(c m:Nat):mk_ c (m+1)=c+256*mk_ c m:=rfl
def sw1(m w:Nat):Nat:=((w / 2) &&& mk_ 85 m)+(w &&& mk_ 85 m)
def sw2(m w:Nat):Nat:=((w / 4) &&& mk_ 51 m)+(w &&& mk_ 51 m)
def sw3(m w:Nat):Nat:=(w / 16+w) &&& mk_ 15 m
def pc8(a:Nat):Nat:=((Aj7 8).filter fun j=>a.testBit j).length
def IE(m w:Nat):Nat:=((Aj7 m).filter fun j=>w.testBit j).length
def g1(a:Nat):Nat:=((a / 2) &&& 85)+(a &&& 85)
def g2(a:Nat):Nat:=((a / 4) &&& 51)+(a &&& 51)
theorem Af9:∀a,a<256→g1 a<256:=by decide+kernel
theorem AiK:∀a,a<256→∀r,r<2→((a / 2+128*r) &&& 85)=((a / 2) &&& 85):=by decide+kernel
theorem AiL:∀a,a<256→∀r,r<4→((a / 4+64*r) &&& 51)=((a / 4) &&& 51):=by decide+kernel
theorem AfA:∀a,a<256→g2 a<256∧(g2 (g1 a)) % 16≤4∧g2 (g1 a) / 16≤4:=by decide+kernel
theorem AiM:∀a,a<256→∀r,r<5→((g2 (g1 a) / 16+16*r+g2 (g1 a)) &&& 15)=pc8 a:=by decide+kernel
theorem Jn:∀a,a<256→pc8 a≤8:=by decide+kernel
theorem Qy{m a b:Nat}(c:a<256):sw1 (m+1) (a+256*b)=g1 a+256*sw1 m b:=by
 unfold sw1;rw[R2];have e:(a+256*b) / 2=(a / 2+128*(b % 2))+256*(b / 2):=by omega
 rw[e,Ho (by omega) (by decide),Ho c (by decide),AiK a c _ (by omega)];unfold g1;omega
theorem Qz{m a b:Nat}(c:a<256):sw2 (m+1) (a+256*b)=g2 a+256*sw2 m b:=by
 unfold sw2;rw[R2];have e:(a+256*b) / 4=(a / 4+64*(b % 4))+256*(b / 4):=by omega
 rw[e,Ho (by omega) (by decide),Ho c (by decide),AiL a c _ (by omega)];unfold g2;omega
theorem AhJ(m b:Nat)(a:b<256^m):sw2 m (sw1 m b) % 16≤4:=by
 cases m with
 | zero=>
   obtain rfl:b=0:=by simp at a;omega
   decide
 | succ m=>
   have e:b=b % 256+256*(b / 256):=by omega
   rw[e,Qy (by omega),Qz (Af9 _ (by omega))];have:=(AfA (b % 256) (by omega)).2.1;omega
theorem AaW{m a b:Nat}(c:a<256)(d:b<256^m):sw3 (m+1) (sw2 (m+1) (sw1 (m+1) (a+256*b)))=pc8 a+256*sw3 m (sw2 m (sw1 m b)):=by
 rw[Qy c,Qz (Af9 a c)];have f:=AhJ m b d;have g:=AfA a c;generalize sw2 m (sw1 m b)=x at*;unfold sw3;rw[R2];have e:(g2 (g1 a)+256*x) / 16+(g2 (g1 a)+256*x)=(g2 (g1 a) / 16+16*(x % 16)+g2 (g1 a))+256*(x / 16+x):=by omega
 rw[e,Ho (by omega) (by decide),AiM a c _ (by omega)]
theorem UX(m w:Nat):IE (8+m) w=pc8 (w % 256)+IE m (w / 256):=by
 unfold IE pc8;rw[Ybe,Ybg,J_,Ybp,Z_]
 congr 1
 ·congr 1
  refine YaU fun j a=>?_;rw[YaY]at a;rw[show(256:Nat)=2^8 from rfl,YbE];simp[a]
 ·congr 1
  refine YaU fun j _=>?_;simp only[Function.comp];rw[show(256:Nat)=2^8 from rfl,YbF,Nat.add_comm]
def p8(w i:Nat):Nat:=pc8 (w / 256^i % 256)
theorem AhI(w:Nat)(c:w<18446744073709551616):sw3 8 (sw2 8 (sw1 8 w))=p8 w 0+256*(p8 w 1+256*(p8 w 2+256*(p8 w 3+256*(p8 w 4+256*(p8 w 5+256*(p8 w 6+256*p8 w 7))))))∧
  IE 64 w=p8 w 0+(p8 w 1+(p8 w 2+(p8 w 3+(p8 w 4+(p8 w 5+(p8 w 6+p8 w 7)))))):=by
 have st:∀(m w i:Nat),w / 256^i<256^(m+1)→sw3 (m+1) (sw2 (m+1) (sw1 (m+1) (w / 256^i)))=p8 w i+256*sw3 m (sw2 m (sw1 m (w / 256^(i+1)))):=by
  intro m w i h;have e:w / 256^i=w / 256^i % 256+256*(w / 256^(i+1)):=by rw[YbD,←Yb8];omega
  have f:w / 256^(i+1)<256^m:=by
   rw[YbD,←Yb8,YbI (by decide)];rw[YbD]at h;exact h
  conv=>lhs;rw[e]
  rw[AaW (by omega) f];rfl
 have a:∀(m i:Nat),IE (8+m) (w / 256^i)=p8 w i+IE m (w / 256^(i+1)):=by
  intro m i;rw[UX,YbD,←Yb8];rfl
 have d:w=w / 256^0:=by simp
 have g:sw3 0 (sw2 0 (sw1 0 (w / 256^8)))=0:=by
  rw[Nat.div_eq_of_lt (by simpa using c)];decide
 have b:∀i,i≤8→w / 256^i<256^(8-i):=by
  intro i j;rw[YbI (Nat.pow_pos (by decide)),←Nat.pow_add,show 8-i+i=8 by omega];simpa using c
 constructor
 ·conv=>lhs;rw[d]
  rw[st 7 w 0 (b 0 (by omega)),st 6 w 1 (b 1 (by omega)),st 5 w 2 (b 2 (by omega)),st 4 w 3 (b 3 (by omega)),st 3 w 4 (b 4 (by omega)),st 2 w 5 (b 5 (by omega)),st 1 w 6 (b 6 (by omega)),st 0 w 7 (b 7 (by omega)),g];omega
 ·conv=>lhs;rw[d]
  rw[show(64:Nat)=8+56 from rfl,a 56 0,show(56:Nat)=8+48 from rfl,a 48 1,show(48:Nat)=8+40 from rfl,a 40 2,show(40:Nat)=8+32 from rfl,a 32 3,show(32:Nat)=8+24 from rfl,a 24 4,show(24:Nat)=8+16 from rfl,a 16 5,
   show(16:Nat)=8+8 from rfl,a 8 6,show(8:Nat)=8+0 from rfl,a 0 7]
  rfl
theorem Ah1(w:Nat)(v:w<18446744073709551616)(H:Aa):BM prog 209 #[.int .u64 (w:Int)] H (.int .i64 (IE 64 w:Int)):=by
 have⟨hs,F⟩:=AhI w v;have G:=Jn (w / 256^0 % 256) (by omega);have I:=Jn (w / 256^1 % 256) (by omega);have J:=Jn (w / 256^2 % 256) (by omega);have K:=Jn (w / 256^3 % 256) (by omega);have L:=Jn (w / 256^4 % 256) (by omega);have M:=Jn (w / 256^5 % 256) (by omega);have N:=Jn (w / 256^6 % 256) (by omega);have O:=Jn (w / 256^7 % 256) (by omega);change p8 w 0≤8 at G;change p8 w 1≤8 at I;change p8 w 2≤8 at J;change p8 w 3≤8 at K;change p8 w 4≤8 at L;change p8 w 5≤8 at M;change p8 w 6≤8 at N;change p8 w 7≤8 at O;have P:mk_ 85 8=6148914691236517205:=by decide
 have Q:mk_ 51 8=3689348814741910323:=by decide
 have R:mk_ 15 8=1085102592571150095:=by decide
 have A:J' .u64 ((6148914691236517205:Nat):Int):=Ke (by decide);have B:J' .u64 ((3689348814741910323:Nat):Int):=Ke (by decide);have S:J' .u64 ((1085102592571150095:Nat):Int):=Ke (by decide);refine Ak.of_vc func209 rfl (call209 _) ?_;have r:((w / 2^1) &&& 6148914691236517205)+(w &&& 6148914691236517205)<18446744073709551616:=by
  have:=Ybz (n:=w / 2^1) (m:=6148914691236517205);have:=Ybz (n:=w) (m:=6148914691236517205);omega
 refine Ly (a:=w) (b:=1) (by decide) (IG (a:=w / 2^1) (b:=6148914691236517205) (Ke (by omega)) A (IG (a:=w) (b:=6148914691236517205) (Ke v) A ?_));(conv=>whnf);rw[Md r];have T:((w / 2^1) &&& 6148914691236517205)+(w &&& 6148914691236517205)=sw1 8 w:=by unfold sw1;rw[P]
 rw[T]at r ⊢;generalize sw1 8 w=c at*;have C:((c / 2^2) &&& 3689348814741910323)+(c &&& 3689348814741910323)<18446744073709551616:=by
  have:=Ybz (n:=c / 2^2) (m:=3689348814741910323);have:=Ybz (n:=c) (m:=3689348814741910323);omega
 refine Ly (a:=c) (b:=2) (by decide) (IG (a:=c / 2^2) (b:=3689348814741910323) (Ke (by omega)) B (IG (a:=c) (b:=3689348814741910323) (Ke r) B ?_));(conv=>whnf);rw[Md C];have e2:((c / 2^2) &&& 3689348814741910323)+(c &&& 3689348814741910323)=sw2 8 c:=by unfold sw2;rw[Q]
 have s:((c / 2^2) &&& 3689348814741910323)+(c &&& 3689348814741910323)≤7378697629483820646:=by
  have:=Ybz (n:=c / 2^2) (m:=3689348814741910323);have:=Ybz (n:=c) (m:=3689348814741910323);omega
 rw[e2]at C s ⊢;generalize sw2 8 c=e at*;refine Ly (a:=e) (b:=4) (by decide) ?_;(conv=>whnf);rw[Md (x:=e / 2^4) (y:=e) (by omega)];refine IG (a:=e / 2^4+e) (b:=1085102592571150095) (Ke (by omega)) S ?_;have U:((e / 2^4+e) &&& 1085102592571150095)=sw3 8 e:=by unfold sw3;rw[R]
 rw[U];generalize sw3 8 e=d at*;generalize p8 w 0=W at*;generalize p8 w 1=V at*;generalize p8 w 2=D at*;generalize p8 w 3=t at*;generalize p8 w 4=p at*;generalize p8 w 5=k at*;generalize p8 w 6=h at*;generalize p8 w 7=f at*;have X:d<1152921504606846976:=by omega
 refine Ly (a:=d) (b:=8) (by decide) ?_;(conv=>whnf);rw[Md (x:=d) (y:=d / 2^8) (by omega)];refine Ly (a:=d+d / 2^8) (b:=16) (by decide) ?_;(conv=>whnf);rw[Md (x:=d+d / 2^8) (y:=(d+d / 2^8) / 2^16) (by omega)];obtain⟨y,g⟩:∃y,y=d+d / 2^8:=⟨_,rfl⟩;rw[←g];obtain⟨z,i⟩:∃z,z=y+y / 2^16:=⟨_,rfl⟩;rw[←i];refine Ly (a:=z) (b:=32) (by decide) ?_;(conv=>whnf);rw[Md (x:=z) (y:=z / 2^32) (by omega)];obtain⟨u,l⟩:∃u,u=z+z / 2^32:=⟨_,rfl⟩;rw[←l];(conv=>whnf);rw[AhU (n:=u) (by omega)];refine IG (a:=u) (b:=127) (BX (by omega)) (BX (by decide)) ?_;(conv=>whnf);have o:(u &&& 127)=IE 64 w:=by
  rw[show(127:Nat)=2^7-1 by decide,Yb2,F];have j:d / 2^8=V+256*(D+256*(t+256*(p+256*(k+256*(h+256*f))))):=by omega
  have q:y / 2^16=(D+t)+256*((t+p)+256*((p+k)+256*((k+h)+256*((h+f)+256*f)))):=by rw[g,j,hs];clear l i g j hs;omega
  have E:z / 2^32=(p+k+h+f)+256*((k+h+f)+256*((h+f)+256*f)):=by rw[i,q,g,j,hs];clear l i g j q hs;omega
  rw[l,E,i,q,g,j,hs];clear l i g j q E hs;omega
 rw[o];exact⟨rfl,C_.refl _ _⟩
def BD(s:BitVec 256):Nat:=((Aj7 256).filter fun b=>s.getLsbD b).length
theorem S4(s:BitVec 256):BD s=IE 64 (wd s 0)+(IE 64 (wd s 1)+(IE 64 (wd s 2)+IE 64 (wd s 3))):=by
 have one:∀i m,((Aj7 (64+m)).filter fun j=>s.getLsbD (64*i+j)).length=IE 64 (wd s i)+((Aj7 m).filter fun j=>s.getLsbD (64*(i+1)+j)).length:=by
  intro i m;rw[Ybe,Ybg,J_,Ybp,Z_]
  congr 1
  ·unfold IE
   congr 1
   refine YaU fun j a=>?_;rw[YaY]at a;rw[Fb s i j a]
  ·congr 1
   refine YaU fun j _=>?_;simp only[Function.comp];rw[show 64*i+(64+j)=64*(i+1)+j by omega]
 have b:BD s=((Aj7 (64+192)).filter fun j=>s.getLsbD (64*0+j)).length:=by
  unfold BD;simp only[Nat.mul_zero,K_,Nat.reduceAdd]
 rw[b,one 0 192,show(192:Nat)=64+128 from rfl,one 1 128,show(128:Nat)=64+64 from rfl,one 2 64,show(64:Nat)=64+0 from rfl,one 3 0]
 first | done | rfl
theorem W6(m w:Nat):IE m w≤m:=by
 unfold IE;exact YbA (Ybd _ _) (by simp)
def Kr(s:BitVec 256):Nat→Nat
 | 0=>0
 | i+1=>Kr s i+IE 64 (wd s i)
theorem P6(s:BitVec 256):∀i,Kr s i≤64*i
 | 0=>I_ _
 | i+1=>by have:=P6 s i;have:=W6 64 (wd s i);simp only[Kr];omega
theorem Ac5(s:BitVec 256)(H:Aa):BM prog 186 #[Bt s] H (.int .i64 (BD s:Int)):=by
 refine Ak.of_vc func186 rfl (call186 _) (Ct (Ad s) rfl ?_);intro pb H1 l m c d;have e:C_ (H_ H) H H1:=d.mono fun j n=>by unfold H_ at n;omega
 refine L_ (cs:=Ad s) AT (c.cells fun j v o=>by rw[K_];exact o) trivial ?_;(conv=>whnf);refine A0.mk [3,7] (fun i:Nat=>[A_ (Kr s i:Int),A_ i]) (fun i H2=>i≤4∧C_ (H_ H) H H2) (fun i _=>4-i) ?_ ?_
 ·(conv=>whnf);exact⟨0,rfl,by omega,e⟩
 ·rintro i H2 g ⟨t,a⟩;refine AG.m2 (fun h=>?_) (fun h=>?_)
  ·have b:(Ad s)[i]?=some (.int .u64 (wd s i)):=by
    have:i=0∨i=1∨i=2∨i=3:=by omega
    rcases this with rfl | rfl | rfl | rfl<;>rfl
   have p:=P6 s i;have q:=W6 64 (wd s i);refine ixv1 (v:=.int .u64 (wd s i)) Ch Fj (by omega) (by omega) (by rw[U',L'];simpa using b) ?_;refine Ah (Ah1 (wd s i) (JE s i) H2) fun H3 f=>?_;(conv=>whnf);rw[W_ (x:=(Kr s i:Int)+(IE 64 (wd s i):Int)) (by omega)];(conv=>whnf);rw[P_ i (by omega)];exact⟨rfl,i+1,by simp[Kr],⟨by omega,a.trans (f.mono fun k r=>Ar a r)⟩,by omega⟩
  ·obtain rfl:i=4:=by omega
   (conv=>whnf);refine⟨?_,a⟩;rw[S4];simp only[Kr]
   congr 2
   omega
def AE(s:BitVec 256)(n:Nat):Nat×Bool:=match(Aj7 256).find? fun b=>decide (n≤b)&&s.getLsbD b with
 | some b=>(b,true)
 | none=>(0,false)
theorem BC(s:BitVec 256)(n:Nat):(AE s n).1<256:=by
 unfold AE;split
 ·rename_i b h;have:=List.mem_of_find?_eq_some h;simpa using this
 ·decide
theorem LM(s:BitVec 256)(n:Nat)(y:n≤256)(H:Aa):BM prog 67 #[Bt s,A_ n] H (.tuple #[.int .u8 ((AE s n).1:Int),.bool (AE s n).2]):=by
 refine Ak.of_vc func67 rfl (call67 _) (Ct (Ad s) rfl ?_);intro pb H1 f g i l;have st1:=(St.nil H).box f g i l;refine AfP ?_;rw[D_ (by omega)];(conv=>whnf);refine A0.mk [4,5,6] (fun k:Nat=>[.int .u8 0,.bool false,A_ k]) (fun k H2=>n≤k∧k≤256∧(∀j,n≤j→j<k→s.getLsbD j=false)∧St H H2 [pB 101 pb (Ad s)]) (fun k _=>256-k) ?_ ?_
 ·(conv=>whnf);exact⟨n,rfl,I_ _,y,fun j t z=>by omega,st1⟩
 ·rintro k H2 u ⟨m,B,c,st⟩;refine AG.m2 (fun h=>?_) (fun h=>?_)
  ·have d:k<256:=by omega
   refine L_ (cs:=Ad s) AT ((st.blk 0 rfl).cells fun j v A=>by rw[K_];exact A) trivial ?_;(conv=>whnf);rw[w8 (x:=(k:Int)) (by omega) (by omega)];refine Ah (SM s k d H2) fun H3 o=>?_;have e:=st.call o;cases w:s.getLsbD k with
   | true=>
     (conv=>whnf);rw[w8 (x:=(k:Int)) (by omega) (by omega)];(conv=>whnf);have p:((Aj7 256).find? fun b=>decide (n≤b)&&s.getLsbD b)=some k:=by
      rw[List.find?_range_eq_some];refine⟨by simp[m,w],by simpa using d,fun j q=>?_⟩;by_cases a:n≤j
      ·simp[c j a q]
      ·simp[a]
     refine⟨?_,e.old⟩;unfold AE;rw[p];first | done | rfl
   | false=>
     (conv=>whnf);rw[P_ k (by omega)];refine⟨rfl,k+1,by simp,⟨by omega,by omega,fun j t z=>?_,e⟩,by omega⟩;by_cases r:j=k
     ·subst r;exact w
     ·exact c j t (by omega)
  ·obtain rfl:k=256:=by omega
   (conv=>whnf);have p:((Aj7 256).find? fun b=>decide (n≤b)&&s.getLsbD b)=none:=by
    rw[List.find?_range_eq_none];intro j q;by_cases a:n≤j
    ·simp[c j a (by simpa using q)]
    ·simp[a]
   refine⟨?_,st.old⟩;unfold AE;rw[p];first | done | rfl
def DV(all:BitVec 256):List (BitVec 256)→Option (BitVec 256)
 | []=>some all
 | c::cs=>if all &&& c=0#256 then DV (all ||| c) cs else none
theorem Kd(all:BitVec 256)(cs ds:List (BitVec 256)):DV all (cs++ds)=(DV all cs).bind fun x=>DV x ds:=by
 induction cs generalizing all with
 | nil=>rfl
 | cons c cs a=>
   simp only[List.cons_append,DV];split
   ·exact a _
   ·rfl
theorem Mj{all:BitVec 256}{cs:List (BitVec 256)}{x c:BitVec 256}(h:DV all cs=some x):DV all (cs++[c])=if x &&& c=0#256 then some (x ||| c)else none:=by
 rw[Kd,h];rfl
def GV(n m:Nat)(row:List Int):Bool:=row.length==m&&row.all fun q=>decide (0≤q)&&decide (q<(n:Int))
def Bk(cells:List (BitVec 256))(next:List (List Int))(fl:Nat):Bool:=
 match DV 0#256 cells with
 | none=>false
 | some all=>all==AlR 256&&decide (1≤next.length)&&decide (next.length≤65536)&&next.length==fl&&next.all (GV next.length cells.length)
section
variable{α:Type}{l:List α}{k:Nat}
theorem Af{x:α}(h:l[k]?=some x):l.take (k+1)=l.take k++[x]:=by
 rw[List.take_add_one,h];rfl
theorem Ac(h:k<l.length):∃x,l[k]?=some x:=⟨l[k],N' h⟩
end
def EO(next:List (List Int))(c d:Nat):Bool:=c==d|| next.all fun row=>row[c]?==row[d]?
def Ba(cells:List (BitVec 256))(b:Nat):Nat:=cells.findIdx fun c=>c.getLsbD b
structure MS where
 cols:List Nat
 sets:List (BitVec 256)
 cell:List Nat
def Lc(next:List (List Int))(cols:List Nat)(f:Nat):Option Nat:=cols.findIdx? fun c=>EO next c f
def Hg(next:List (List Int))(cols:List Nat)(sets:List (BitVec 256))(f:Nat):List Nat×List (BitVec 256)×Nat:=
 match Lc next cols f with
 | some i=>(cols,sets,i)
 | none=>(cols++[f],sets++[0#256],cols.length)
def Oj(next:List (List Int))(cells:List (BitVec 256))(st:MS)(b:Nat)(s:BitVec 256):MS:=
 let r:=Hg next st.cols st.sets (Ba cells b)
 ⟨r.1,r.2.1.set r.2.2 (r.2.1.getD r.2.2 0#256 ||| s),st.cell++[r.2.2]⟩
def Bj(next:List (List Int))(cells:List (BitVec 256))(sp:Nat→BitVec 256):Nat→MS
 | 0=>⟨[],[],[]⟩
 | b+1=>Oj next cells (Bj next cells sp b) b (sp b)
theorem IY{all:BitVec 256}{cs:List (BitVec 256)}{x:BitVec 256}(h:DV all cs=some x)(b:Nat):x.getLsbD b=(all.getLsbD b|| cs.any fun c=>c.getLsbD b):=by
 induction cs generalizing all with
 | nil=>simp only[DV,Option.some.injEq]at h;subst h;simp
 | cons c cs a=>
   simp only[DV]at h;split at h
   ·rw[a h,Yaq,List.any_cons,Bool.or_assoc]
   ·cases h
section
variable{cells:List (BitVec 256)}
theorem BK{next:List (List Int)}{g:Nat}(h:Bk cells next g=true){b:Nat}(i:b<256):Ba cells b<cells.length∧∀c,cells[Ba cells b]?=some c→c.getLsbD b=true:=by
 unfold Bk at h;split at h
 ·cases h
 ·rename_i j a;simp only[r_,beq_iff_eq]at h;have d:=IY a b;rw[h.1.1.1.1,Yar]at d;simp only[i,decide_true,BitVec.getLsbD_zero,Bool.false_or]at d;have e:Ba cells b<cells.length:=List.findIdx_lt_length.2 (by simpa using(Ybk.1 d.symm));refine⟨e,fun c f=>?_⟩;have:=List.findIdx_getElem (w:=e);rw[N' e]at f;cases f;exact this
theorem Pe{b k:Nat}{c:BitVec 256}(e:k<Ba cells b)(a:cells[k]?=some c):c.getLsbD b=false:=by
 have:=List.not_of_lt_findIdx e;have d:=(O_.1 a).1;rw[N' d]at a;cases a;simpa using this
theorem E1{next:List (List Int)}{a:Nat}(h:Bk cells next a=true):1≤next.length∧next.length≤65536∧next.length=a∧∀row∈next,row.length=cells.length∧∀q∈row,0≤q∧q<(next.length:Int):=by
 unfold Bk at h;split at h
 ·cases h
 ·simp only[r_,beq_iff_eq,Zzj,Ybl,GV]at h;exact⟨h.1.1.1.2,h.1.1.2,h.1.2,fun row b=>⟨(h.2 row b).1,fun q c=>(h.2 row b).2 q c⟩⟩
end
structure MOk(m b:Nat)(st:MS):Prop where
 len:st.cols.length=st.sets.length
 le:st.cols.length≤b
 cell:st.cell.length=b
 cols:∀c∈st.cols,c<m
 places:∀p∈st.cell,p<st.cols.length
theorem Rv{next:List (List Int)}{a:List Nat}{sets:List (BitVec 256)}{f m b:Nat}(e:a.length=sets.length)(g:a.length≤b)(j:∀c∈a,c<m)(n:f<m):
  (Hg next a sets f).1.length=(Hg next a sets f).2.1.length∧(Hg next a sets f).1.length≤b+1∧(∀c∈(Hg next a sets f).1,c<m)∧(Hg next a sets f).2.2<(Hg next a sets f).1.length∧a.length≤(Hg next a sets f).1.length:=by
 unfold Hg;split
 ·rename_i i k;have d:i<a.length:=by
   have:=List.findIdx?_eq_some_iff_findIdx_eq.1 k;exact this.1
  exact⟨e,Nat.le_succ_of_le g,j,d,I_ _⟩
 ·refine⟨by simp[e],by simpa using g,?_,by simp,by simp⟩;intro c l;rcases q_.1 l with h | h
  ·exact j c h
  ·rw[Y_]at h;omega
theorem FS{next:List (List Int)}{cells:List (BitVec 256)}{sp:Nat→BitVec 256}(e:∀b,b<256→Ba cells b<cells.length):∀b,b≤256→MOk cells.length b (Bj next cells sp b)
 | 0,_=>⟨rfl,I_ _,rfl,(fun c h=>by cases h),(fun p h=>by cases h)⟩
 | b+1,hb=>by
   have a:=FS (next:=next) (sp:=sp) e b (by omega);have h:=Rv (next:=next) a.len a.le a.cols (e b (by omega));unfold Bj Oj;refine⟨?_,h.2.1,?_,h.2.2.1,?_⟩
   ·simp only[YaH];exact h.1
   ·simp[a.cell]
   ·intro p d;simp only[q_,Y_]at d;rcases d with d | rfl
    ·exact Ybu (a.places p d) h.2.2.2.2
    ·exact h.2.2.2.1
end Go.Proofs.YtfbghcpdinlmcaaGreatDoor
namespace Go.VC
structure MapT(P:w_)(t kt et:x_)(d:TypeDesc)(z:v_):Prop where
 under:P.underlying t=some (.map kt et)
 key:P.underlying kt=some d
 zero:(P.info? et).bind (·.zero)=some z
structure AfU(d:TypeDesc){α:Type}(enc:α→v_):Prop where
 isKey:∀a,Go.MapKept.IsKey d (enc a)
 inj:∀a b,enc a=enc b→a=b
theorem keyS:AfU .string Value.string:=⟨fun _=>trivial,fun a b h=>by cases h;rfl⟩
theorem keyI(k:IntKind):AfU (.int k) (Value.int k):=⟨fun _=>rfl,fun a b h=>by cases h;rfl⟩
def RX{α:Type}(enc:α→v_)(H:Aa)(b:Nat)(m:α→Option v_):Prop:=
 ∃es clock,H[b]?=some (.map es clock)∧Go.MapKept.Stamped es clock∧(∀(i:Nat) (x:MapEntry),es[i]?=some x→∃a,x.key=enc a∧m a=some x.val)∧
  ∀a v,m a=some v→∃(i:Nat) (x:MapEntry),es[i]?=some x∧x.key=enc a∧x.val=v
theorem RX.agr{α:Type}{enc:α→v_}{H H':Aa}{b:Nat}{m:α→Option v_}{S:Nat→Prop}(h:RX enc H b m)(k:C_ S H H')(c:S b):RX enc H' b m:=by
 have⟨d,a,e,f⟩:=h;exact⟨d,a,(k b c).trans e,f⟩
def Y2{α:Type}(enc:α→v_)(H:Aa)(b:Nat)(a:α)(s:Nat):Prop:=
 ∃es clock,H[b]?=some (.map es clock)∧∀(i:Nat) (x:MapEntry),es[i]?=some x→(x.born=s↔x.key=enc a)
open Classical in
noncomputable def put{α:Type}(m:α→Option v_)(a:α)(v:Option v_):α→Option v_:=fun b=>if b=a then v else m b
theorem Jp{α:Type}(m:α→Option v_)(a:α)(v:Option v_):put m a v a=v:=F_ rfl
theorem LQ{α:Type}{m:α→Option v_}{a b:α}{v:Option v_}(h:b≠a):put m a v b=m b:=D_ h
section
variable{α:Type}{enc:α→v_}{P:w_}{t kt et:x_}{d:TypeDesc}{z:v_}{S:Nat→Prop}{H:Aa}{b:Nat}{m:α→Option v_}{a:α}
section
variable{es:Array MapEntry}{a:Nat}
theorem E2(h:Go.MapKept.Stamped es a){i j:Nat}{x y:MapEntry}(d:es[i]?=some x)(f:es[j]?=some y)(e:x.key=y.key):i=j:=by
 have g:=h.2.2;have b:(es.toList.map (·.key))[i]?=some x.key:=by simp[d]
 have c:(es.toList.map (·.key))[j]?=some x.key:=by simp[f,e]
 exact(Ybi (O_.1 b).1 g).1 (b.trans c.symm)
theorem Lq(h:Go.MapKept.Stamped es a){i j:Nat}{x y:MapEntry}(d:es[i]?=some x)(f:es[j]?=some y)(e:x.born=y.born):i=j:=by
 have g:=h.2.1;have b:(es.toList.map (·.born))[i]?=some x.born:=by simp[d]
 have c:(es.toList.map (·.born))[j]?=some x.born:=by simp[f,e]
 exact(Ybi (O_.1 b).1 g).1 (b.trans c.symm)
end
theorem TU(a:(P.info? et).bind (·.zero)=some z)(w:y_):(zeroValue et).run P w= .ok z w:=by
 cases b:P.info? et with
 | none=>rw[b]at a;cases a
 | some i=>
   have c:i.zero=some z:=by simpa [b]using a
   simp[zeroValue,typeInfo,b,c]
abbrev AaM(w:y_)(b:Nat)(o:Obj):y_:={w with heap:=w.heap.setIfInBounds b o}
theorem T9{w:y_}{o o':Obj}(h:w.heap[b]?=some o):(AaM w b o').heap[b]?=some o'∧C_ (fun k=>k≠b) w.heap (AaM w b o').heap∧(AaM w b o').heap.size=w.heap.size:=
 ⟨(Go.MapKept.heap_set h).1,fun k a=>(Go.MapKept.heap_set h).2 k a,by simp⟩
theorem Aa9{es:Array MapEntry}{c:Nat}(hs:Go.MapKept.Stamped es c)(q:∀(i:Nat) (x:MapEntry),es[i]?=some x→∃a,x.key=enc a∧m a=some x.val)(r:∀a v,m a=some v→∃(i:Nat) (x:MapEntry),es[i]?=some x∧x.key=enc a∧x.val=v)(g:∀x∈es.toList,x.key≠enc a){H':Aa}{v:v_}
  (n:H'[b]?=some (.map (es.push ⟨enc a,v,c⟩) (c+1))):RX enc H' b (put m a (some v))∧Y2 enc H' b a c:=by
 have j:∀i x,(es.push ⟨enc a,v,c⟩)[i]?=some x→(i<es.size∧es[i]?=some x)∨(i=es.size∧x=⟨enc a,v,c⟩):=by
  intro i x d;rw[Yaf]at d;by_cases l:i=es.size
  ·rw[F_ l]at d;exact .inr ⟨l,by cases d;rfl⟩
  ·rw[D_ l]at d;exact .inl ⟨(Yaa.1 d).1,d⟩
 refine⟨⟨_,_,n,Go.MapKept.stamped_push hs g,fun i x d=>?_,fun a' s k=>?_⟩,_,_,n,fun i x d=>?_⟩
 ·rcases j i x d with⟨_,d⟩ | ⟨_,rfl⟩
  ·have⟨a',o,e2⟩:=q i x d;have:a'≠a:=fun h=>g x (c_ (by simpa using d)) (by rw[o,h]);exact⟨a',o,by rw[LQ this];exact e2⟩
  ·exact⟨a,rfl,Jp _ _ _⟩
 ·by_cases p:a'=a
  ·subst p;rw[Jp]at k;cases k;exact⟨es.size,⟨enc a',v,c⟩,by simp,rfl,rfl⟩
  ·rw[LQ p]at k;have⟨i,x,d,e⟩:=r a' s k;exact⟨i,x,by rw[Yaf,D_ (by have:=(Yaa.1 d).1;omega)];exact d,e⟩
 ·rcases j i x d with⟨_,d⟩ | ⟨_,rfl⟩
  ·have f:x∈es.toList:=c_ (by simpa using d);have:=hs.1 x f;exact⟨fun h=>by omega,fun h=>absurd h (g x f)⟩
  ·simp
theorem AiX{K:v_→Aa→Prop}(k:∀b H',b=H.size→H'.size=b+1→RX enc H' b (fun _=>none)→C_ (fun k=>k<b) H H'→K (.map (some b)) H'):BH P (Instr.makeMap t none) H K:=by
 refine BH.mk fun w a=>?_;subst a;exact⟨_,w.alloc (.map #[] 0),by simp[Instr.makeMap],⟨rfl,rfl,rfl⟩,k w.heap.size _ rfl (by rw[Gh];simp) ⟨#[],0,by rw[Gh];simp,Go.MapKept.stamped_empty 0,by simp,by simp⟩ (Ec _ _)⟩
end
section
variable{α:Type}{enc:α→v_}{b:Nat}{m m':α→Option v_}{B:Nat→Prop}{H0 H H':Aa}{ps:List Pc}
end
def AeC{α:Type}(m:α→Option v_)(a:α):v_:=(m a).getD (.slice none 0 0)
structure Qs{α β:Type}(enc:α→v_)(T:Ty β)(H:Aa)(lo:Nat)(e:x_)(mb:Nat)(m:α→Option v_)(xs:α→List β):Prop where
 map:RX enc H mb m
 lt:mb<lo
 own:∀k,l_ T (fun _=>False) H lo e (AeC m k) (xs k)
 apart:∀k k' b,k≠k'→a_ (AeC m k) b→¬a_ (AeC m k') b
section
variable{α β:Type}{enc:α→v_}{T:Ty β}{H H1 H2:Aa}{lo mb:Nat}{e:x_}{m:α→Option v_}{xs:α→List β}{S':Nat→Prop}
end
theorem Ab2{a b:ByteArray}(h:a.data.toList=b.data.toList):a=b:=by
 cases a;cases b;simp_all [Array.toList_inj]
def SlQ{α:Type}(T:Ty α)(S:Nat→Prop)(H:Aa)(e:x_)(v:v_)(xs:List α):Prop:=
 ∃cs,cs.length=xs.length*T.size∧T.reps S H cs xs∧((v= .slice none 0 0∧xs=[])∨
  ∃b o cap l,v= .slice (some ⟨b,o,none⟩) xs.length cap∧Q_ H b e l∧xs.length≤cap∧cap≤maxLen∧o+cap*T.size≤l.length∧∀j u,cs[j]?=some u→l[o+j]?=some u)
section
variable{α:Type}{T:Ty α}{S S':Nat→Prop}{H H':Aa}{e:x_}{v:v_}{xs:List α}
theorem SlQ.agr(h:SlQ T S H e v xs)(k:C_ S' H H')(c:∀b,a_ v b→S' b)(hs:∀b,S b→S' b):SlQ T S H' e v xs:=by
 have⟨d,f,g,a⟩:=h;refine⟨d,f,Ty.reps_frame (k.mono hs) g,?_⟩;rcases a with a | ⟨b,o,cap,l,rfl,i,r⟩
 ·exact .inl a
 ·exact .inr ⟨b,o,cap,l,rfl,i.agr k (c b ⟨_,_,_,rfl⟩),r⟩
theorem SlQ.hull(h:SlQ T S H e v xs):∃a cap,v= .slice a xs.length cap:=by
 obtain⟨c,d,f,⟨rfl,rfl⟩ | ⟨b,o,cap,l,rfl,r⟩⟩:=h
 ·exact⟨_,_,rfl⟩
 ·exact⟨_,_,rfl⟩
theorem SlQ.lt(h:SlQ T S H e v xs){b:Nat}(d:a_ v b):b<H.size:=by
 obtain⟨f,n',g,rfl⟩:=d;obtain⟨i,j,k,⟨a,c⟩ | ⟨b',o,cap,l,a,c,r⟩⟩:=h
 ·cases a
 ·injection a with a
  injection a with a
  injection a with a
  subst a;exact c.lt
theorem SlQ.ofO{lo:Nat}(h:l_ T S H lo e v xs):SlQ T S H e v xs:=by
 obtain⟨d,⟨f,c⟩,g⟩:=h;refine⟨d,f,g,?_⟩;rcases c with⟨rfl,c⟩ | ⟨b,cap,l,rfl,o,i,k,m,p,n⟩
 ·exact .inl ⟨rfl,Ya8 c⟩
 ·refine .inr ⟨b,0,cap,l,rfl,i,k,m,by omega,fun j u a=>?_⟩;rw[←n,YaK]at a;split at a
  ·rw[K_];exact a
  ·cases a
theorem SlQ.view{n cap:Nat}{a:Option Addr}(h:SlQ T S H e (.slice a n cap) xs)(g:∀b,a_ (.slice a n cap) b→S' b)(hs:∀b,S b→S' b):n=xs.length∧g_ T S' H a cap xs:=by
 obtain⟨p,q,i,⟨c,d⟩ | ⟨b,o,f,l,c,d,j,k,r,m⟩⟩:=h
 ·injection c with e1 e2 e3
  subst e1;subst e2;subst e3;subst d;exact⟨rfl,rfl,rfl⟩
 ·injection c with e1 e2 e3
  subst e1;subst e2;subst e3;exact⟨rfl,g_.intro (g b ⟨_,_,_,rfl⟩) j k (d.cells m) (Ty.reps_mono hs i)⟩
theorem Ab9{P:w_}{t ty by_:Nat}{z:v_}{K:v_→Aa→Prop}(J:SlT P t e T.size by_ z){q o m cap:Nat}{ys:List α}{ds:List v_}
  (hs:SlQ T S H e v xs) (hS:∀k,S k→k<H.size∧¬a_ v k) (hd:Be H q o ds) (R:T.reps S H ds ys) (U:m=ys.length) (h1:∀u∈ds,u.oneCell'=true)
  (M:xs.length+ys.length≤maxLen) (hby:(xs.length+ys.length)*by_≤140737488355328)
  (h:∀L H',SlQ T S H' e L (xs++ys)→C_ (fun k=>k<H.size∧¬a_ v k) H H'→H.size≤H'.size→(∀k,a_ L k→a_ v k∨H.size≤k)→K L H'):
  BH P (Builtin.append_ #[t,t] ty [v,.slice (some ⟨q,o,none⟩) m cap].toArray) H K:=by
 subst U;refine BH.mk fun w hw=>?_;subst hw;have⟨f,V,y,W,hz⟩:=J.info;have i:Src P f.size t (.slice (some ⟨q,o,none⟩) ys.length cap) ys.length ds w:=by
  rw[y];refine Src.ofSlice w J.under ⟨q,o,none⟩ ys.length cap ds (Ty.reps_len R) (fun j u D=>?_) h1;rw[Addr.add_mid,EP];exact hd j u D
 have G:ds.length=ys.length*T.size:=Ty.reps_len R;have⟨d,I,hr,X⟩:=hs;have a7:xs.length+ys.length≤9223372036854775807:=by simp only[maxLen]at M;omega
 have A:(d++ds).length=(xs++ys).length*T.size:=by rw[J_,J_,I,G,Yb4]
 have reps:∀{H':Aa},C_ (fun k=>k<w.heap.size∧¬a_ v k) w.heap H'→T.reps S H' (d++ds) (xs++ys):=fun k=>Ty.reps_append (Ty.reps_frame (k.mono hS) hr) (Ty.reps_frame (k.mono hS) R);have E:∀(n:Option Addr) (a:Nat),v= .slice n xs.length a→a<xs.length+ys.length→(Builtin.firstCells f.size xs.length (.slice n xs.length a)).run P w.drew= .ok d.toArray w.drew→
   ∃L Y,(Builtin.append_ #[t,t] ty [v,.slice (some ⟨q,o,none⟩) ys.length cap].toArray).run P w= .ok L Y∧d_ w Y∧K L Y.heap:=by
  intro n a Z N hold;subst Z;have B:=run_append_grow_src (P:=P) w t t ty e f z J.under V hz n xs.length a d hold _ ys.length ds i N (by omega) (growslice_fits (by omega) (by rw[W];exact hby));refine⟨_,_,B,⟨rfl,rfl,rfl⟩,?_⟩;have a0:=grownCap_ge w (xs.length+ys.length) a e;have a1:=grownCap_le_maxLen w (xs.length+ys.length) a e M;have p:C_ (fun k=>k<w.heap.size∧¬a_ (.slice n xs.length a) k) w.heap (w.drew.alloc (.cells ((d++ds).toArray++Builtin.zeroCells z.cells (grownCap w (xs.length+ys.length) a e-(xs.length+ys.length))) e)).heap:=fun k x=>Ec w.heap _ k x.1;have O:Q_ (w.drew.alloc (.cells ((d++ds).toArray++Builtin.zeroCells z.cells (grownCap w (xs.length+ys.length) a e-(xs.length+ys.length))) e)).heap w.heap.size e
    ((d++ds)++(Builtin.zeroCells z.cells (grownCap w (xs.length+ys.length) a e-(xs.length+ys.length))).toList):=by
   unfold Q_;have:(w.drew.alloc (.cells ((d++ds).toArray++Builtin.zeroCells z.cells (grownCap w (xs.length+ys.length) a e-(xs.length+ys.length))) e)).heap=w.heap.push (.cells ((d++ds).toArray++Builtin.zeroCells z.cells (grownCap w (xs.length+ys.length) a e-(xs.length+ys.length))) e):=rfl;rw[this];simp
  refine h _ _ ⟨d++ds,A,reps p,.inr ⟨w.heap.size,0,_,_,by rw[J_],O,by rw[J_];exact a0,a1,?_,?_⟩⟩ p ?_ ?_
  ·have e2:(d++ds).length=(xs.length+ys.length)*T.size:=by rw[A,J_]
   have e3:∀g:Nat,(Builtin.zeroCells z.cells g).toList.length=g*T.size:=fun g=>by rw[Yab,size_zeroCells,J.zsz]
   rw[@J_ _ (d++ds) _,e2,e3,←Yb4,K_];exact Ybw _ (by omega)
  ·intro j u D;rw[K_,YaG (O_.1 D).1];exact D
  ·show w.heap.size≤(w.heap.push _).size;simp
  ·rintro k ⟨o,n',c,x⟩;cases x;exact .inr (I_ _)
 rcases X with⟨rfl,rfl⟩ | ⟨b,s,a,l,rfl,Q,a9,a2,a3,F⟩
 ·have a4:d=[]:=Ya8 (by simpa using I);subst a4;by_cases U:ys.length=0
  ·obtain rfl:ys=[]:=Ya8 U;have hn:ds=[]:=Ya8 (by simpa using G);subst hn;refine⟨.slice none 0 0,w,?_,d_.refl w,h _ _ ⟨[],by simp,rfl,.inl ⟨rfl,rfl⟩⟩ (C_.refl _ _) (I_ _) (fun k x=>.inl x)⟩;have k1:=i.len;have k2:=i.cells;simp only[List.length_nil]at k1 k2;rcases i.kind with⟨e',x⟩ | x<;>simp[Builtin.append_,run_underlying J.under,run_underlying x,sizeOf,typeInfo,V,k1,k2]
  ·exact E none 0 rfl (by simp;omega) (by simp[Builtin.firstCells])
 ·by_cases r:xs.length+ys.length≤a
  ·have a8:xs.length*T.size+ds.length≤a*T.size:=by rw[G,←Yb4];exact Ybw _ r
   have B:=run_append_room_src (P:=P) w t t ty e f J.under V b s xs.length a _ ys.length ds i r
    (fun j hj=>by rw[EP,Q.cell,y];simp;omega) (fun j hj=>Gk Q)
   have C:s+xs.length*f.size+ds.length≤l.length:=by rw[y];omega
   have⟨a5,h2,h3,h4⟩:=FX ds (s+xs.length*f.size) l w Q C;have p:C_ (fun k=>k<w.heap.size∧¬a_ (.slice (some ⟨b,s,none⟩) xs.length a) k) w.heap (w.setCells b (s+xs.length*f.size) ds).heap:=h2.mono fun k x a6=>by subst a6;exact x.2 ⟨s,_,a,rfl⟩
   refine⟨_,_,B,h4,h _ _ ⟨d++ds,A,reps p,.inr ⟨b,s,a,_,by rw[J_],a5,by rw[J_];exact r,a2,?_,?_⟩⟩ p (by omega) ?_⟩
   ·rw[Eh C];exact a3
   ·intro j u D;rw[Ds C,y];by_cases hj:j<d.length
    ·rw[YaG hj]at D;rw[D_ (by omega)];exact F j u D
    ·rw[YaE (by omega)]at D;have:=(O_.1 D).1;rw[F_ (by omega),show s+j-(s+xs.length*T.size)=j-d.length by omega];exact D
   ·rintro k ⟨o,n',c,x⟩;cases x;exact .inl ⟨s,xs.length,a,rfl⟩
  ·refine E (some ⟨b,s,none⟩) a rfl (by omega) ?_;have hc:Be w.heap b s d:=Q.cells F;have:=run_firstCells_some (P:=P) w.drew f.size xs.length ⟨b,s,none⟩ xs.length a d (by rw[y];exact I) (fun j v Z=>by
    rw[Addr.add_mid];exact RE (w:=w.drew) (H:=w.heap) hc rfl j v Z)
   exact this
theorem AjF{P:w_}{t by_:Nat}{z:v_}{F:IntKind}{S0:Nat→Prop}{a:Option Addr}{n cap:Nat}{x:α}{H2:Aa}{K:v_→Prop}(p:SlT P t e T.size by_ z)(h:SlQ T S H e (.slice a n cap) (x::xs))
  (k:∀a' f,SlQ T S H e (.slice a' xs.length f) xs→(∀b,a_ (.slice a' xs.length f) b→a_ (.slice a n cap) b)→K (.slice a' xs.length f)):AJ P (Instr.sliceAt t (.slice a n cap) (some (.int F 1)) none none) S0 H2 K:=by
 obtain⟨G,y,hs,_,_⟩:=p.info;obtain⟨O,A,I,⟨B,m⟩ | ⟨b,o,f,l,B,m,J,Q,R,L⟩⟩:=h
 ·cases m
 ·injection B with e1 e2 e3
  subst e1;subst e2;subst e3;simp only[b_]at J A;obtain⟨c,r,rfl,M,C⟩:=I;have q:=T.len M;have g:K (.slice (if cap=1 then some ⟨b,o,none⟩else some ⟨b,o+T.size,none⟩) xs.length (cap-1)):=by
   refine k _ _ ⟨r,by rw[J_,Yb4]at A;omega,C,.inr ?_⟩ ?_
   ·have U:cap*T.size=(cap-1)*T.size+T.size:=by rw[←Yb3];congr 1;omega
    by_cases d:cap=1
    ·rw[F_ d];have N:xs=[]:=Ya8 (by omega);subst N;have s:r=[]:=by simpa [Ty.reps]using C
     subst s;exact⟨b,o,cap-1,l,rfl,m,by simp,by omega,by subst d;simp;omega,fun j u v=>by simp at v⟩
    ·rw[D_ d];refine⟨b,o+T.size,cap-1,l,rfl,m,by omega,by omega,by omega,fun j u v=>?_⟩;have:=L (c.length+j) u (by rw[YaE (by omega),Nat.add_sub_cancel_left];exact v);rw[q,←YbN]at this;exact this
   ·rintro k ⟨V,n',W,g⟩;by_cases d:cap=1
    ·rw[F_ d]at g;cases g;exact⟨_,_,_,rfl⟩
    ·rw[D_ d]at g;cases g;exact⟨_,_,_,rfl⟩
  refine AJ.mk _ (fun w _=>?_) g;have D:(⟨b,o,none⟩:Addr).add (1*T.size)=⟨b,o+T.size,none⟩:=by rw[YbG];exact Addr.add_mid _ _ _
  have E:¬((xs.length:Int)+1<1):=by omega
  have i:(1:Int)≤(xs.length:Int)+1:=by omega
  by_cases d:cap=1
  ·subst d;simp[Instr.sliceAt,Instr.slice,run_underlying p.under,Instr.sliceBounds,Instr.sliceBound,asIntOf,sizeOf,typeInfo,y,hs,E,i]
  ·simp[Instr.sliceAt,Instr.slice,run_underlying p.under,Instr.sliceBounds,Instr.sliceBound,asIntOf,sizeOf,typeInfo,y,hs,d,E,i];simp[YbG]at D;exact D
end
section
variable{α:Type}{T:Ty α}{e:x_}{a:Option Addr}{n cap:Nat}{xs:List α}{B:Nat→Prop}{H0 H H':Aa}{ps:List Pc}
def pQ(T:Ty α)(e:x_)(a:Option Addr)(n cap:Nat)(xs:List α):Pc:=⟨fun k=>a_ (.slice a n cap) k,fun H=>SlQ T none_ H e (.slice a n cap) xs,fun h hp=>hp.agr h (fun _ hb=>hb) (fun _ f=>f.elim)⟩
theorem B_.qview(st:B_ B H0 H ps)(i:Nat)(c:ps[i]?=some (pQ T e a n cap xs)):n=xs.length∧g_ T (H_ H) H a cap xs:=
 SlQ.view (st.at_ i c) (fun b d=>(st.in_ i c d).2) (fun _ f=>f.elim)
theorem B_.toQ(st:B_ B H0 H ps)(i:Nat)(b:ps[i]?=some (pS T e a n cap xs)):B_ B H0 H (ps.set i (pQ T e a n cap xs)):=
 st.say i b _ (SlQ.ofO (st.at_ i b).1) fun k c=>.inl c
theorem appQ{P:w_}{t ty q o m g by_:Nat}{z:v_}{ys:List α}{ds:List v_}{K:v_→Aa→Prop}(st:B_ B H0 H ps)(i:Nat)(r:SlT P t e T.size by_ z)(p:ps[i]?=some (pQ T e a n cap xs))
  (s:Be H q o ds) (v:T.reps none_ H ds ys) (w:m=ys.length) (x:∀u∈ds,u.oneCell'=true) (j:xs.length+ys.length≤maxLen) (hby:(xs.length+ys.length)*by_≤140737488355328)
  (k:∀a' b H',B_ B H0 H' (ps.set i (pQ T e a' (xs.length+ys.length) b (xs++ys)))→C_ (fun k=>k<H.size∧¬a_ (.slice a n cap) k) H H'→K (.slice a' (xs.length+ys.length) b) H'):
  BH P (Builtin.append_ #[t,t] ty [.slice a n cap,.slice (some ⟨q,o,none⟩) m g].toArray) H K:=by
 refine Ab9 (T:=T) (S:=none_) r (st.at_ i p) (fun k d=>d.elim) s v w x j hby ?_;intro A H' c f l h;obtain⟨a',b,rfl⟩:=c.hull;rw[J_]at c h ⊢;exact k a' b H' (st.upd i p (f.mono fun k d=>⟨d.1,fun y=>d.2 y⟩) _ c (fun k d=>h k d) (fun k d=>c.lt d) l) f
theorem cutQ{P:w_}{t by_:Nat}{z:v_}{d:IntKind}{S0:Nat→Prop}{x:α}{H2:Aa}{K:v_→Prop}(st:B_ B H0 H ps)(i:Nat)(f:SlT P t e T.size by_ z)(c:ps[i]?=some (pQ T e a n cap (x::xs)))
  (k:∀a' b,B_ B H0 H (ps.set i (pQ T e a' xs.length b xs))→K (.slice a' xs.length b)):AJ P (Instr.sliceAt t (.slice a n cap) (some (.int d 1)) none none) S0 H2 K:=
 AjF (T:=T) f (st.at_ i c) fun a' b g h=>k a' b (st.say i c _ g h)
end
theorem AbA{P:w_}{s d e b o n cap:Nat}{H:Aa}{K:v_→Aa→Prop}(bs:List Nat)(hs:P.underlying s=some (.slice e))(c:P.underlying e=some (.int .u8))(f:P.underlying d=some .string)
  (g:∀(j x:Nat),bs[j]?=some x→cell H b (o+j)=some (.int .u8 (x:Int))) (h:n=bs.length) (k:K (.string ⟨(bs.map UInt8.ofNat).toArray⟩) H):BH P (convert s d (.slice (some ⟨b,o,none⟩) n cap)) H K:=by
 subst h;refine BH.mk fun w l=>?_;subst l;have:=run_convert_bytes_arg (P:=P) w s e hs c b o bs.length cap (bs.map fun(n:Nat)=>(n:Int)) (by simp) (fun i a=>by
  rw[EP,g i bs[i] (N' a)];simp[List.getD,a]) d f
 have m:strOfNums (bs.map fun(n:Nat)=>(n:Int))=⟨(bs.map UInt8.ofNat).toArray⟩:=by
  unfold strOfNums;rw[List.map_map]
  congr 2
 rw[m]at this;exact⟨_,w,this,d_.refl w,k⟩
theorem AfO{P:w_}{s d e n cap:Nat}{H:Aa}{K:v_→Aa→Prop}(hs:P.underlying s=some (.slice e))(a:P.underlying e=some (.int .u8))(b:P.underlying d=some .string)
  (k:K (.string ⟨#[]⟩) H):BH P (convert s d (.slice none n cap)) H K:=by
 refine BH.mk fun w c=>?_;subst c;exact⟨_,w,run_convert_bytes_nil (P:=P) w s e hs a n cap d b,d_.refl w,k⟩
def KA(ops:Array Oper):Nat→Nat→Nat→Bool
 | 0,_,_=>false
 | f+1,j,i=>match ops[j]? with
   | none=>false
   | some o=>o.after.toList.any fun e=>Region.binds .any e&&(AlA e.on i|| KA ops f e.on i)
def IM(ops:Array Oper)(listed:Array Bool):Prop:=
 ∀(j:Nat) (o:Oper),ops[j]?=some o→listed.getD j false=true→∀e∈o.after,Region.binds .any e=true→listed.getD e.on false=true
section
variable{b:Array Oper}{a:Array Bool}
theorem IM.chain(h:IM b a){i:Nat}:∀(f j:Nat),KA b f j i=true→(∀(o:Oper),b[j]?=some o→∀e∈o.after,Region.binds .any e=true→a.getD e.on false=true)→a.getD i false=true
 | 0,_,hn,_=>by simp[KA]at hn
 | f+1,j,hn,hd=>by
   unfold KA at hn;split at hn
   ·cases hn
   ·rename_i o n;have⟨e,p,c⟩:=Ybk.1 hn;simp only[r_,Yay]at c;have m:=hd o n e (by simpa using p) c.1;rcases c.2 with d | d
    ·rw[←Yb9 d];exact m
    ·exact h.chain f e.on d fun q g r k l=>h e.on q g m r k l
theorem IM.not_ready(h:IM b a){i j f:Nat}(g:KA b f j i=true)(k:a.getD i false=false):j∉Region.ready .any b a:=by
 intro l;obtain⟨_,o,m,c⟩:=mem_ready.1 l;have:=h.chain f j g fun q d e n p=>by rw[m]at d;cases d;exact c e n p
 rw[k]at this;cases this
end
theorem Z6{l:Array Bool}{i k:Nat}(h:(l.setIfInBounds i true).getD k false=true):k=i∨l.getD k false=true:=by
 by_cases a:k=i
 ·exact .inl a
 ·rw[getD_set_ne false (Ne.symm a)]at h;exact .inr h
theorem IM.put{b:Array Oper}{a:Array Bool}(h:IM b a){j:Nat}(m:j∈Region.ready .any b a):IM b (a.setIfInBounds j true):=by
 intro k o g f e i l;rcases Z6 f with rfl | f
 ·obtain⟨_,n,c,d⟩:=mem_ready.1 m;rw[g]at c;cases c;exact getD_set_true (d e i l)
 ·exact getD_set_true (h k o g f e i l)
def JG(P:w_)(ops:Array Oper)(Q:Exit→Act→y_→Prop)(S:y_→Prop)(Z:List Nat):Nat→Array Bool→Act→y_→Prop
 | 0,listed,a,w=>Region.ready .any ops listed=[]∧Q .normal a w
 | fuel+1,listed,a,w=>
   (Region.ready .any ops listed=[]→Q .normal a w)∧
   ∀i∈Region.ready .any ops listed,wpOp P ops Q i (fun a' w'=>(Z.contains i=false→S w')∧JG P ops Q S Z fuel (listed.setIfInBounds i true) a' w') a w
theorem GF{P:w_}{d:Array Oper}{Q:Exit→Act→y_→Prop}{S:y_→Prop}{Z:List Nat}:∀(b:Nat) (c:Array Bool) (a:Act) (w:y_),
  JG P d Q S Z b c a w→wpAny P .any d Q b c a w
 | 0,_,_,_,h=>h
 | b+1,_,_,_,h=>⟨h.1,fun i e=>wpOp_mono (fun a' f g=>GF b _ a' f g.2) (h.2 i e)⟩
theorem DK{P:w_}{g:Array Oper}{Q:Exit→Act→y_→Prop}{S:y_→Prop}{Z:List Nat}{i f:Nat}{t:Oper}{v:v_}(L:g[i]?=some t)
  (r:∀(j:Nat) (o:Oper) A b,g[j]?=some o→o.op≠ .select A b)
  (U:∀c a w,Q (.panic c) (a.put t.dst v) w→Q (.panic c) a w) (V:Z.contains i=false) (W:∀j,Z.contains j=true→KA g f j i=true):
  ∀(l:Nat) (d:Array Bool) (a:Act) (w:y_),IM g d→
   (∀j u,g[j]?=some u→j≠i→d.getD j true=false→(∀e∈u.after,Region.binds .any e=true→e.on≠i)→t.apart g u=true)→
   i∈Region.ready .any g d→YieldsIf P g S t v a→S w→
   JG P g Q S Z l (d.setIfInBounds i true) (a.put t.dst v) w→JG P g Q S Z (l+1) d a w:=by
 intro l
 induction l with
 | zero=>
   intro d a w _ _ x I B H;refine⟨fun h=>(by rw[h]at x;cases x),fun j z=>?_⟩;by_cases m:j=i
   ·subst m;exact I.wpOp L B ⟨fun _=>B,H⟩
   ·have:=ready_mono z m;rw[H.1]at this;cases this
 | succ l X=>
   intro d a w C n x I B H;refine⟨fun h=>(by rw[h]at x;cases x),fun j z=>?_⟩;by_cases m:j=i
   ·subst m;exact I.wpOp L B ⟨fun _=>B,H⟩
   ·have J:=H.2 j (ready_mono z m);have⟨s,u,y,D⟩:=mem_ready.1 z;have p:d.getD i false=false:=by
     have M:=(mem_ready.1 x).1;rcases YbC i d.size with N | N
     ·simp[N]at M ⊢;exact M
     ·simp[Yah N]at M
    have E:∀e∈u.after,Region.binds .any e=true→e.on≠i:=fun e Y hb O=>by
     have J:=D e Y hb;rw[O,p]at J;cases J
    have F:Z.contains j=false:=by
     cases hc:Z.contains j with
     | false=>rfl
     | true=>exact absurd z (C.not_ready (W j hc) p)
    have h2:=wpOp_putIf y (n j u y m s E) (fun A b=>r i t A b L) (fun A b=>r j u A b y) U I J;have q:∀k ok,g[k]?=some ok→k≠i→(d.setIfInBounds j true).getD k true=false→
      (∀e∈ok.after,Region.binds .any e=true→e.on≠i)→t.apart g ok=true:=fun k ok hk R p T=>by
     refine n k ok hk R ?_ T;by_cases G:j=k
     ·subst G;exact s
     ·rw[getD_set_ne true G]at p;exact p
    refine wpOp_mono (fun a' w' K=>⟨fun _=>K.2.1 F,X (d.setIfInBounds j true) a' w' (C.put z) q (ready_mono x (Ne.symm m)) K.1 (K.2.1 F) ?_⟩) h2;rw[Yaj _ _ m];exact K.2.2
def TK(P:w_)(S:Nat→Prop)(Z:List Nat)(H0:Aa)(all:List Oper)(i:Nat)(fr:Fr)(H:Aa)(next:Fr→Aa→Prop):Prop:=
 match all[i]? with
 | none=>False
 | some o=>match o.guard with
   | some _=>False
   | none=>match Z.contains i with
     | true=>opK P false (fun _=>True) o fr H fun v H'=>Db o.dst fr v fun fr'=>next fr' H'
     | false=>opK P false (fun _=>True) o fr H fun v H'=>C_ S H0 H'∧Db o.dst fr v fun fr'=>next fr' H'
def heldZ(P:w_)(S:Nat→Prop)(Z:List Nat)(H0:Aa)(all:List Oper)(s:Sch):Fr→Aa→(Fr→Aa→Prop)→Prop:=
 Sch.rec (motive:=fun _=>Fr→Aa→(Fr→Aa→Prop)→Prop) (fun fr H K=>K fr H)
  (fun i _ ih fr H K=>match all[i]? with
   | none=>False
   | some o=>match o.guard with
     | some _=>False
     | none=>match Mp o&&GJ P o with
       | true=>Ph P S o fr H fun v=>Db o.dst fr v fun fr'=>ih fr' H K
       | false=>False)
  (fun i _ ih fr H K=>TK P S Z H0 all i fr H fun fr' H'=>ih fr' H' K)
  (fun i _ j _ ih ih' fr H K=>(TK P S Z H0 all i fr H fun fr' H'=>ih fr' H' K)∧TK P S Z H0 all j fr H fun fr' H'=>ih' fr' H' K) s
theorem Ad4(P:w_)(S:Nat→Prop)(Z:List Nat)(H0:Aa)(all:List Oper)(i:Nat)(s:Sch)(fr:Fr)(H:Aa)(K:Fr→Aa→Prop):heldZ P S Z H0 all (.q i s) fr H K=
  (match all[i]? with
   | none=>False
   | some o=>match o.guard with
     | some _=>False
     | none=>match Mp o&&GJ P o with
       | true=>Ph P S o fr H fun v=>Db o.dst fr v fun a=>heldZ P S Z H0 all s a H K
       | false=>False):=rfl
def AgI:Sch→Bool
 | .e=>false
 | .q _ _=>true
 | .f _ s=>AgI s
 | .b _ s _ s'=>AgI s|| AgI s'
def MI(Z:List Nat):Sch→Bool
 | .e=>true
 | .q _ _=>false
 | .f i s=>Z.contains i&&MI Z s
 | .b i s j s'=>Z.contains i&&Z.contains j&&MI Z s&&MI Z s'
def CI(ops:Array Oper)(Z:List Nat):Sch→Array Bool→Bool
 | .e,listed=>(Region.ready .any ops listed).isEmpty
 | .q i s,listed=>(Region.ready .any ops listed).contains i&&Region.free .any ops listed i&& !(Z.contains i)&&(Z.all fun z=>KA ops ops.size z i)&&CI ops Z s (listed.setIfInBounds i true)
 | .f i s,listed=>Region.ready .any ops listed==[i]&&(!(Z.contains i)|| MI Z s)&&CI ops Z s (listed.setIfInBounds i true)
 | .b i s j s',listed=>Region.ready .any ops listed==[i,j]&&((!(Z.contains i)&& !(Z.contains j))|| (MI Z s&&MI Z s'))&&CI ops Z s (listed.setIfInBounds i true)&&CI ops Z s' (listed.setIfInBounds j true)
theorem J7{P:w_}{S:Nat→Prop}{Z:List Nat}{w0:y_}{all:List Oper}{Q:Exit→Act→y_→Prop}{i:Nat}{fr:Fr}{a:Act}{w:y_}{next:Fr→Aa→Prop}{N:Act→y_→Prop}
  (c:At fr a) (l:d_ w0 w) (h:TK P S Z w0.heap all i fr w.heap next)
  (n:∀f a' e,At f a'→d_ w0 e→(Z.contains i=false→Cls w0 S e)→next f e.heap→N a' e):wpOp P all.toArray Q i N a w:=by
 unfold TK at h;split at h
 ·exact h.elim
 ·rename_i o p;have m:all.toArray[i]?=some o:=by simpa using p
  split at h
  ·exact h.elim
  ·rename_i q;have d:Region.wanted o (yielded all.toArray a.tmps)=true:=by simp[Region.wanted,q]
   unfold wpOp;rw[m];dsimp only;rw[F_ d];split at h
   ·rename_i r;refine .inl (Oper.wp_mono ?_ (D0 c h _));rintro a' e ⟨v,rfl,b,g⟩;rw[Ce]at g;exact n _ _ _ (c.put o.dst v) (l.trans b) (fun j=>by rw[r]at j;cases j) g
   ·refine .inl (Oper.wp_mono ?_ (D0 c h _));rintro a' e ⟨v,rfl,b,k,g⟩;rw[Ce]at g;exact n _ _ _ (c.put o.dst v) (l.trans b) (fun _=>⟨l.trans b,k⟩) g
theorem Fo{P:w_}{S:Nat→Prop}{Z:List Nat}{w0:y_}{all:List Oper}{Q:Exit→Act→y_→Prop}(hs:Region.noSelect all.toArray=true)
  (A:∀c a w,¬Q (.panic c) a w):∀(l:Sch) (d:Array Bool) (fr:Fr) (a:Act) (w:y_) (K:Fr→Aa→Prop),At fr a→d_ w0 w→(MI Z l=false→Cls w0 S w)→IM all.toArray d→
  (∀n a' m,At n a'→d_ w0 m→K n m.heap→Q .normal a' m)→CI all.toArray Z l d=true→l.even=true→
  heldZ P S Z w0.heap all l fr w.heap K→JG P all.toArray Q (Cls w0 S) Z l.len d a w
 | .e,d,fr,a,w,K,hat,he,_,_,hq,hB,_,h=>⟨by simpa [CI]using hB,hq fr a w hat he h⟩
 | .q i s,d,fr,a,w,K,hat,he,x,hsh,hq,hB,hev,h=>by
   have x:=x rfl;simp only[CI,r_,Yax,Ybl]at hB;obtain⟨⟨⟨⟨y,g⟩,N⟩,O⟩,p⟩:=hB;rw[Ad4]at h;split at h
   ·exact h.elim
   ·rename_i o R;have B:all.toArray[i]?=some o:=by simpa using R
    have C:i∈Region.ready .any all.toArray d:=by simpa using y
    split at h
    ·exact h.elim
    ·rename_i T;have z:Region.wanted o (yielded all.toArray a.tmps)=true:=by simp[Region.wanted,T]
     split at h
     ·have⟨v,U,r⟩:=Em h;rw[Ce]at r;refine DK (v:=v) (f:=all.toArray.size) B (Region.noSelect_spec hs) (fun c a' m V=>(A _ _ _ V).elim) N (fun j D=>O j (by simpa using D)) s.len d a w hsh (Region.free_spec B g) C
       (.inl ⟨z,fun m J=>?_⟩) x ?_
      ·rw[hat.evalF];exact U m fun k r=>(J.2 k r).trans (x.2 k r).symm
      ·exact Fo hs A s _ _ _ w K (hat.put o.dst v) he (fun _=>x) (hsh.put C) hq p hev r
     ·exact h.elim
 | .f i s,d,fr,a,w,K,hat,he,x,hsh,hq,hB,hev,h=>by
   simp only[CI,r_,Yay,Yax,beq_iff_eq]at hB;obtain⟨⟨y,g⟩,p⟩:=hB;refine⟨(fun E=>by rw[y]at E;cases E),fun j D=>?_⟩;have L:=D;rw[y]at D;obtain rfl:j=i:=by simpa using D
   refine J7 hat he h fun n a' m F G t H=>⟨t,Fo hs A s _ _ _ m K F G (fun u=>?_) (hsh.put L) hq p hev H⟩;rcases g with g | g
   ·exact t g
   ·rw[g]at u;cases u
 | .b i s j s',d,fr,a,w,K,hat,he,x,hsh,hq,hB,hev,h=>by
   simp only[CI,r_,Yay,Yax,beq_iff_eq]at hB;obtain⟨⟨⟨y,g⟩,p⟩,M⟩:=hB;simp only[Sch.even,r_,beq_iff_eq]at hev;obtain⟨⟨W,e2⟩,X⟩:=hev;refine⟨(fun E=>by rw[y]at E;cases E),fun k r=>?_⟩;have I:=r;rw[y]at r;rcases YaP.1 r with rfl | r
   ·refine J7 hat he h.1 fun n a' m F G t H=>⟨t,Fo hs A s _ _ _ m K F G (fun u=>?_) (hsh.put I) hq p W H⟩;rcases g with g | g
    ·exact t g.1
    ·rw[g.1]at u;cases u
   ·obtain rfl:k=j:=by simpa using r
    rw[X];refine J7 hat he h.2 fun n a' m F G t H=>⟨t,Fo hs A s' _ _ _ m K F G (fun u=>?_) (hsh.put I) hq M e2 H⟩;rcases g with g | g
    ·exact t g.2
    ·rw[g.2]at u;cases u
theorem Aq.heldZ{P:w_}{l:List Oper}{fr:Fr}{H:Aa}{K:Fr→Aa→Prop}(S:Nat→Prop)(Z:List Nat)(b:Sch)(g:P.follows .mixedOrders=true)
  (c:(Region.noSelect l.toArray&&(b.len==l.length)&&b.even&&CI l.toArray Z b (Ak4 l.length false))=true)
  (h:VC.heldZ P S Z H l b fr H K):Aq P l fr H K:=by
 refine⟨?_⟩;intro id Q a w d i k m;subst i;simp only[r_,beq_iff_eq]at c;refine wp_region_any g (GF (S:=Cls w S) (Z:=Z) _ _ _ _ ?_);have e:IM l.toArray (Ak4 l.length false):=fun j o _ f=>by
  rw[Array.getD_eq_getD_getElem?,Array.getElem?_replicate]at f;split at f<;>simp at f
 have:=Fo (P:=P) (S:=S) (Z:=Z) (w0:=w) (Q:=Q) c.1.1.1 k b (Ak4 l.length false) fr a {w with drawn:=w.drawn+1} K d ⟨rfl,rfl,rfl⟩ (fun _=>⟨⟨rfl,rfl,rfl⟩,C_.refl _ _⟩) e m c.2 c.1.2 h;rw[c.1.1.2]at this;simpa using this
section
variable{α:Type}{T:Ty α}{B:Nat→Prop}{H0 H H1:Aa}{ps:List Pc}{e te:x_}{nb:Nat}{vs:List v_}{xs:List (List α)}
end
structure I4(P:w_)(t kt et:x_)(z:v_):Prop where
 under:P.underlying t=some (.map kt et)
 zero:(P.info? et).bind (·.zero)=some z
structure II(P:w_)(kt:x_){α:Type}(Ok:α→Prop)(enc:α→v_):Prop where
 inj:∀a b,enc a=enc b→a=b
 check:∀(w:y_) (em:Bool) (a:α),Ok a→(Instr.checkKey em 10000 kt (enc a)).run P w= .ok () w
 find:∀(w:y_) (a:α),Ok a→∀es:List MapEntry,(∀e∈es,∃b,Ok b∧e.key=enc b)→
  ((Instr.findKey kt (enc a) es).run P w= .ok none w∧∀e∈es,e.key≠enc a)∨∃j e,(Instr.findKey kt (enc a) es).run P w= .ok (some (j,e.val)) w∧es[j]?=some e∧e.key=enc a
 stays:∀(w:y_) (a:α),Ok a→(Instr.keyThatStays (enc a) (enc a)).run P w= .ok (enc a) w
theorem II.ofLaw{P:w_}{kt:x_}{α:Type}{Ok:α→Prop}{enc:α→v_}(h:WideMaps.KeyLaw P kt)(g:∀a b,enc a=enc b→a=b)(d:∀a,Ok a→∃l,keyOf P kt (enc a)=some l):II P kt Ok enc:=
 ⟨g,fun w i a c=>let⟨_,e⟩:=d a c;h.check w i e,fun w a c j f=>let⟨_,e⟩:=d a c;h.find w e j fun x k=>by
   have⟨b,m,e⟩:=f x k;rw[e];exact d b m,
  fun w a c=>let⟨_,e⟩:=d a c;h.stays w e⟩
def IK{α:Type}(Ok:α→Prop)(enc:α→v_)(H:Aa)(b:Nat)(m:α→Option v_):Prop:=RX enc H b m∧∀a v,m a=some v→Ok a
def Ai3{α:Type}(Ok:α→Prop)(enc:α→v_)(H:Aa)(K:Aa→Prop)(b:Nat)(m:α→Option v_):Prop:=
 ∀H',IK Ok enc H' b m→C_ (fun k=>k≠b) H H'→H'.size=H.size→K H'
section
variable{α:Type}{Ok:α→Prop}{enc:α→v_}{P:w_}{t kt et:x_}{z:v_}{S:Nat→Prop}{H:Aa}{b:Nat}{m:α→Option v_}{a:α}
theorem IK.agr{H':Aa}(h:IK Ok enc H b m)(k:C_ S H H')(a:S b):IK Ok enc H' b m:=⟨h.1.agr k a,h.2⟩
theorem AaA(h:∀a v,m a=some v→Ok a)(e:Ok a)(v:v_):∀b u,put m a (some v) b=some u→Ok b:=fun b u d=>by
 by_cases c:b=a
 ·rw[c];exact e
 ·rw[LQ c]at d;exact h b u d
theorem Kz(o:II P kt Ok enc)(r:Ok a)(g:∀a v,m a=some v→Ok a){es:Array MapEntry}(c:∀(i:Nat) (x:MapEntry),es[i]?=some x→∃a,x.key=enc a∧m a=some x.val)(s:∀a v,m a=some v→∃(i:Nat) (x:MapEntry),es[i]?=some x∧x.key=enc a∧x.val=v)(w:y_):
  ((Instr.findKey kt (enc a) es.toList).run P w= .ok none w∧m a=none∧∀x∈es.toList,x.key≠enc a)∨∃j e,(Instr.findKey kt (enc a) es.toList).run P w= .ok (some (j,e.val)) w∧es[j]?=some e∧e.key=enc a∧m a=some e.val:=by
 have d:∀x∈es.toList,∃b,Ok b∧x.key=enc b:=fun x h=>by
  have⟨i,t⟩:=YaI h;have⟨b,k,e2⟩:=c i x (by simpa using t);exact⟨b,g b _ e2,k⟩
 rcases o.find w a r es.toList d with⟨l,f⟩ | ⟨j,e,l,f,p⟩
 ·refine .inl ⟨l,?_,f⟩;cases n:m a with
  | none=>rfl
  | some v=>
    obtain⟨i,x,h,u,_⟩:=s a v n;exact absurd u (f x (c_ (by simpa using h)))
 ·have q:es[j]?=some e:=by simpa using f
  refine .inr ⟨j,e,l,q,p,?_⟩;have⟨a',k,e2⟩:=c j e q;rw[o.inj a a' (p.symm.trans k)];exact e2
theorem UM(d:I4 P t kt et z)(f:II P kt Ok enc)(g:Ok a)(h:IK Ok enc H b m)(o:S b){K:v_→Prop}(k:K ((m a).getD z)):AJ P (Instr.lookup t (.map (some b)) (enc a) false) S H K:=by
 obtain⟨⟨x,i,p,y,q,r⟩,l⟩:=h;refine AJ.mk _ (fun w s=>?_) k;have c:=(s b o).trans p;rcases Kz f g l q r w with⟨n,e2,u⟩ | ⟨j,e,n,e2,u,v⟩
 ·simp[Instr.lookup,run_underlying d.under,Go.MapKept.run_getObj_map c,f.check w _ a g,n,TU d.zero,e2]
 ·simp[Instr.lookup,run_underlying d.under,Go.MapKept.run_getObj_map c,f.check w _ a g,n,v]
theorem Jj(d:I4 P t kt et z)(f:II P kt Ok enc)(g:Ok a)(h:IK Ok enc H b m)(o:S b){K:v_→Prop}(k:K (.tuple #[(m a).getD z,.bool (m a).isSome])):AJ P (Instr.lookup t (.map (some b)) (enc a) true) S H K:=by
 obtain⟨⟨x,i,p,y,q,r⟩,l⟩:=h;refine AJ.mk _ (fun w s=>?_) k;have c:=(s b o).trans p;rcases Kz f g l q r w with⟨n,e2,u⟩ | ⟨j,e,n,e2,u,v⟩
 ·simp[Instr.lookup,run_underlying d.under,Go.MapKept.run_getObj_map c,f.check w _ a g,n,TU d.zero,e2]
 ·simp[Instr.lookup,run_underlying d.under,Go.MapKept.run_getObj_map c,f.check w _ a g,n,v]
theorem Ti(n:∀a b,enc a=enc b→a=b){es:Array MapEntry}{d:Nat}(hs:Go.MapKept.Stamped es d)(z:∀(i:Nat) (x:MapEntry),es[i]?=some x→∃a,x.key=enc a∧m a=some x.val)(A:∀a v,m a=some v→∃(i:Nat) (x:MapEntry),es[i]?=some x∧x.key=enc a∧x.val=v){j:Nat}{e:MapEntry}(l:es[j]?=some e)(s:e.key=enc a){f:MapEntry→MapEntry}{v:v_}
  (g:(f e).key=enc a) (o:(f e).val=v) (p:∀x,(f x).born=x.born) {H':Aa}
  (y:H'[b]?=some (.map (es.modify j f) d)):RX enc H' b (put m a (some v))∧Y2 enc H' b a e.born:=by
 have q:∀i x,(es.modify j f)[i]?=some x→(i≠j∧es[i]?=some x)∨(i=j∧x=f e):=by
  intro i x c;rw[Yac]at c;by_cases u:j=i
  ·subst u;rw[F_ rfl,l]at c;exact .inr ⟨rfl,by cases c;rfl⟩
  ·rw[D_ u]at c;exact .inl ⟨Ne.symm u,c⟩
 refine⟨⟨_,_,y,Go.MapKept.stamped_modify hs _ _ (fun x _=>p x) (fun x _ c=>?_),fun i x c=>?_,fun a' B t=>?_⟩,_,_,y,fun i x c=>?_⟩
 ·rw[l]at c;cases c;rw[g,s]
 ·rcases q i x c with⟨k,c⟩ | ⟨_,rfl⟩
  ·have⟨a',r,e2⟩:=z i x c;have:a'≠a:=fun h=>k (E2 hs c l (by rw[r,h,s]));exact⟨a',r,by rw[LQ this];exact e2⟩
  ·exact⟨a,g,by rw[Jp,o]⟩
 ·by_cases w:a'=a
  ·subst w;rw[Jp]at t;cases t;exact⟨j,f e,by rw[Yac,F_ rfl,l]<;>rfl,g,o⟩
  ·rw[LQ w]at t;have⟨i,x,c,r,e2⟩:=A a' B t;refine⟨i,x,?_,r,e2⟩;rw[Yac,D_ ?_]
   ·exact c
   ·rintro rfl;rw[l]at c;cases c;exact w (n _ _ (r.symm.trans s))
 ·rcases q i x c with⟨k,c⟩ | ⟨_,rfl⟩
  ·exact⟨fun h=>absurd (Lq hs c l h) k,fun h=>absurd (E2 hs c l (h.trans s.symm)) k⟩
  ·exact⟨fun _=>g,fun _=>p e⟩
theorem AiZ(y:I4 P t kt et z)(l:II P kt Ok enc)(g:Ok a)(h:IK Ok enc H b m){v:v_}{K:Aa→Prop}(k:Ai3 Ok enc H K b (put m a (some v))):CN P (Instr.mapUpdate t (.map (some b)) (enc a) v) H K:=by
 obtain⟨⟨n,c,i,A,p,q⟩,d⟩:=h;refine CN.mk fun w B=>?_;subst B;rcases Kz l g d p q w with⟨r,e2,o⟩ | ⟨j,e,r,e2,o,C⟩
 ·have⟨s,u,x⟩:=T9 (o':=.map (n.push ⟨enc a,v,c⟩) (c+1)) i;exact⟨AaM w b (.map (n.push ⟨enc a,v,c⟩) (c+1)),by simp[Instr.mapUpdate,run_underlying y.under,Go.MapKept.run_getObj_map i,l.check w _ a g,r,Go.MapKept.run_setObj_map _ i],⟨rfl,rfl,rfl⟩,k _ ⟨(Aa9 A p q o s).1,AaA d g v⟩ u x⟩
 ·have⟨s,u,x⟩:=T9 (o':=.map (n.modify j fun e=>{e with key:=enc a,val:=v}) c) i;exact⟨AaM w b (.map (n.modify j fun e=>{e with key:=enc a,val:=v}) c),by simp[Instr.mapUpdate,run_underlying y.under,Go.MapKept.run_getObj_map i,l.check w _ a g,r,Go.MapKept.run_setObj_map _ i,e2,o,l.stays w a g],⟨rfl,rfl,rfl⟩,k _ ⟨(Ti l.inj A p q e2 o (f:=fun e=>{e with key:=enc a,val:=v}) rfl rfl (fun _=>rfl) s).1,AaA d g v⟩ u x⟩
theorem LL{K:v_→Aa→Prop}(k:∀b H',b=H.size→H'.size=b+1→IK Ok enc H' b (fun _=>none)→C_ (fun k=>k<b) H H'→K (.map (some b)) H'):BH P (Instr.makeMap t none) H K:=
 AiX fun b H' c d e f=>k b H' c d ⟨e,fun a v h=>by cases h⟩ f
end
def KL{α:Type}(Ok:α→Prop)(enc:α→v_)(H:Aa)(b r:Nat)(m:α→Option v_)(D:α→Prop)(last:Option α)(n:Nat):Prop:=
 (∃es clock seen,H[b]?=some (.map es clock)∧Go.MapKept.Stamped es clock∧(∀(i:Nat) (x:MapEntry),es[i]?=some x→∃a,x.key=enc a∧m a=some x.val)∧
  (∀a v,m a=some v→∃(i:Nat) (x:MapEntry),es[i]?=some x∧x.key=enc a∧x.val=v)∧H[r]?=some (.mapIter (some b) clock seen clock)∧
  (∀(i:Nat) (x:MapEntry) (a:α),es[i]?=some x→x.key=enc a→(seen.contains x.born=true↔D a))∧n=(leftOf es seen).size∧
  ∀a,last=some a→∃(e:MapEntry) (s0:Array Nat),e∈es.toList∧e.key=enc a∧seen=s0.push e.born)∧(∀a v,m a=some v→Ok a)
section
variable{α:Type}{Ok:α→Prop}{enc:α→v_}{P:w_}{t kt et:x_}{z:v_}{S:Nat→Prop}{H:Aa}{b r n:Nat}{m:α→Option v_}{D:α→Prop}{last:Option α}
theorem KL.agr{H':Aa}(h:KL Ok enc H b r m D last n)(k:C_ S H H')(c:S b)(d:S r):KL Ok enc H' b r m D last n:=by
 obtain⟨⟨e,a,seen,f,g,i,j,l,o⟩,p⟩:=h;exact⟨⟨e,a,seen,(k b c).trans f,g,i,j,(k r d).trans l,o⟩,p⟩
theorem Xs(es:Array MapEntry)(seen:Array Nat){e:MapEntry}(c:e∈(leftOf es seen).toList):(leftOf es (seen.push e.born)).size<(leftOf es seen).size:=by
 have a:leftOf es (seen.push e.born)=(leftOf es seen).filter fun x=> !(x.born==e.born):=by
  unfold leftOf;rw[Array.filter_filter]
  congr 1
  funext x;rw[Yal];cases a:seen.contains x.born<;>cases b:x.born==e.born<;>simp_all
 have b:((leftOf es seen).filter fun x=> !(x.born==e.born)).size=((leftOf es seen).toList.filter fun x=> !(x.born==e.born)).length:=by rw[←Yam,Yab]
 rw[a,b,←Yab];exact List.length_filter_lt_length_iff_exists.2 ⟨e,c,by simp⟩
theorem AgV(g:I4 P t kt et z)(h:IK Ok enc H b m){K:v_→Aa→Prop}
  (k:∀r n H',r=H.size→H'.size=r+1→KL Ok enc H' b r m (fun _=>False) none n→C_ (fun k=>k<H.size) H H'→K (U_ r) H'):BH P (Instr.range t (.map (some b))) H K:=by
 obtain⟨⟨f,c,d,j,l,o⟩,e⟩:=h;refine BH.mk fun w p=>?_;subst p;have q:b<w.heap.size:=(Yaa.1 d).1;refine⟨_,w.alloc (.mapIter (some b) c #[] c),by simp[Instr.range,run_underlying g.under,Go.MapKept.run_getObj_map d],⟨rfl,rfl,rfl⟩,k w.heap.size (leftOf f #[]).size _ rfl (by rw[Gh];simp) ⟨⟨f,c, #[],?_,j,l,o,by rw[Gh];simp,fun i x a s u=>by simp,rfl,fun a h=>by cases h⟩,e⟩ (Ec _ _)⟩;rw[Gh,Yaf,D_ (by omega)];exact d
theorem AiY{ty:x_}(S:∀a b,enc a=enc b→a=b)(h:KL Ok enc H b r m D last n){K:v_→Aa→Prop}(T:(∀a,(m a).isSome=true→D a)→K (.tuple #[.bool false]) H)
  (U:∀a v H' n',m a=some v→¬D a→n'<n→KL Ok enc H' b r m (fun x=>D x∨x=a) (some a) n'→C_ (fun k=>k≠r) H H'→H'.size=H.size→K (.tuple #[.bool true,enc a,v]) H'):BH P (Instr.next (U_ r) false ty) H K:=by
 obtain⟨⟨p,c,seen,F,B,O,Q,C,G,V,h8⟩,I⟩:=h;refine BH.mk fun w W=>?_;subst W;have J:b≠r:=by
  rintro rfl;rw[F]at C;cases C
 have t:∀x,x∈(leftOf p seen).toList↔x∈p.toList∧seen.contains x.born=false:=fun x=>by
  unfold leftOf;rw[Yam,Ybn,Yax]
 rcases run_next_at (P:=P) w ty r b c c seen p c C F B.1 (I_ _)with⟨X,e2⟩ | ⟨e,R,E,u,e2⟩
 ·refine⟨_,w,e2,d_.refl w,T fun a Y=>?_⟩;have⟨v,Z⟩:=YbO.1 Y;obtain⟨i,x,o,q,-⟩:=Q a v Z;refine(G i x a o q).1 ?_;cases hs:seen.contains x.born with
  | true=>rfl
  | false=>
    have:=(t x).2 ⟨c_ (i:=i) (by simpa using o),hs⟩;have h0:(leftOf p seen).toList=[]:=Ya8 (by rw[Yab];exact X);rw[h0]at this;cases this
 ·have⟨y,z⟩:=(t e).1 R;have⟨j,hj⟩:=YaI y;have f:p[j]?=some e:=by simpa using hj
  have⟨a,g,L⟩:=O j e f;have M:¬D a:=fun hd=>by
   rw[(G j e a f g).2 hd]at z;cases z
  have A:E.heap=w.heap:=by rcases u with rfl | rfl<;>rfl
  have l:d_ w E:=by rcases u with rfl | rfl<;>exact⟨rfl,rfl,rfl⟩
  have N:r<w.heap.size:=(Yaa.1 C).1;have d:(Go.ChangeMaps.setBlock E r (.mapIter (some b) c (seen.push e.born) c)).heap=w.heap.setIfInBounds r (.mapIter (some b) c (seen.push e.born) c):=by
   show E.heap.setIfInBounds r _=_;rw[A]
  refine⟨_,_,e2,⟨l.os,l.tape,l.output⟩,?_⟩;rw[g];refine U a e.val _ _ L M (V ▸ Xs p seen R) ⟨⟨p,c,seen.push e.born,?_,B,O,Q,?_,fun i x a' o q=>?_,rfl,fun a' s=>?_⟩,I⟩ ?_ ?_
  ·rw[d,Yai (Ne.symm J)];exact F
  ·rw[d,Array.getElem?_setIfInBounds_self_of_lt N]
  ·rw[Yal,Yay,G i x a' o q,beq_iff_eq];refine or_congr Iff.rfl ⟨fun hb=>?_,fun s=>?_⟩
   ·obtain rfl:=Lq B o f hb;rw[f]at o;cases o;exact S _ _ (q.symm.trans g)
   ·subst s;obtain rfl:=E2 B o f (q.trans g.symm);rw[f]at o;cases o;rfl
  ·cases s;exact⟨e,seen,y,g,rfl⟩
  ·rw[d];exact fun k q=>Yai (Ne.symm q)
  ·rw[d];simp
theorem AiU{a:α}{v:v_}(h:KL Ok enc H b r m D (some a) n)(G:∀a b,enc a=enc b→a=b)(t:m a=some v){K:v_→Aa→Prop}(k:K (.tuple #[enc a,v]) H):BH P (Instr.entry (U_ r)) H K:=by
 obtain⟨⟨o,c,seen,u,p,I,y,z,J,L,A⟩,B⟩:=h;obtain⟨e,C,q,s,rfl⟩:=A a rfl;refine BH.mk fun w E=>?_;subst E;have⟨i,x,f,g,l⟩:=y a v t;have⟨j,F⟩:=YaI q;have d:o[j]?=some e:=by simpa using F
 obtain rfl:=E2 p f d (g.trans s.symm);rw[d]at f;cases f;refine⟨_,w,run_entry_at w r b c C o c e z u q p.2.1,d_.refl w,?_⟩;rw[s,l];exact k
end
section
variable{α:Type}{Ok:α→Prop}{enc:α→v_}{b r n:Nat}{m m':α→Option v_}{D:α→Prop}{last:Option α}{B:Nat→Prop}{H0 H H':Aa}{ps:List Pc}{P:w_}{t kt et:x_}{z:v_}
def pMW(Ok:α→Prop)(enc:α→v_)(b:Nat)(m:α→Option v_):Pc:=⟨fun k=>k=b,fun H=>IK Ok enc H b m,fun h hp=>hp.agr h rfl⟩
def pIW(Ok:α→Prop)(enc:α→v_)(b r:Nat)(m:α→Option v_)(D:α→Prop)(last:Option α)(n:Nat):Pc:=⟨fun k=>k=b∨k=r,fun H=>KL Ok enc H b r m D last n,fun h hp=>hp.agr h (.inl rfl) (.inr rfl)⟩
theorem B_.mapW(st:B_ B H0 H ps)(i:Nat)(a:ps[i]?=some (pMW Ok enc b m)):IK Ok enc H b m:=st.at_ i a
theorem B_.iterW(st:B_ B H0 H ps)(i:Nat)(a:ps[i]?=some (pIW Ok enc b r m D last n)):KL Ok enc H b r m D last n:=st.at_ i a
theorem B_.mapNewW(st:B_ B H0 H ps)(c:b=H.size)(hs:H'.size=b+1)(d:IK Ok enc H' b (fun _=>none))(e:C_ (fun k=>k<b) H H'):B_ B H0 H' (ps++[pMW Ok enc b fun _=>none]):=by
 subst c;exact st.add (e.mono fun k a=>a) _ d fun k a=>by have:k=H.size:=a;omega
theorem Jk{v:v_}{a:α}{K:Aa→Prop}(st:B_ B H0 H ps)(i:Nat)(j:I4 P t kt et z)(c:II P kt Ok enc)(l:Ok a)(d:ps[i]?=some (pMW Ok enc b m))(n:put m a (some v)=m')
  (k:∀H',B_ B H0 H' (ps.set i (pMW Ok enc b m'))→K H'):CN P (Instr.mapUpdate t (.map (some b)) (enc a) v) H K:=by
 refine AiZ j c l (st.mapW i d) ?_;intro H' e f g;subst n;exact k H' (st.upd i d (f.mono fun k c h=>c.2 h) _ e (fun k c=>.inl c) (fun k c=>by rw[g];exact(st.in_ i d c).2) (by omega))
theorem AdM{K:v_→Aa→Prop}(st:B_ B H0 H ps)(i:Nat)(d:I4 P t kt et z)(c:ps[i]?=some (pMW Ok enc b m))
  (k:∀r n H',B_ B H0 H' (ps.set i (pIW Ok enc b r m (fun _=>False) none n))→K (U_ r) H'):BH P (Instr.range t (.map (some b))) H K:=by
 refine AgV d (st.mapW i c) fun r n H' e hs f g=>?_;subst e;have h:=(st.in_ i c (k:=b) rfl).2;refine k _ n H' (st.upd i c (g.mono fun k a=>a.1) _ f (fun k a=>?_) (fun k a=>?_) (by omega))
 ·rcases a with a | a
  ·exact .inl a
  ·exact .inr (by omega)
 ·rcases a with rfl | rfl<;>omega
theorem AgU{ty:x_}{K:v_→Aa→Prop}(st:B_ B H0 H ps)(i:Nat)(f:∀a b,enc a=enc b→a=b)(d:ps[i]?=some (pIW Ok enc b r m D last n))(g:(∀a,(m a).isSome=true→D a)→K (.tuple #[.bool false]) H)
  (h:∀a v H' n',m a=some v→¬D a→n'<n→B_ B H0 H' (ps.set i (pIW Ok enc b r m (fun x=>D x∨x=a) (some a) n'))→K (.tuple #[.bool true,enc a,v]) H'):BH P (Instr.next (U_ r) false ty) H K:=by
 refine AiY f (st.iterW i d) g fun a v H' n' j l o p q s=>h a v H' n' j l o (st.upd i d (q.mono fun k c e=>c.2 (.inr e)) _ p (fun k c=>.inl c) (fun k c=>by rw[s];exact(st.in_ i d c).2) (by omega))
end
section
variable{α:Type}{T:Ty α}{e:x_}{a:Option Addr}{n cap:Nat}{xs:List α}{B:Nat→Prop}{H0 H:Aa}{ps:List Pc}
theorem Kj{P:w_}{t ty q o m g by_:Nat}{z:v_}{ys:List α}{ds:List v_}{K:v_→Aa→Prop}(st:B_ B H0 H ps)(i:Nat)(s:SlT P t e T.size by_ z)(r:ps[i]?=some (pS T e a n cap xs))
  (v:Be H q o ds) (w:T.reps none_ H ds ys) (x:m=ys.length) (y:∀u∈ds,u.oneCell'=true) (l:xs.length+ys.length≤maxLen) (hby:(xs.length+ys.length)*by_≤140737488355328)
  (k:∀a' c H',B_ B H0 H' (ps.set i (pS T e a' (xs.length+ys.length) c (xs++ys)))→C_ (fun k=>k<H.size∧¬a_ (.slice a n cap) k) H H'→K (.slice a' (xs.length+ys.length) c) H'):
  BH P (Builtin.append_ #[t,t] ty [.slice a n cap,.slice (some ⟨q,o,none⟩) m g].toArray) H K:=by
 refine Di (T:=T) (S:=none_) (lo:=0) s (st.at_ i r).1 (t_ _) (fun k b=>b.elim) v w x y l hby ?_;intro C H' d f p j;obtain⟨a',c,rfl⟩:=d.hull;rw[J_]at d j ⊢;refine k a' c H' (st.upd i r (f.mono fun k b=>⟨b.1,fun A=>b.2 (.inl A)⟩) _ ⟨d,fun k b=>b.elim⟩ (fun k b=>?_) (fun k b=>?_) p) f
 ·rcases b with b | b
  ·rcases j k b with h | h
   ·exact .inl (.inl h)
   ·exact .inr h
  ·exact b.elim
 ·rcases b with b | b
  ·exact(d.lt b).2
  ·exact b.elim
end
section
variable{α β:Type}{Ok:α→Prop}{enc:α→v_}{T:Ty β}{e:x_}{b:Nat}{m:α→Option v_}{xs:α→List β}{B:Nat→Prop}{H0 H H':Aa}{ps:List Pc}{P:w_}{t kt et:x_}{a:α}
end
structure Slot where
 ok:Aa→v_→Prop
 fr:∀{S:Nat→Prop} {H H':Aa} {v:v_},C_ S H H'→(∀k,a_ v k→S k)→ok H v→ok H' v
 lt:∀{H:Aa} {v:v_} {k:Nat},ok H v→a_ v k→k<H.size
section
variable{α:Type}{T:Ty α}{B:Nat→Prop}{H0 H H1:Aa}{ps:List Pc}{e te:x_}{b:Nat}{vs:List v_}{ss:Nat→Slot}{xs:List α}{v:v_}{j:Nat}
end
theorem AgN{P:w_}{t len e sz:Nat}{k:IntKind}{i:Int}{cs:Array v_}{S:Nat→Prop}{H:Aa}{K:v_→Prop}(a:Pb P t len e sz)(d:Hb P e sz)(h0:0≤i)(f:i<len)
  (g:K (.agg (cs.extract (i.toNat*sz) (i.toNat*sz+sz)))):AJ P (Instr.index t (.agg cs) (.int k i)) S H K:=by
 refine AJ.mk _ (fun w _=>?_) g;cases b:P.info? e with
 | none=>have:=a.size;simp[b]at this
 | some c=>
   have hs:c.size=sz:=by have:=a.size;simpa [b]using this
   simp[Instr.index,asIntOf,run_underlying a.under,h0,f,sizeOf,typeInfo,b,hs,XU d]
theorem AbH{x:Nat}(h:x<18446744073709551616):18446744073709551615 ^^^ x=18446744073709551615-x:=by
 have a:(Am1 64 x ^^^ AlR 64).toNat=(~~~(Am1 64 x)).toNat:=by rw[BitVec.xor_allOnes]
 rw[Yat,Yau,Yan,BitVec.toNat_allOnes,Ybs (by simpa using h),Nat.xor_comm]at a;simpa using a
theorem WQ{P:w_}{x:Nat}{S:Nat→Prop}{H:Aa}{K:v_→Prop}(b:x<18446744073709551616)(k:K (.int .u64 ((18446744073709551615-x:Nat):Int))):AJ P (Op.unary .xor (.int .u64 (x:Int))) S H K:=by
 refine AJ.mk _ (fun w _=>?_) k;have c:IntKind.u64.max=18446744073709551615:=rfl;have d:IntKind.u64.signed=false:=rfl;have e:(AjT IntKind.u64.bits (18446744073709551615:Int) ^^^ AjT IntKind.u64.bits (x:Int)).toNat=18446744073709551615-x:=by
  show(AjT 64 ((18446744073709551615:Nat):Int) ^^^ AjT 64 (x:Int)).toNat=_;rw[Yao,Yao,Yat,Yan,Yan,Ybs (a:=x) b];exact AbH b
 have e2:IntKind.wrap .u64 ((18446744073709551615-x:Nat):Int)=((18446744073709551615-x:Nat):Int):=JW ⟨by show(0:Int)≤_;omega,by rw[c];omega⟩;show(pure (Value.int .u64 (IntKind.wrap .u64 ((AjT IntKind.u64.bits (if IntKind.u64.signed=true then(-1:Int)else IntKind.u64.max) ^^^ AjT IntKind.u64.bits (x:Int)).toNat:Int))):Sem v_).run P w=_;rw[d,c];simp only[Yaw,if_false];rw[e,e2];rfl
end Go.VC
namespace Go.Proofs.YtfbghcpdinlmcaaGreatDoor
open Go.VC
theorem RS(a:BitVec 256)(i:Nat)(b:i<4):wd (~~~a) i=18446744073709551615-wd a i:=by
 have c:=a.isLt;unfold wd;rw[Yau]
 match i,b with
 | 0,_=>simp only[AlD,AkC]at*;omega
 | 1,_=>simp only[AlD,AkC]at*;omega
 | 2,_=>simp only[AlD,AkC]at*;omega
 | 3,_=>simp only[AlD,AkC]at*;omega
theorem Wx(a:BitVec 256)(H:Aa):BM prog 183 #[Bt a] H (Bt (~~~a)):=by
 have d:∀i,wd a i<18446744073709551616:=fun i=>JE a i;refine Ak.of_vc func183 rfl (call183 _) (Ct (Ad a) rfl ?_);intro p H1 q l b e;refine Am (Bt 0) (Ad 0) rfl rfl ?_;intro r H3 s m f c;replace b:=b.agr c (show p<r by omega);refine M' Ch (by decide) (by decide) (G_ Fj ((b.cell _).trans rfl) trivial (WQ (d _) (M' Ch (by decide) (by decide) (G_ Fj ((b.cell _).trans rfl) trivial (WQ (d _) (M' Ch (by decide) (by decide) (G_ Fj ((b.cell _).trans rfl) trivial (WQ (d _) (M' Ch (by decide) (by decide) (G_ Fj ((b.cell _).trans rfl) trivial (WQ (d _) ?_)))))))))));rw[←RS a 0 (by decide),←RS a 1 (by decide),←RS a 2 (by decide),←RS a 3 (by decide)];refine Cz Ch (Bt 0) rfl (Ad (~~~a)) rfl (VC.stN rfl f (show 0+4≤4 by decide) rfl ?_);intro H4 g h n;refine lN (cs:=Ad (~~~a)) AT (g.cells (fun j v o=>by simpa [Ai,Ad]using o)) ?_;exact⟨rfl,fun k t=>by rw[h k (by omega),c k (by omega),e k (by omega)]⟩
theorem AdL(a b:BitVec 256)(H:Aa):BM prog 145 #[Bt a,Bt b] H (Bt (a &&& ~~~b)):=by
 refine Ak.of_vc func145 rfl (call145 _) (Ct (Ad a) rfl ?_);intro p H1 B l m n;have st1:=(St.nil H).box B l m n;refine Ct (Ad b) rfl ?_;intro q H2 C o s t;have u:=st1.box C o s t;refine Am (Bt 0) (Ad 0) rfl rfl ?_;intro r H3 D w x y;have c:=u.box D w x y;refine Aq.held (H_ H3) 4 (sq [0,1] (.f 2 (.f 3 (.f 4 .e)))) rfl (by kernel_rfl) ?_;refine L_ (cs:=Ad a) AT ((c.blk 0 rfl).cells fun j v g=>by rw[K_];exact g) (c.blk 0 rfl).lt ?_;refine L_ (cs:=Ad b) AT ((c.blk 1 rfl).cells fun j v g=>by rw[K_];exact g) (c.blk 1 rfl).lt ?_;refine Ah (Wx b H3) fun H4 d=>?_;have z:=c.call d;refine⟨d,?_⟩;refine Ah (UL a (~~~b) H4) fun H5 h=>?_;have A:=z.call h;refine⟨d.trans (h.mono fun k E=>Ar d E),?_⟩;refine AN (cs:=Ad (a &&& ~~~b)) A 2 rfl rfl (show 0+4≤4 by decide) rfl fun H6 i=>(L_ (cs:=Ad (a &&& ~~~b)) AT ((i.blk 2 rfl).cells (fun j v g=>by simpa [Ai,Ad]using g)) trivial ?_);exact⟨rfl,i.old⟩
def bA(w:List Nat):ByteArray:=⟨(w.map UInt8.ofNat).toArray⟩
def R_(s:ByteArray):List Nat:=s.data.toList.map UInt8.toNat
theorem MN(s:ByteArray):(R_ s).length=s.size:=by unfold R_;rw[Z_];exact Yab
theorem QN{s:ByteArray}{i:Nat}{b:UInt8}(h:s.data[i]?=some b):(R_ s)[i]?=some b.toNat:=by
 unfold R_;rw[o_,Yak,h];rfl
theorem getB{s:ByteArray}{k:Nat}(h:k<s.size):∃b,s.data[k]?=some b:=⟨s.data[k]'h,Yag h⟩
theorem Aw{l c:List v_}(h:c.length=l.length):Ai l 0 c=c:=by
 unfold Ai;rw[Ybq,Ybo,K_,h,List.drop_length,YaX]
def ofB(x:BitVec 256)(l:List Nat):BitVec 256:=l.foldl (fun x b=>x ||| Al3 256 b) x
theorem of_p(s:ByteArray)(hs:s.size≤1048576)(H:Aa):BM prog 48 #[.string s] H (Bt (ofB 0#256 (R_ s))):=by
 refine Ak.of_vc func48 rfl (call48 _) (Am (Bt 0) (Ad 0) rfl rfl ?_);intro r H1 J q t u;have st1:=(St.nil H).box J q t u;refine Am (Bt 0) (Ad 0) rfl rfl ?_;intro p H2 K w y z;have A:=st1.box K w y z;(conv=>whnf);refine A0.mk [7] (fun i:Nat=>[A_ i]) (fun i H3=>i≤s.size∧St H H3 [pB 101 r (Ad 0),pB 101 p (Ad (ofB 0#256 ((R_ s).take i)))]) (fun i _=>s.size-i) ?_ ?_
 ·(conv=>whnf);exact⟨0,rfl,t_ _,A⟩
 ·rintro i H3 F ⟨L,d⟩;refine AG.m2 (fun h=>?_) (fun h=>?_)
  ·have⟨c,B⟩:=getB (s:=s) (k:=i) (by omega);obtain⟨b,o⟩:∃b,b=c.toNat:=⟨_,rfl⟩;have l:b<256:=by rw[o];exact UInt8.toNat_lt c
   obtain⟨x,G⟩:∃x,x=ofB 0#256 ((R_ s).take i):=⟨_,rfl⟩;have m:ofB 0#256 ((R_ s).take (i+1))=x ||| Al3 256 b:=by
    rw[Af (QN B),G,o];unfold ofB;rw[Ybh];rfl
   rw[←G]at d;have C:=d.blk 1 rfl;have D:=(d.in_ 1 rfl rfl).2;refine Aq.heldZ (H_ H3) [13] (sq [0,1,2,3,4,5,6,7,8,9,10,11,12] (.f 13 .e)) rfl (by kernel_rfl) (DQ underlying9 rfl B ?_);rw[←o];refine Ly (b:=6) (by decide) (M' Ch (by omega) (by omega) ?_);refine G_ Fj (v:=.int .u64 (wd x (b / 64))) (by rw[C.cell,K_,L'];exact T5 x b (by omega)) D ?_;refine DQ underlying9 rfl B ?_;rw[←o];refine IG (b:=63) (K5 l) (K5 (by decide)) ?_;have I:2^(b % 64)<2^64:=YbK (by decide) (by omega);rw[AeW];have n:J' .u64 ((1*2^(b % 64):Nat):Int):=Ke (by omega);refine AhS (a:=1) (by simp[IntKind.bits];omega) n ?_;refine vor (E3 x _) n (M' Ch (by omega) (by omega) ?_);refine Bh d 1 Fj rfl (by simp[Ad];omega) rfl fun H4 g=>?_;(conv=>whnf);rw[P_ i (by omega)];refine⟨rfl,i+1,by simp,⟨by omega,?_⟩,by omega⟩;rw[m,←T6 x b (by omega)];rw[K_,L',YbG]at g;exact g
  ·obtain rfl:i=s.size:=by omega
   rw[List.take_of_length_le (by rw[MN];exact I_ _)]at d;generalize ofB 0#256 (R_ s)=x at*;refine L_ (cs:=Ad x) AT ((d.blk 1 rfl).cells fun j v E=>by rw[K_];exact E) trivial ?_;refine AN (cs:=Ad x) d 0 rfl rfl (I_ _) rfl fun H4 g=>?_;rw[Aw (show(Ad x).length=(Ad 0).length from rfl)]at g;refine L_ (cs:=Ad x) AT ((g.blk 0 rfl).cells fun j v E=>by rw[K_];exact E) trivial ?_;exact⟨rfl,g.old⟩
def IR(x:BitVec 256)(k:Nat):List v_:=(Aj7 256).map fun b=>.bool (decide (b<k)&&x.getLsbD b)
def A9(x:BitVec 256):List v_:=IR x 256
theorem Uj(x:BitVec 256)(k:Nat):(IR x k).length=256:=by simp[IR]
theorem Ui(x:BitVec 256)(k:Nat){b:Nat}(h:b<256):(IR x k)[b]?=some (.bool (decide (b<k)&&x.getLsbD b)):=by
 unfold IR;rw[o_,YaR h];rfl
theorem Pw(x:BitVec 256){b:Nat}(h:b<256):(A9 x)[b]?=some (.bool (x.getLsbD b)):=by
 unfold A9;rw[Ui x 256 h];simp[h]
theorem Au(x:BitVec 256):(A9 x).length=256:=Uj _ _
theorem Px(x:BitVec 256)(k:Nat):(IR x k).all (·.oneCell')=true:=by
 simp[IR,Value.oneCell']
def E9(f:Nat→Bool):List v_:=(Aj7 256).map fun b=>.bool (f b)
theorem DA(f:Nat→Bool):(E9 f).length=256:=by simp[E9]
theorem NY(f:Nat→Bool){b:Nat}(h:b<256):(E9 f)[b]?=some (.bool (f b)):=by
 unfold E9;rw[o_,YaR h];rfl
theorem Eb{f g:Nat→Bool}(h:∀b,b<256→f b=g b):E9 f=E9 g:=by
 unfold E9;exact List.map_congr_left fun b a=>by rw[h b (YaY.1 a)]
end Go.Proofs.YtfbghcpdinlmcaaGreatDoor
namespace Go.VC
section
variable{B:Nat→Prop}{H0 H:Aa}{ps:List Pc}{p:Pc}
theorem B_.apart2(st:B_ B H0 H ps){i j:Nat}{q:Pc}(e:ps[i]?=some p)(f:ps[j]?=some q)(d:i≠j):Dis p q:=by
 have a:=(O_.1 e).1;have b:=(O_.1 f).1;have g:=(O_.1 e).2;have e2:=(O_.1 f).2;intro k l c;rcases Yb6 d with h | h
 ·exact Ya9.1 st.dis i j a b h k (by rw[g];exact l) (by rw[e2];exact c)
 ·exact Ya9.1 st.dis j i b a h k (by rw[e2];exact c) (by rw[g];exact l)
end
section
variable{α β:Type}{Ok:α→Prop}{enc:α→v_}{T:Ty β}{e:x_}{b:Nat}{m:α→Option v_}{xs:α→List β}{B:Nat→Prop}{H0 H:Aa}{ps:List Pc}
end
abbrev I8{α:Type}(_:α):Prop:=True
theorem II.ofE{P:w_}{kt:x_}{d:TypeDesc}{α:Type}{enc:α→v_}(h:P.underlying kt=some d)(c:AfU d enc):II P kt I8 enc where
 inj:=c.inj
 check w em a _:=Go.MapKept.run_checkKey h (c.isKey a) em 9999
 find w a _ es hes:=by
  have f:∀x∈es,Go.MapKept.IsKey d x.key:=fun x k=>by
   obtain⟨b,-,e⟩:=hes x k;rw[e];exact c.isKey b
  rcases Go.MapKept.findNow_spec (c.isKey a) es 0 f with⟨g,i⟩ | ⟨j,e,g,i,l⟩
  ·exact .inl ⟨Go.MapKept.run_findKey h g,i⟩
  ·exact .inr ⟨j,e,by rw[K_]at g;exact Go.MapKept.run_findKey h g,i,l⟩
 stays w a _:=Go.MapKept.run_keyThatStays (c.isKey a)
section
variable{α β:Type}{Ok:α→Prop}{enc:α→v_}{T:Ty β}{e:x_}{b:Nat}{m:α→Option v_}{xs:α→List β}{B:Nat→Prop}{H0 H H':Aa}{ps:List Pc}{P:w_}{t kt et:x_}{a:α}
end
end Go.VC
