/- Parts of the proof: VMore, PIdx, PBits, MDfa, VMapX, PCls, VSplit, PShw1, PShw2, PShw3, PPrt1, PShw4, PNfa1, PSetD, VMapI, PNfa2, VIf, PSort -/
import Derived.Test.YtlnmhfhdjnenoaaGreatDoorKNv1
import Derived.MapKept
import Derived.Laws.BytesArg
import Derived.Laws.Cover1
import Derived.Shelf.Small.Strs
import Derived.Shelf.LaysM
import Derived.DeepKeys3
import Derived.Maps.RangeRun
import Derived.Sort.OwnSortedInts
import Derived.Shelf.Sort.Plain
import Derived.Shelf.Slices.In.SortNone
set_option maxHeartbeats 64000000
open Array renaming getElem?_eq_some_iff → UQ, length_toList → UW, getElem?_modify → Vm, getElem?_setIfInBounds_ne → Vo, getElem?_push → Vv, replicate → V6, getElem?_toList → V9, contains_push → VD, toList_filter → VE
open BitVec renaming ofInt → Ve, toNat_ofNat → Vz, ofInt_natCast → VB, toNat_xor → VO, toNat_not → VP, twoPow → VU
open Bool renaming and_eq_true → UR, not_eq_true' → Vg, or_eq_true → Vp, false_eq_true → Vy
open Int renaming toNat_natCast → VI
open List renaming length_append → UL, range → UM, getElem?_eq_some_iff → UO, length_cons → US, getElem?_eq_none → UT, replicate → UU, toList_toArray → UX, length_nil → UY, eq_nil_of_length_eq_zero → Vb, mem_of_getElem? → Vc, mem_cons → Vd, filter_congr → Vh, getElem?_map → Vi, length_singleton → Vn, length_map → Vq, getElem?_of_mem → Vt, append_nil → Vu, getElem?_range → Vw, mem_range → Vx, pairwise_iff_getElem → V2, getElem?_eq_getElem → V3, length_filter_le → V8, length_replicate → VA, filter_append → VF, pairwise_cons → VG, getElem?_inj → VH, foldl_append → VJ, ext_getElem? → VL, getElem?_set → VM, range'_succ → VQ, filter_map → VR, mem_filter → VS, range_add → VT
open Nat renaming zero_add → UN, le_refl → UP, and_le_right → UV, div_div_eq_div_mul → UZ, mul_one → Va, lt_or_eq_of_le → Vf, zero_le → Vj, reducePow → Vk, testBit_eq_decide_div_mod_eq → Vl, pow_succ → Vr, and_two_pow_sub_one_eq_mod → Vs, reduceMul → V0, mod_two_eq_zero_or_one → V1, mod_eq_of_lt → V4, le_trans → V5, div_lt_iff_lt_mul → V7, le_of_lt_succ → VK, div_eq_of_lt → VN
set_option linter.unusedVariables false
set_option linter.unusedSimpArgs false
set_option maxRecDepth 100000
namespace Go.VC
structure MapT(P:Program)(t kt et:TypeId)(d:TypeDesc)(z:Value):Prop where
 under:P.underlying t=some (.map kt et)
 key:P.underlying kt=some d
 zero:(P.info? et).bind (·.zero)=some z
structure T4(d:TypeDesc){α:Type}(enc:α→Value):Prop where
 isKey:∀a,Go.MapKept.IsKey d (enc a)
 inj:∀a b,enc a=enc b→a=b
theorem U7(k:IntKind):T4 (.int k) (Value.int k):=⟨fun _=>rfl,fun a b h=>by cases h;rfl⟩
def LN{α:Type}(enc:α→Value)(H:Aa)(b:Nat)(m:α→Option Value):Prop:=
 ∃es clock,H[b]? =some (.map es clock)∧Go.MapKept.Stamped es clock∧(∀(i:Nat) (x:MapEntry),es[i]? =some x→∃a,x.key=enc a∧m a=some x.val)∧
  ∀a v,m a=some v→∃(i:Nat) (x:MapEntry),es[i]? =some x∧x.key=enc a∧x.val=v
theorem LN.agr{α:Type}{enc:α→Value}{H H':Aa}{b:Nat}{m:α→Option Value}{S:Nat→Prop}(h:LN enc H b m)(k:Agr S H H')(hb:S b):LN enc H' b m:=by
 obtain⟨es,clock,h1,h2⟩:=h;exact⟨es,clock,(k b hb).trans h1,h2⟩
def P2{α:Type}(enc:α→Value)(H:Aa)(b:Nat)(a:α)(s:Nat):Prop:=
 ∃es clock,H[b]? =some (.map es clock)∧∀(i:Nat) (x:MapEntry),es[i]? =some x→(x.born=s↔x.key=enc a)
open Classical in
noncomputable def put{α:Type}(m:α→Option Value)(a:α)(v:Option Value):α→Option Value:=fun b=>if b=a then v else m b
theorem F9{α:Type}(m:α→Option Value)(a:α)(v:Option Value):put m a v a=v:=if_pos rfl
theorem HI{α:Type}{m:α→Option Value}{a b:α}{v:Option Value}(h:b≠a):put m a v b=m b:=if_neg h
section
variable{α:Type}{enc:α→Value}{P:Program}{t kt et:TypeId}{d:TypeDesc}{z:Value}{S:Nat→Prop}{H:Aa}{b:Nat}{m:α→Option Value}{a:α}
theorem Fq{es:Array MapEntry}{clock:Nat}(h:Go.MapKept.Stamped es clock){i j:Nat}{x y:MapEntry}(hx:es[i]? =some x)(hy:es[j]? =some y)(e:x.key=y.key):i=j:=by
 have hn:=h.2.2;have hx':(es.toList.map (·.key))[i]? =some x.key:=by simp [hx]
 have hy':(es.toList.map (·.key))[j]? =some x.key:=by simp [hy,e]
 exact(VH (UO.1 hx').1 hn).1 (hx'.trans hy'.symm)
theorem Ir{es:Array MapEntry}{clock:Nat}(h:Go.MapKept.Stamped es clock){i j:Nat}{x y:MapEntry}(hx:es[i]? =some x)(hy:es[j]? =some y)(e:x.born=y.born):i=j:=by
 have hn:=h.2.1;have hx':(es.toList.map (·.born))[i]? =some x.born:=by simp [hx]
 have hy':(es.toList.map (·.born))[j]? =some x.born:=by simp [hy,e]
 exact(VH (UO.1 hx').1 hn).1 (hx'.trans hy'.symm)
theorem MV(hz:(P.info? et).bind (·.zero)=some z)(w:World):(zeroValue et).run P w= .ok z w:=by
 cases hi:P.info? et with
 | none=>rw [hi]at hz;cases hz
 | some i=>
   have hz':i.zero=some z:=by simpa [hi]using hz
   simp [zeroValue,typeInfo,hi,hz']
abbrev QB(w:World)(b:Nat)(o:Obj):World:={w with heap:=w.heap.setIfInBounds b o}
theorem M9{w:World}{o o':Obj}(h:w.heap[b]? =some o):(QB w b o').heap[b]? =some o'∧Agr (fun k=>k≠b) w.heap (QB w b o').heap∧(QB w b o').heap.size=w.heap.size:=
 ⟨(Go.MapKept.heap_set h).1,fun k hk=>(Go.MapKept.heap_set h).2 k hk,by simp⟩
theorem Q2{es:Array MapEntry}{clock:Nat}(hs:Go.MapKept.Stamped es clock)(h3:∀(i:Nat) (x:MapEntry),es[i]? =some x→∃a,x.key=enc a∧m a=some x.val)(h4:∀a v,m a=some v→∃(i:Nat) (x:MapEntry),es[i]? =some x∧x.key=enc a∧x.val=v)(hne:∀x∈es.toList,x.key≠enc a){H':Aa}{v:Value}
  (hb:H'[b]? =some (.map (es.push ⟨enc a,v,clock⟩) (clock+1))):LN enc H' b (put m a (some v))∧P2 enc H' b a clock:=by
 have hgt:∀i x,(es.push ⟨enc a,v,clock⟩)[i]? =some x→(i<es.size∧es[i]? =some x)∨(i=es.size∧x=⟨enc a,v,clock⟩):=by
  intro i x hx;rw [Vv]at hx;by_cases hi:i=es.size
  ·rw [if_pos hi]at hx;exact .inr ⟨hi,by cases hx;rfl⟩
  ·rw [if_neg hi]at hx;exact .inl ⟨(UQ.1 hx).1,hx⟩
 refine⟨⟨_,_,hb,Go.MapKept.stamped_push hs hne,fun i x hx=>?_,fun a' v' hv=>?_⟩,_,_,hb,fun i x hx=>?_⟩
 ·rcases hgt i x hx with⟨_,hx⟩ | ⟨_,rfl⟩
  ·obtain⟨a',e1,e2⟩:=h3 i x hx;have:a'≠a:=fun h=>hne x (Vc (by simpa using hx)) (by rw [e1,h]);exact⟨a',e1,by rw [HI this];exact e2⟩
  ·exact⟨a,rfl,F9 _ _ _⟩
 ·by_cases ha:a'=a
  ·subst ha;rw [F9]at hv;cases hv;exact⟨es.size,⟨enc a',v,clock⟩,by simp,rfl,rfl⟩
  ·rw [HI ha]at hv;obtain⟨i,x,hx,e⟩:=h4 a' v' hv;exact⟨i,x,by rw [Vv,if_neg (by have:=(UQ.1 hx).1;omega)];exact hx,e⟩
 ·rcases hgt i x hx with⟨_,hx⟩ | ⟨_,rfl⟩
  ·have hmem:x∈es.toList:=Vc (by simpa using hx);have:=hs.1 x hmem;exact⟨fun h=>by omega,fun h=>absurd h (hne x hmem)⟩
  ·simp
theorem Ud{K:Value→Aa→Prop}(k:∀b H',b=H.size→H'.size=b+1→LN enc H' b (fun _=>none)→Agr (fun k=>k<b) H H'→K (.map (some b)) H'):BQ P (Instr.makeMap t none) H K:=by
 refine BQ.mk fun w hw=>?_;subst hw;exact⟨_,w.alloc (.map #[] 0),by simp [Instr.makeMap],⟨rfl,rfl,rfl⟩,k w.heap.size _ rfl (by rw [EM];simp) ⟨#[],0,by rw [EM];simp,Go.MapKept.stamped_empty 0,by simp,by simp⟩ (Dx _ _)⟩
end
section
variable{α:Type}{enc:α→Value}{b:Nat}{m m':α→Option Value}{B:Nat→Prop}{H0 H H':Aa}{ps:List Pc}
end
open Classical in
noncomputable def upd{α β:Type}(f:α→β)(a:α)(v:β):α→β:=fun b=>if b=a then v else f b
theorem MN{α β:Type}(f:α→β)(a:α)(v:β):upd f a v a=v:=if_pos rfl
theorem QO{α β:Type}{f:α→β}{a b:α}{v:β}(h:b≠a):upd f a v b=f b:=if_neg h
def DR{α:Type}(m:α→Option Value)(a:α):Value:=(m a).getD (.slice none 0 0)
theorem QF{α:Type}(m:α→Option Value)(a:α)(v:Value):DR (put m a (some v)) a=v:=by simp [DR,F9]
theorem RN{α:Type}{m:α→Option Value}{a b:α}{v:Option Value}(h:b≠a):DR (put m a v) b=DR m b:=by simp [DR,HI h]
structure Qs{α β:Type}(enc:α→Value)(T:Ty β)(H:Aa)(lo:Nat)(e:TypeId)(mb:Nat)(m:α→Option Value)(xs:α→List β):Prop where
 map:LN enc H mb m
 lt:mb<lo
 own:∀k,SlO T (fun _=>False) H lo e (DR m k) (xs k)
 apart:∀k k' b,k≠k'→slB (DR m k) b→¬slB (DR m k') b
section
variable{α β:Type}{enc:α→Value}{T:Ty β}{H H1 H2:Aa}{lo mb:Nat}{e:TypeId}{m:α→Option Value}{xs:α→List β}{S':Nat→Prop}
end
theorem QM(a b:ByteArray):(a.toList==b.toList)=decide (a.data.toList=b.data.toList):=by
 rw [ByteArray.toList_eq,ByteArray.toList_eq];by_cases h:a.data.toList=b.data.toList
 ·rw [decide_eq_true h,h];simp
 ·rw [decide_eq_false h];exact Bool.eq_false_iff.2 fun hh=>h (by simpa using hh)
theorem MM{a b:ByteArray}(h:a.data.toList=b.data.toList):a=b:=by
 cases a;cases b;simp_all [Array.toList_inj]
theorem RS(a b:ByteArray):(a.toList==b.toList)=true↔a=b:=by
 rw [QM,decide_eq_true_eq];exact⟨MM,fun h=>by rw [h]⟩
section
variable{α:Type}{T:Ty α}{S S':Nat→Prop}{H H':Aa}{e:TypeId}{v:Value}{xs:List α}
end
section
variable{α:Type}{T:Ty α}{e:TypeId}{a:Option Addr}{n cap:Nat}{xs:List α}{B:Nat→Prop}{H0 H H':Aa}{ps:List Pc}
end
theorem NF{P:Program}{s d e b o n cap:Nat}{H:Aa}{K:Value→Aa→Prop}(bs:List Nat)(hs:P.underlying s=some (.slice e))(he:P.underlying e=some (.int .u8))(hd:P.underlying d=some .string)
  (hc:∀(j x:Nat),bs[j]? =some x→cell H b (o+j)=some (.int .u8 (x:Int))) (hn:n=bs.length) (k:K (.string ⟨(bs.map UInt8.ofNat).toArray⟩) H):BQ P (convert s d (.slice (some ⟨b,o,none⟩) n cap)) H K:=by
 subst hn;refine BQ.mk fun w hw=>?_;subst hw;have:=run_convert_bytes_arg (P:=P) w s e hs he b o bs.length cap (bs.map fun(n:Nat)=>(n:Int)) (by simp) (fun i hi=>by
  rw [Fu,hc i bs[i] (V3 hi)];simp [List.getD,hi]) d hd
 have e1:strOfNums (bs.map fun(n:Nat)=>(n:Int))=⟨(bs.map UInt8.ofNat).toArray⟩:=by
  unfold strOfNums;rw [List.map_map]
  congr 2
 rw [e1]at this;exact⟨_,w,this,Env.refl w,k⟩
def HE(ops:Array Oper):Nat→Nat→Nat→Bool
 | 0,_,_=>false
 | f+1,j,i=>match ops[j]? with
   | none=>false
   | some o=>o.after.toList.any fun e=>Region.binds .any e&&(Nat.beq e.on i|| HE ops f e.on i)
def HS(ops:Array Oper)(listed:Array Bool):Prop:=
 ∀(j:Nat) (o:Oper),ops[j]? =some o→listed.getD j false=true→∀e∈o.after,Region.binds .any e=true→listed.getD e.on false=true
theorem HS.chain{ops:Array Oper}{listed:Array Bool}(h:HS ops listed){i:Nat}:∀(f j:Nat),HE ops f j i=true→(∀(o:Oper),ops[j]? =some o→∀e∈o.after,Region.binds .any e=true→listed.getD e.on false=true)→listed.getD i false=true
 | 0,_,hn,_=>by simp [HE]at hn
 | f+1,j,hn,hd=>by
   unfold HE at hn;split at hn
   ·cases hn
   ·rename_i o ho;obtain⟨e,he,hb⟩:=List.any_eq_true.1 hn;simp only [UR,Vp]at hb;have hl:=hd o ho e (by simpa using he) hb.1;rcases hb.2 with h1 | h1
    ·rw [←Nat.eq_of_beq_eq_true h1];exact hl
    ·exact h.chain f e.on h1 fun o' ho' e' he' hb'=>h e.on o' ho' hl e' he' hb'
theorem HS.not_ready{ops:Array Oper}{listed:Array Bool}(h:HS ops listed){i j f:Nat}(hn:HE ops f j i=true)(hi:listed.getD i false=false):j∉Region.ready .any ops listed:=by
 intro hj;obtain⟨_,o,ho,hall⟩:=mem_ready.1 hj;have:=h.chain f j hn fun o' ho' e he hb=>by rw [ho]at ho';cases ho';exact hall e he hb
 rw [hi]at this;cases this
theorem Qc{l:Array Bool}{i k:Nat}(h:(l.setIfInBounds i true).getD k false=true):k=i∨l.getD k false=true:=by
 by_cases hk:k=i
 ·exact .inl hk
 ·rw [getD_set_ne false (Ne.symm hk)]at h;exact .inr h
theorem HS.put{ops:Array Oper}{listed:Array Bool}(h:HS ops listed){j:Nat}(hj:j∈Region.ready .any ops listed):HS ops (listed.setIfInBounds j true):=by
 intro k o ho hk e he hb;rcases Qc hk with rfl | hk
 ·obtain⟨_,o',ho',hall⟩:=mem_ready.1 hj;rw [ho]at ho';cases ho';exact getD_set_true (hall e he hb)
 ·exact getD_set_true (h k o ho hk e he hb)
def HP(P:Program)(ops:Array Oper)(Q:Exit→Act→World→Prop)(S:World→Prop)(Z:List Nat):Nat→Array Bool→Act→World→Prop
 | 0,listed,a,w=>Region.ready .any ops listed=[]∧Q .normal a w
 | fuel+1,listed,a,w=>
   (Region.ready .any ops listed=[]→Q .normal a w)∧
   ∀i∈Region.ready .any ops listed,wpOp P ops Q i (fun a' w'=>(Z.contains i=false→S w')∧HP P ops Q S Z fuel (listed.setIfInBounds i true) a' w') a w
theorem Gc{P:Program}{ops:Array Oper}{Q:Exit→Act→World→Prop}{S:World→Prop}{Z:List Nat}:∀(fuel:Nat) (listed:Array Bool) (a:Act) (w:World),
  HP P ops Q S Z fuel listed a w→wpAny P .any ops Q fuel listed a w
 | 0,_,_,_,h=>h
 | fuel+1,_,_,_,h=>⟨h.1,fun i hi=>wpOp_mono (fun a' w' h'=>Gc fuel _ a' w' h'.2) (h.2 i hi)⟩
theorem EE{P:Program}{ops:Array Oper}{Q:Exit→Act→World→Prop}{S:World→Prop}{Z:List Nat}{i f:Nat}{oi:Oper}{v:Value}(hi:ops[i]? =some oi)
  (hsel:∀(j:Nat) (o:Oper) cs b,ops[j]? =some o→o.op≠ .select cs b)
  (hQ:∀c a w,Q (.panic c) (a.put oi.dst v) w→Q (.panic c) a w) (hiz:Z.contains i=false) (hz:∀j,Z.contains j=true→HE ops f j i=true):
  ∀(fuel:Nat) (listed:Array Bool) (a:Act) (w:World),HS ops listed→
   (∀j oj,ops[j]? =some oj→j≠i→listed.getD j true=false→(∀e∈oj.after,Region.binds .any e=true→e.on≠i)→oi.apart ops oj=true)→
   i∈Region.ready .any ops listed→YieldsIf P ops S oi v a→S w→
   HP P ops Q S Z fuel (listed.setIfInBounds i true) (a.put oi.dst v) w→HP P ops Q S Z (fuel+1) listed a w:=by
 intro fuel
 induction fuel with
 | zero=>
   intro listed a w _ _ hr hy hS H;refine⟨fun h=>(by rw [h]at hr;cases hr),fun j hj=>?_⟩;by_cases hji:j=i
   ·subst hji;exact hy.wpOp hi hS ⟨fun _=>hS,H⟩
   ·have:=ready_mono hj hji;rw [H.1]at this;cases this
 | succ fuel ih=>
   intro listed a w hsh hfree hr hy hS H;refine⟨fun h=>(by rw [h]at hr;cases hr),fun j hj=>?_⟩;by_cases hji:j=i
   ·subst hji;exact hy.wpOp hi hS ⟨fun _=>hS,H⟩
   ·have h1:=H.2 j (ready_mono hj hji);obtain⟨hjun,oj,hoj,hall⟩:=mem_ready.1 hj;have hun:listed.getD i false=false:=by
     have h0:=(mem_ready.1 hr).1;rcases Nat.lt_or_ge i listed.size with h' | h'
     ·simp [h']at h0 ⊢;exact h0
     ·simp [Array.getElem?_eq_none h']at h0
    have hnot:∀e∈oj.after,Region.binds .any e=true→e.on≠i:=fun e he hb heq=>by
     have h1:=hall e he hb;rw [heq,hun]at h1;cases h1
    have hjz:Z.contains j=false:=by
     cases hc:Z.contains j with
     | false=>rfl
     | true=>exact absurd hj (hsh.not_ready (hz j hc) hun)
    have h2:=wpOp_putIf hoj (hfree j oj hoj hji hjun hnot) (fun cs b=>hsel i oi cs b hi) (fun cs b=>hsel j oj cs b hoj) hQ hy h1;have hfree':∀k ok,ops[k]? =some ok→k≠i→(listed.setIfInBounds j true).getD k true=false→
      (∀e∈ok.after,Region.binds .any e=true→e.on≠i)→oi.apart ops ok=true:=fun k ok hk hki hun hno=>by
     refine hfree k ok hk hki ?_ hno;by_cases hjk:j=k
     ·subst hjk;exact hjun
     ·rw [getD_set_ne true hjk]at hun;exact hun
    refine wpOp_mono (fun a' w' h3=>⟨fun _=>h3.2.1 hjz,ih (listed.setIfInBounds j true) a' w' (hsh.put hj) hfree' (ready_mono hr (Ne.symm hji)) h3.1 (h3.2.1 hjz) ?_⟩) h2;rw [Array.setIfInBounds_comm _ _ hji];exact h3.2.2
def MI(P:Program)(S:Nat→Prop)(Z:List Nat)(H0:Aa)(all:List Oper)(i:Nat)(fr:Fr)(H:Aa)(next:Fr→Aa→Prop):Prop:=
 match all[i]? with
 | none=>False
 | some o=>match o.guard with
   | some _=>False
   | none=>match Z.contains i with
     | true=>opK P false (fun _=>True) o fr H fun v H'=>Cj o.dst fr v fun fr'=>next fr' H'
     | false=>opK P false (fun _=>True) o fr H fun v H'=>Agr S H0 H'∧Cj o.dst fr v fun fr'=>next fr' H'
def heldZ(P:Program)(S:Nat→Prop)(Z:List Nat)(H0:Aa)(all:List Oper)(s:Sch):Fr→Aa→(Fr→Aa→Prop)→Prop:=
 Sch.rec (motive:=fun _=>Fr→Aa→(Fr→Aa→Prop)→Prop) (fun fr H K=>K fr H)
  (fun i _ ih fr H K=>match all[i]? with
   | none=>False
   | some o=>match o.guard with
     | some _=>False
     | none=>match IF o&&Fh P o with
       | true=>Kh P S o fr H fun v=>Cj o.dst fr v fun fr'=>ih fr' H K
       | false=>False)
  (fun i _ ih fr H K=>MI P S Z H0 all i fr H fun fr' H'=>ih fr' H' K)
  (fun i _ j _ ih ih' fr H K=>(MI P S Z H0 all i fr H fun fr' H'=>ih fr' H' K)∧MI P S Z H0 all j fr H fun fr' H'=>ih' fr' H' K) s
theorem R1(P:Program)(S:Nat→Prop)(Z:List Nat)(H0:Aa)(all:List Oper)(i:Nat)(s:Sch)(fr:Fr)(H:Aa)(K:Fr→Aa→Prop):heldZ P S Z H0 all (.q i s) fr H K=
  (match all[i]? with
   | none=>False
   | some o=>match o.guard with
     | some _=>False
     | none=>match IF o&&Fh P o with
       | true=>Kh P S o fr H fun v=>Cj o.dst fr v fun fr'=>heldZ P S Z H0 all s fr' H K
       | false=>False):=rfl
def SM:Sch→Bool
 | .e=>false
 | .q _ _=>true
 | .f _ s=>SM s
 | .b _ s _ s'=>SM s|| SM s'
def MT(Z:List Nat):Sch→Bool
 | .e=>true
 | .q _ _=>false
 | .f i s=>Z.contains i&&MT Z s
 | .b i s j s'=>Z.contains i&&Z.contains j&&MT Z s&&MT Z s'
def Ds(ops:Array Oper)(Z:List Nat):Sch→Array Bool→Bool
 | .e,listed=>(Region.ready .any ops listed).isEmpty
 | .q i s,listed=>(Region.ready .any ops listed).contains i&&Region.free .any ops listed i&& !(Z.contains i)&&(Z.all fun z=>HE ops ops.size z i)&&Ds ops Z s (listed.setIfInBounds i true)
 | .f i s,listed=>Region.ready .any ops listed==[i]&&(!(Z.contains i)|| MT Z s)&&Ds ops Z s (listed.setIfInBounds i true)
 | .b i s j s',listed=>Region.ready .any ops listed==[i,j]&&((!(Z.contains i)&& !(Z.contains j))|| (MT Z s&&MT Z s'))&&Ds ops Z s (listed.setIfInBounds i true)&&Ds ops Z s' (listed.setIfInBounds j true)
theorem GQ{P:Program}{S:Nat→Prop}{Z:List Nat}{w0:World}{all:List Oper}{Q:Exit→Act→World→Prop}{i:Nat}{fr:Fr}{a:Act}{w:World}{next:Fr→Aa→Prop}{N:Act→World→Prop}
  (hat:At fr a) (hc:Env w0 w) (h:MI P S Z w0.heap all i fr w.heap next)
  (hn:∀fr' a' w',At fr' a'→Env w0 w'→(Z.contains i=false→Cls w0 S w')→next fr' w'.heap→N a' w'):wpOp P all.toArray Q i N a w:=by
 unfold MI at h;split at h
 ·exact h.elim
 ·rename_i o ho;have ho':all.toArray[i]? =some o:=by simpa using ho
  split at h
  ·exact h.elim
  ·rename_i hg;have hwant:Region.wanted o (yielded all.toArray a.tmps)=true:=by simp [Region.wanted,hg]
   unfold wpOp;rw [ho'];dsimp only;rw [if_pos hwant];split at h
   ·rename_i hz;refine .inl (Oper.wp_mono ?_ (Co hat h _));rintro a' w' ⟨v,rfl,henv,hk⟩;rw [BF]at hk;exact hn _ _ _ (hat.put o.dst v) (hc.trans henv) (fun hne=>by rw [hz]at hne;cases hne) hk
   ·refine .inl (Oper.wp_mono ?_ (Co hat h _));rintro a' w' ⟨v,rfl,henv,hagr,hk⟩;rw [BF]at hk;exact hn _ _ _ (hat.put o.dst v) (hc.trans henv) (fun _=>⟨hc.trans henv,hagr⟩) hk
theorem Er{P:Program}{S:Nat→Prop}{Z:List Nat}{w0:World}{all:List Oper}{Q:Exit→Act→World→Prop}(hs:Region.noSelect all.toArray=true)
  (hp:∀c a w,¬Q (.panic c) a w):∀(l:Sch) (listed:Array Bool) (fr:Fr) (a:Act) (w:World) (K:Fr→Aa→Prop),At fr a→Env w0 w→(MT Z l=false→Cls w0 S w)→HS all.toArray listed→
  (∀fr' a' w',At fr' a'→Env w0 w'→K fr' w'.heap→Q .normal a' w')→Ds all.toArray Z l listed=true→l.even=true→
  heldZ P S Z w0.heap all l fr w.heap K→HP P all.toArray Q (Cls w0 S) Z l.len listed a w
 | .e,listed,fr,a,w,K,hat,he,_,_,hq,hB,_,h=>⟨by simpa [Ds]using hB,hq fr a w hat he h⟩
 | .q i s,listed,fr,a,w,K,hat,he,hc,hsh,hq,hB,hev,h=>by
   have hc:=hc rfl;simp only [Ds,UR,Vg,List.all_eq_true]at hB;obtain⟨⟨⟨⟨b1,b2⟩,b3⟩,b4⟩,hB2⟩:=hB;rw [R1]at h;split at h
   ·exact h.elim
   ·rename_i o ho;have ho':all.toArray[i]? =some o:=by simpa using ho
    have hri:i∈Region.ready .any all.toArray listed:=by simpa using b1
    split at h
    ·exact h.elim
    ·rename_i hg;have hwant:Region.wanted o (yielded all.toArray a.tmps)=true:=by simp [Region.wanted,hg]
     split at h
     ·obtain⟨v,hv,hk⟩:=DW h;rw [BF]at hk;refine EE (v:=v) (f:=all.toArray.size) ho' (Region.noSelect_spec hs) (fun c a' w' hh=>(hp _ _ _ hh).elim) b3 (fun j hj=>b4 j (by simpa using hj)) s.len listed a w hsh (Region.free_spec ho' b2) hri
       (.inl ⟨hwant,fun w' hw'=>?_⟩) hc ?_
      ·rw [hat.evalF];exact hv w' fun k hk=>(hw'.2 k hk).trans (hc.2 k hk).symm
      ·exact Er hs hp s _ _ _ w K (hat.put o.dst v) he (fun _=>hc) (hsh.put hri) hq hB2 hev hk
     ·exact h.elim
 | .f i s,listed,fr,a,w,K,hat,he,hc,hsh,hq,hB,hev,h=>by
   simp only [Ds,UR,Vp,Vg,beq_iff_eq]at hB;obtain⟨⟨b1,b2⟩,hB2⟩:=hB;refine⟨(fun h0=>by rw [b1]at h0;cases h0),fun j hj=>?_⟩;have hj0:=hj;rw [b1]at hj;obtain rfl:j=i:=by simpa using hj
   refine GQ hat he h fun fr' a' w' h1 h2 h3 h4=>⟨h3,Er hs hp s _ _ _ w' K h1 h2 (fun hz=>?_) (hsh.put hj0) hq hB2 hev h4⟩;rcases b2 with b2 | b2
   ·exact h3 b2
   ·rw [b2]at hz;cases hz
 | .b i s j s',listed,fr,a,w,K,hat,he,hc,hsh,hq,hB,hev,h=>by
   simp only [Ds,UR,Vp,Vg,beq_iff_eq]at hB;obtain⟨⟨⟨b1,b2⟩,hB2⟩,hB3⟩:=hB;simp only [Sch.even,UR,beq_iff_eq]at hev;obtain⟨⟨e1,e2⟩,e3⟩:=hev;refine⟨(fun h0=>by rw [b1]at h0;cases h0),fun k hk=>?_⟩;have hk0:=hk;rw [b1]at hk;rcases Vd.1 hk with rfl | hk
   ·refine GQ hat he h.1 fun fr' a' w' h1 h2 h3 h4=>⟨h3,Er hs hp s _ _ _ w' K h1 h2 (fun hz=>?_) (hsh.put hk0) hq hB2 e1 h4⟩;rcases b2 with b2 | b2
    ·exact h3 b2.1
    ·rw [b2.1]at hz;cases hz
   ·obtain rfl:k=j:=by simpa using hk
    rw [e3];refine GQ hat he h.2 fun fr' a' w' h1 h2 h3 h4=>⟨h3,Er hs hp s' _ _ _ w' K h1 h2 (fun hz=>?_) (hsh.put hk0) hq hB3 e2 h4⟩;rcases b2 with b2 | b2
    ·exact h3 b2.2
    ·rw [b2.2]at hz;cases hz
theorem As.heldZ{P:Program}{l:List Oper}{fr:Fr}{H:Aa}{K:Fr→Aa→Prop}(S:Nat→Prop)(Z:List Nat)(sched:Sch)(hm:P.follows .mixedOrders=true)
  (hB:(Region.noSelect l.toArray&&(sched.len==l.length)&&sched.even&&Ds l.toArray Z sched (V6 l.length false))=true)
  (h:VC.heldZ P S Z H l sched fr H K):As P l fr H K:=by
 refine⟨?_⟩;intro id Q a w hat hw hp hq;subst hw;simp only [UR,beq_iff_eq]at hB;refine wp_region_any hm (Gc (S:=Cls w S) (Z:=Z) _ _ _ _ ?_);have hsh:HS l.toArray (V6 l.length false):=fun j o _ hj=>by
  rw [Array.getD_eq_getD_getElem?,Array.getElem?_replicate]at hj;split at hj<;>simp at hj
 have:=Er (P:=P) (S:=S) (Z:=Z) (w0:=w) (Q:=Q) hB.1.1.1 hp sched (V6 l.length false) fr a {w with drawn:=w.drawn+1} K hat ⟨rfl,rfl,rfl⟩ (fun _=>⟨⟨rfl,rfl,rfl⟩,Agr.refl _ _⟩) hsh hq hB.2 hB.1.2 h;rw [hB.1.1.2]at this;simpa using this
section
variable{α:Type}{T:Ty α}{B:Nat→Prop}{H0 H H1:Aa}{ps:List Pc}{e te:TypeId}{nb:Nat}{vs:List Value}{xs:List (List α)}
end
end Go.VC
namespace Go.Proofs.YtlnmhfhdjnenoaaGreatDoor
open Go.Shelf Go.Proofs Go.VC
def Mq:Go.Shelf.Ren:=⟨fun | 137=>107 | 217=>123 | 266=>134 | n=>n,fun | 9=>9 | 5=>5 | 3=>3 | n=>n,fun | n=>n⟩
theorem R6:Go.Proofs.Lays.n137 Tryz.prog Mq:={
 mixed:=by kernel_rfl
 f137:=Tryz.func107.trans (congrArg some (by kernel_rfl))
 f217:=Tryz.func123.trans (congrArg some (by kernel_rfl))
 f266:=Tryz.func134.trans (congrArg some (by kernel_rfl))
 t3:=Tryz.underlying3
 a3:=Tryz.isAgg3
 z3:=Tryz.sizeOf3
 v3:=Tryz.zeroValue3
 t5:=Tryz.underlying5
 a5:=Tryz.isAgg5
 z5:=Tryz.sizeOf5
 v5:=Tryz.zeroValue5
 t9:=Tryz.underlying9
 a9:=Tryz.isAgg9
 z9:=Tryz.sizeOf9
 v9:=Tryz.zeroValue9}
open Go.RowKit in
theorem strings_IndexByte(s:ByteArray)(c:Int)(w:World):
  Calls Tryz.prog 107 #[.string s,.int .u8 c] w fun e w'=>e= .returned (.int .i64 (Lib.indexByte s.data.toList c.toNat.toUInt8))∧w'=w:=Any.strings_IndexByte R6 s c w
open Go.Lib in
theorem Jr(s:ByteArray)(c:Nat)(H:Aa):Bv Tryz.prog 107 #[.string s,.int .u8 (c:Int)] H (.int .i64 (indexByte s.data.toList (UInt8.ofNat c))):=by
 intro w hw;refine⟨Tryz.call107 _ w,?_⟩;refine(strings_IndexByte s (c:Int) w).mono ?_;rintro _ _ ⟨rfl,rfl⟩;exact⟨_,rfl,Env.refl _,rfl,by subst hw;exact Agr.refl _ _⟩
end Go.Proofs.YtlnmhfhdjnenoaaGreatDoor
namespace Go.VC
theorem Ur{P:Program}{ats:Array TypeId}{t:TypeId}{k k':IntKind}{a b:Int}{S:Nat→Prop}{H:Aa}{K:Value→Prop}(h:K (.int k (if b<a then b else a))):AB P (Builtin.min_ ats t [.int k a,.int k' b].toArray) S H K:=by
 refine AB.mk _ (fun w _=>?_) h;simp [Builtin.min_,Builtin.min2]
theorem Uq{P:Program}{ats:Array TypeId}{t:TypeId}{k k':IntKind}{a b:Int}{S:Nat→Prop}{H:Aa}{K:Value→Prop}(h:K (.int k (if a<b then b else a))):AB P (Builtin.max_ ats t [.int k a,.int k' b].toArray) S H K:=by
 refine AB.mk _ (fun w _=>?_) h;simp [Builtin.max_,Builtin.max2]
theorem Tz(n:Nat):IntKind.wrap .u64 (n:Int)=((n % 18446744073709551616:Nat):Int):=by
 unfold IntKind.wrap;simp only [IntKind.bits,IntKind.signed,Bool.false_and,Vy,if_false,Vk,Int.reducePow];omega
theorem IC{x y:Nat}(h:x+y<18446744073709551616):IntKind.wrap .u64 ((x:Int)+(y:Int))=((x+y:Nat):Int):=by
 rw [←Int.natCast_add,Tz,V4 h]
theorem Tx{n:Nat}(h:n<9223372036854775808):IntKind.wrap .i64 (n:Int)=(n:Int):=w64 (by omega) (by omega)
end Go.VC
namespace Go.Proofs.YtlnmhfhdjnenoaaGreatDoor
open Go.VC
theorem Fx{a c x y:Nat}(ha:a<256)(hc:c<256):(a+256*x) &&& (c+256*y)=(a &&& c)+256*(x &&& y):=by
 have h1:((a+256*x) &&& (c+256*y)) % 2 ^ 8=(a &&& c):=by rw [Nat.and_mod_two_pow,show(a+256*x) % 2 ^ 8=a by omega,show(c+256*y) % 2 ^ 8=c by omega]
 have h2:((a+256*x) &&& (c+256*y)) / 2 ^ 8=(x &&& y):=by rw [Nat.and_div_two_pow,show(a+256*x) / 2 ^ 8=x by omega,show(c+256*y) / 2 ^ 8=y by omega]
 omega
def mk_(c:Nat):Nat→Nat
 | 0=>0
 | m+1=>c+256*mk_ c m
theorem L2(c m:Nat):mk_ c (m+1)=c+256*mk_ c m:=rfl
def sw1(m w:Nat):Nat:=((w / 2) &&& mk_ 85 m)+(w &&& mk_ 85 m)
def sw2(m w:Nat):Nat:=((w / 4) &&& mk_ 51 m)+(w &&& mk_ 51 m)
def sw3(m w:Nat):Nat:=(w / 16+w) &&& mk_ 15 m
def pc8(a:Nat):Nat:=((UM 8).filter fun j=>a.testBit j).length
def Gh(m w:Nat):Nat:=((UM m).filter fun j=>w.testBit j).length
def g1(a:Nat):Nat:=((a / 2) &&& 85)+(a &&& 85)
def g2(a:Nat):Nat:=((a / 4) &&& 51)+(a &&& 51)
theorem Sr:∀a,a<256→g1 a<256:=by decide+kernel
theorem TT:∀a,a<256→∀r,r<2→((a / 2+128*r) &&& 85)=((a / 2) &&& 85):=by decide+kernel
theorem TU:∀a,a<256→∀r,r<4→((a / 4+64*r) &&& 51)=((a / 4) &&& 51):=by decide+kernel
theorem Ss:∀a,a<256→g2 a<256∧(g2 (g1 a)) % 16≤4∧g2 (g1 a) / 16≤4:=by decide+kernel
theorem TV:∀a,a<256→∀r,r<5→((g2 (g1 a) / 16+16*r+g2 (g1 a)) &&& 15)=pc8 a:=by decide+kernel
theorem GH:∀a,a<256→pc8 a≤8:=by decide+kernel
theorem KK{m a b:Nat}(ha:a<256):sw1 (m+1) (a+256*b)=g1 a+256*sw1 m b:=by
 unfold sw1;rw [L2];have e:(a+256*b) / 2=(a / 2+128*(b % 2))+256*(b / 2):=by omega
 rw [e,Fx (by omega) (by decide),Fx ha (by decide),TT a ha _ (by omega)];unfold g1;omega
theorem KL{m a b:Nat}(ha:a<256):sw2 (m+1) (a+256*b)=g2 a+256*sw2 m b:=by
 unfold sw2;rw [L2];have e:(a+256*b) / 4=(a / 4+64*(b % 4))+256*(b / 4):=by omega
 rw [e,Fx (by omega) (by decide),Fx ha (by decide),TU a ha _ (by omega)];unfold g2;omega
theorem Tp(m b:Nat)(hb:b<256 ^ m):sw2 m (sw1 m b) % 16≤4:=by
 cases m with
 | zero=>
   obtain rfl:b=0:=by simp at hb;omega
   decide
 | succ m=>
   have e:b=b % 256+256*(b / 256):=by omega
   rw [e,KK (by omega),KL (Sr _ (by omega))];have:=(Ss (b % 256) (by omega)).2.1;omega
theorem QL{m a b:Nat}(ha:a<256)(hb:b<256 ^ m):sw3 (m+1) (sw2 (m+1) (sw1 (m+1) (a+256*b)))=pc8 a+256*sw3 m (sw2 m (sw1 m b)):=by
 rw [KK ha,KL (Sr a ha)];have hl:=Tp m b hb;have hg:=Ss a ha;generalize sw2 m (sw1 m b)=x at*;unfold sw3;rw [L2];have e:(g2 (g1 a)+256*x) / 16+(g2 (g1 a)+256*x)=(g2 (g1 a) / 16+16*(x % 16)+g2 (g1 a))+256*(x / 16+x):=by omega
 rw [e,Fx (by omega) (by decide),TV a ha _ (by omega)]
theorem Nz(m w:Nat):Gh (8+m) w=pc8 (w % 256)+Gh m (w / 256):=by
 unfold Gh pc8;rw [VT,VF,UL,VR,Vq]
 congr 1
 ·congr 1
  refine Vh fun j hj=>?_;rw [Vx]at hj;rw [show(256:Nat)=2 ^ 8 from rfl,Nat.testBit_mod_two_pow];simp [hj]
 ·congr 1
  refine Vh fun j _=>?_;simp only [Function.comp];rw [show(256:Nat)=2 ^ 8 from rfl,Nat.testBit_div_two_pow,Nat.add_comm]
def p8(w i:Nat):Nat:=pc8 (w / 256 ^ i % 256)
theorem Tn(w:Nat)(hw:w<18446744073709551616):sw3 8 (sw2 8 (sw1 8 w))=p8 w 0+256*(p8 w 1+256*(p8 w 2+256*(p8 w 3+256*(p8 w 4+256*(p8 w 5+256*(p8 w 6+256*p8 w 7))))))∧
  Gh 64 w=p8 w 0+(p8 w 1+(p8 w 2+(p8 w 3+(p8 w 4+(p8 w 5+(p8 w 6+p8 w 7)))))):=by
 have st:∀(m w i:Nat),w / 256 ^ i<256 ^ (m+1)→sw3 (m+1) (sw2 (m+1) (sw1 (m+1) (w / 256 ^ i)))=p8 w i+256*sw3 m (sw2 m (sw1 m (w / 256 ^ (i+1)))):=by
  intro m w i h;have e:w / 256 ^ i=w / 256 ^ i % 256+256*(w / 256 ^ (i+1)):=by rw [Vr,←UZ];omega
  have h2:w / 256 ^ (i+1)<256 ^ m:=by
   rw [Vr,←UZ,V7 (by decide)];rw [Vr]at h;exact h
  conv=>lhs;rw [e]
  rw [QL (by omega) h2];rfl
 have sp:∀(m i:Nat),Gh (8+m) (w / 256 ^ i)=p8 w i+Gh m (w / 256 ^ (i+1)):=by
  intro m i;rw [Nz,Vr,←UZ];rfl
 have h0:w=w / 256 ^ 0:=by simp
 have hz:sw3 0 (sw2 0 (sw1 0 (w / 256 ^ 8)))=0:=by
  rw [VN (by simpa using hw)];decide
 have bd:∀i,i≤8→w / 256 ^ i<256 ^ (8 - i):=by
  intro i hi;rw [V7 (Nat.pow_pos (by decide)),←Nat.pow_add,show 8 - i+i=8 by omega];simpa using hw
 constructor
 ·conv=>lhs;rw [h0]
  rw [st 7 w 0 (bd 0 (by omega)),st 6 w 1 (bd 1 (by omega)),st 5 w 2 (bd 2 (by omega)),st 4 w 3 (bd 3 (by omega)),st 3 w 4 (bd 4 (by omega)),st 2 w 5 (bd 5 (by omega)),st 1 w 6 (bd 6 (by omega)),st 0 w 7 (bd 7 (by omega)),hz];omega
 ·conv=>lhs;rw [h0]
  rw [show(64:Nat)=8+56 from rfl,sp 56 0,show(56:Nat)=8+48 from rfl,sp 48 1,show(48:Nat)=8+40 from rfl,sp 40 2,show(40:Nat)=8+32 from rfl,sp 32 3,show(32:Nat)=8+24 from rfl,sp 24 4,show(24:Nat)=8+16 from rfl,sp 16 5,
   show(16:Nat)=8+8 from rfl,sp 8 6,show(8:Nat)=8+0 from rfl,sp 0 7]
  rfl
theorem SZ(w:Nat)(hw:w<18446744073709551616)(H:Aa):Bv Tryz.prog 106 #[.int .u64 (w:Int)] H (.int .i64 (Gh 64 w:Int)):=by
 obtain⟨hs,hp⟩:=Tn w hw;have b0:=GH (w / 256 ^ 0 % 256) (by omega);have b1:=GH (w / 256 ^ 1 % 256) (by omega);have b2:=GH (w / 256 ^ 2 % 256) (by omega);have b3:=GH (w / 256 ^ 3 % 256) (by omega);have b4:=GH (w / 256 ^ 4 % 256) (by omega);have b5:=GH (w / 256 ^ 5 % 256) (by omega);have b6:=GH (w / 256 ^ 6 % 256) (by omega);have b7:=GH (w / 256 ^ 7 % 256) (by omega);change p8 w 0≤8 at b0;change p8 w 1≤8 at b1;change p8 w 2≤8 at b2;change p8 w 3≤8 at b3;change p8 w 4≤8 at b4;change p8 w 5≤8 at b5;change p8 w 6≤8 at b6;change p8 w 7≤8 at b7;have m1:mk_ 85 8=6148914691236517205:=by decide
 have m2:mk_ 51 8=3689348814741910323:=by decide
 have m3:mk_ 15 8=1085102592571150095:=by decide
 have i1:inK .u64 ((6148914691236517205:Nat):Int):=Fk (by decide);have i2:inK .u64 ((3689348814741910323:Nat):Int):=Fk (by decide);have i3:inK .u64 ((1085102592571150095:Nat):Int):=Fk (by decide);refine Ao.of_vc Tryz.func106 rfl (Tryz.call106 _) ?_;have l1:((w / 2 ^ 1) &&& 6148914691236517205)+(w &&& 6148914691236517205)<18446744073709551616:=by
  have:=UV (n:=w / 2 ^ 1) (m:=6148914691236517205);have:=UV (n:=w) (m:=6148914691236517205);omega
 refine Hl (a:=w) (b:=1) (by decide) (It (a:=w / 2 ^ 1) (b:=6148914691236517205) (Fk (by omega)) i1 (It (a:=w) (b:=6148914691236517205) (Fk hw) i1 ?_));(conv=>whnf);rw [IC l1];have e1:((w / 2 ^ 1) &&& 6148914691236517205)+(w &&& 6148914691236517205)=sw1 8 w:=by unfold sw1;rw [m1]
 rw [e1]at l1 ⊢;generalize sw1 8 w=x1 at*;have l2:((x1 / 2 ^ 2) &&& 3689348814741910323)+(x1 &&& 3689348814741910323)<18446744073709551616:=by
  have:=UV (n:=x1 / 2 ^ 2) (m:=3689348814741910323);have:=UV (n:=x1) (m:=3689348814741910323);omega
 refine Hl (a:=x1) (b:=2) (by decide) (It (a:=x1 / 2 ^ 2) (b:=3689348814741910323) (Fk (by omega)) i2 (It (a:=x1) (b:=3689348814741910323) (Fk l1) i2 ?_));(conv=>whnf);rw [IC l2];have e2:((x1 / 2 ^ 2) &&& 3689348814741910323)+(x1 &&& 3689348814741910323)=sw2 8 x1:=by unfold sw2;rw [m2]
 have l2':((x1 / 2 ^ 2) &&& 3689348814741910323)+(x1 &&& 3689348814741910323)≤7378697629483820646:=by
  have:=UV (n:=x1 / 2 ^ 2) (m:=3689348814741910323);have:=UV (n:=x1) (m:=3689348814741910323);omega
 rw [e2]at l2 l2' ⊢;generalize sw2 8 x1=x2 at*;refine Hl (a:=x2) (b:=4) (by decide) ?_;(conv=>whnf);rw [IC (x:=x2 / 2 ^ 4) (y:=x2) (by omega)];refine It (a:=x2 / 2 ^ 4+x2) (b:=1085102592571150095) (Fk (by omega)) i3 ?_;have e3:((x2 / 2 ^ 4+x2) &&& 1085102592571150095)=sw3 8 x2:=by unfold sw3;rw [m3]
 rw [e3];generalize sw3 8 x2=x3 at*;generalize p8 w 0=q0 at*;generalize p8 w 1=q1 at*;generalize p8 w 2=q2 at*;generalize p8 w 3=q3 at*;generalize p8 w 4=q4 at*;generalize p8 w 5=q5 at*;generalize p8 w 6=q6 at*;generalize p8 w 7=q7 at*;have lx:x3<1152921504606846976:=by omega
 refine Hl (a:=x3) (b:=8) (by decide) ?_;(conv=>whnf);rw [IC (x:=x3) (y:=x3 / 2 ^ 8) (by omega)];refine Hl (a:=x3+x3 / 2 ^ 8) (b:=16) (by decide) ?_;(conv=>whnf);rw [IC (x:=x3+x3 / 2 ^ 8) (y:=(x3+x3 / 2 ^ 8) / 2 ^ 16) (by omega)];obtain⟨y,hy⟩:∃y,y=x3+x3 / 2 ^ 8:=⟨_,rfl⟩;rw [←hy];obtain⟨z,hz⟩:∃z,z=y+y / 2 ^ 16:=⟨_,rfl⟩;rw [←hz];refine Hl (a:=z) (b:=32) (by decide) ?_;(conv=>whnf);rw [IC (x:=z) (y:=z / 2 ^ 32) (by omega)];obtain⟨u,hu⟩:∃u,u=z+z / 2 ^ 32:=⟨_,rfl⟩;rw [←hu];(conv=>whnf);rw [Tx (n:=u) (by omega)];refine It (a:=u) (b:=127) (BB (by omega)) (BB (by decide)) ?_;(conv=>whnf);have hand:(u &&& 127)=Gh 64 w:=by
  rw [show(127:Nat)=2 ^ 7 - 1 by decide,Vs,hp];have k1:x3 / 2 ^ 8=q1+256*(q2+256*(q3+256*(q4+256*(q5+256*(q6+256*q7))))):=by omega
  have k2:y / 2 ^ 16=(q2+q3)+256*((q3+q4)+256*((q4+q5)+256*((q5+q6)+256*((q6+q7)+256*q7)))):=by rw [hy,k1,hs];clear hu hz hy k1 hs;omega
  have k3:z / 2 ^ 32=(q4+q5+q6+q7)+256*((q5+q6+q7)+256*((q6+q7)+256*q7)):=by rw [hz,k2,hy,k1,hs];clear hu hz hy k1 k2 hs;omega
  rw [hu,k3,hz,k2,hy,k1,hs];clear hu hz hy k1 k2 k3 hs;omega
 rw [hand];exact⟨rfl,Agr.refl _ _⟩
def Bp(s:BitVec 256):Nat:=((UM 256).filter fun b=>s.getLsbD b).length
theorem Me(s:BitVec 256):Bp s=Gh 64 (wd s 0)+(Gh 64 (wd s 1)+(Gh 64 (wd s 2)+Gh 64 (wd s 3))):=by
 have one:∀i m,((UM (64+m)).filter fun j=>s.getLsbD (64*i+j)).length=Gh 64 (wd s i)+((UM m).filter fun j=>s.getLsbD (64*(i+1)+j)).length:=by
  intro i m;rw [VT,VF,UL,VR,Vq]
  congr 1
  ·unfold Gh
   congr 1
   refine Vh fun j hj=>?_;rw [Vx]at hj;rw [D5 s i j hj]
  ·congr 1
   refine Vh fun j _=>?_;simp only [Function.comp];rw [show 64*i+(64+j)=64*(i+1)+j by omega]
 have h0:Bp s=((UM (64+192)).filter fun j=>s.getLsbD (64*0+j)).length:=by
  unfold Bp;simp only [Nat.mul_zero,UN,Nat.reduceAdd]
 rw [h0,one 0 192,show(192:Nat)=64+128 from rfl,one 1 128,show(128:Nat)=64+64 from rfl,one 2 64,show(64:Nat)=64+0 from rfl,one 3 0]
 first | done | rfl
theorem O0(m w:Nat):Gh m w≤m:=by
 unfold Gh;exact V5 (V8 _ _) (by simp)
def Hu(s:BitVec 256):Nat→Nat
 | 0=>0
 | i+1=>Hu s i+Gh 64 (wd s i)
theorem Kw(s:BitVec 256):∀i,Hu s i≤64*i
 | 0=>UP _
 | i+1=>by have:=Kw s i;have:=O0 64 (wd s i);simp only [Hu];omega
theorem Rl(s:BitVec 256)(H:Aa):Bv Tryz.prog 91 #[BT s] H (.int .i64 (Bp s:Int)):=by
 refine Ao.of_vc Tryz.func91 rfl (Tryz.call91 _) (BM (Ak s) rfl ?_);intro pb H1 hpb hs1 hb1 ha1;have hA1:Agr (Old H) H H1:=ha1.mono fun j hj=>by unfold Old at hj;omega
 refine ldN (cs:=Ak s) B0 (hb1.cells fun j v hv=>by rw [UN];exact hv) trivial ?_;(conv=>whnf);refine AH.mk [3,7] (fun i:Nat=>[.int .i64 (Hu s i:Int),.int .i64 i]) (fun i H2=>i≤4∧Agr (Old H) H H2) (fun i _=>4 - i) ?_ ?_
 ·(conv=>whnf);exact⟨0,rfl,by omega,hA1⟩
 ·rintro i H2 junk ⟨hi,ha2⟩;refine AQ.mk (fun h=>?_) (fun h=>?_)<;>simp only [decide_eq_true_eq,decide_eq_false_iff_not]at h
  ·have hget:(Ak s)[i]? =some (.int .u64 (wd s i)):=by
    have:i=0∨i=1∨i=2∨i=3:=by omega
    rcases this with rfl | rfl | rfl | rfl<;>rfl
   have hle:=Kw s i;have hpl:=O0 64 (wd s i);refine U6 (v:=.int .u64 (wd s i)) Dm ES (by omega) (by omega) (by rw [VI,Va];simpa using hget) ?_;refine Af (SZ (wd s i) (FE s i) H2) fun H3 ha3=>?_;(conv=>whnf);rw [w64 (x:=(Hu s i:Int)+(Gh 64 (wd s i):Int)) (by omega) (by omega)];(conv=>whnf);rw [w64 (x:=(i:Int)+1) (by omega) (by omega)];exact⟨rfl,i+1,by simp [Hu],⟨by omega,ha2.trans (ha3.mono fun k hk=>A0 ha2 hk)⟩,by omega⟩
  ·obtain rfl:i=4:=by omega
   (conv=>whnf);refine⟨?_,ha2⟩;rw [Me];simp only [Hu]
   congr 2
   omega
def Et(s:BitVec 256)(n:Nat):Nat×Bool:=match(UM 256).find? fun b=>decide (n≤b)&&s.getLsbD b with
 | some b=>(b,true)
 | none=>(0,false)
theorem Qn(s:BitVec 256)(n:Nat):(Et s n).1<256:=by
 unfold Et;split
 ·rename_i b h;have:=List.mem_of_find?_eq_some h;simpa using this
 ·decide
theorem SY(s:BitVec 256)(n:Nat)(hn:n≤256)(H:Aa):Bv Tryz.prog 92 #[BT s,.int .i64 n] H (.tuple #[.int .u8 ((Et s n).1:Int),.bool (Et s n).2]):=by
 refine Ao.of_vc Tryz.func92 rfl (Tryz.call92 _) (BM (Ak s) rfl ?_);intro pb H1 hpb hs1 hb1 ha1;have st1:=(St.nil H).box hpb hs1 hb1 ha1;refine Uq ?_;rw [if_neg (by omega)];(conv=>whnf);refine AH.mk [4,5,6] (fun k:Nat=>[.int .u8 0,.bool false,.int .i64 k]) (fun k H2=>n≤k∧k≤256∧(∀j,n≤j→j<k→s.getLsbD j=false)∧St H H2 [pB 102 pb (Ak s)]) (fun k _=>256 - k) ?_ ?_
 ·(conv=>whnf);exact⟨n,rfl,UP _,hn,fun j h1 h2=>by omega,st1⟩
 ·rintro k H2 junk ⟨hnk,hk,hno,st⟩;refine AQ.mk (fun h=>?_) (fun h=>?_)<;>simp only [decide_eq_true_eq,decide_eq_false_iff_not]at h
  ·have hk8:k<256:=by omega
   refine ldN (cs:=Ak s) B0 ((st.blk 0 rfl).cells fun j v hv=>by rw [UN];exact hv) trivial ?_;(conv=>whnf);rw [w8 (x:=(k:Int)) (by omega) (by omega)];refine Af (Ol s k hk8 H2) fun H3 ha3=>?_;have st3:=st.call ha3;cases hb:s.getLsbD k with
   | true=>
     (conv=>whnf);rw [w8 (x:=(k:Int)) (by omega) (by omega)];(conv=>whnf);have hf:((UM 256).find? fun b=>decide (n≤b)&&s.getLsbD b)=some k:=by
      rw [List.find?_range_eq_some];refine⟨by simp [hnk,hb],by simpa using hk8,fun j hj=>?_⟩;by_cases hnj:n≤j
      ·simp [hno j hnj hj]
      ·simp [hnj]
     refine⟨?_,st3.old⟩;unfold Et;rw [hf];first | done | rfl
   | false=>
     (conv=>whnf);rw [w64 (x:=(k:Int)+1) (by omega) (by omega)];refine⟨rfl,k+1,by simp,⟨by omega,by omega,fun j h1 h2=>?_,st3⟩,by omega⟩;by_cases hjk:j=k
     ·subst hjk;exact hb
     ·exact hno j h1 (by omega)
  ·obtain rfl:k=256:=by omega
   (conv=>whnf);have hf:((UM 256).find? fun b=>decide (n≤b)&&s.getLsbD b)=none:=by
    rw [List.find?_range_eq_none];intro j hj;by_cases hnj:n≤j
    ·simp [hno j hnj (by simpa using hj)]
    ·simp [hnj]
   refine⟨?_,st.old⟩;unfold Et;rw [hf];first | done | rfl
end Go.Proofs.YtlnmhfhdjnenoaaGreatDoor
namespace Go.Proofs.YtlnmhfhdjnenoaaGreatDoor
theorem Bd{α:Type}{l:List α}{k:Nat}{x:α}(h:l[k]? =some x):l.take (k+1)=l.take k++[x]:=by
 rw [List.take_add_one,h];rfl
theorem Bw{α:Type}{l:List α}{k:Nat}(h:k<l.length):∃x,l[k]? =some x:=⟨l[k],V3 h⟩
structure MS where
 cols:List Nat
 sets:List (BitVec 256)
 cell:List Nat
structure MOk(m b:Nat)(st:MS):Prop where
 len:st.cols.length=st.sets.length
 le:st.cols.length≤b
 cell:st.cell.length=b
 cols:∀c∈st.cols,c<m
 places:∀p∈st.cell,p<st.cols.length
end Go.Proofs.YtlnmhfhdjnenoaaGreatDoor
namespace Go.VC
structure HR(P:Program)(t kt et:TypeId)(z:Value):Prop where
 under:P.underlying t=some (.map kt et)
 zero:(P.info? et).bind (·.zero)=some z
structure Kd(P:Program)(kt:TypeId){α:Type}(Ok:α→Prop)(enc:α→Value):Prop where
 inj:∀a b,enc a=enc b→a=b
 check:∀(w:World) (em:Bool) (a:α),Ok a→(Instr.checkKey em 10000 kt (enc a)).run P w= .ok () w
 find:∀(w:World) (a:α),Ok a→∀es:List MapEntry,(∀e∈es,∃b,Ok b∧e.key=enc b)→
  ((Instr.findKey kt (enc a) es).run P w= .ok none w∧∀e∈es,e.key≠enc a)∨∃j e,(Instr.findKey kt (enc a) es).run P w= .ok (some (j,e.val)) w∧es[j]? =some e∧e.key=enc a
 stays:∀(w:World) (a:α),Ok a→(Instr.keyThatStays (enc a) (enc a)).run P w= .ok (enc a) w
def Gm{α:Type}(Ok:α→Prop)(enc:α→Value)(H:Aa)(b:Nat)(m:α→Option Value):Prop:=LN enc H b m∧∀a v,m a=some v→Ok a
def TA{α:Type}(Ok:α→Prop)(enc:α→Value)(H:Aa)(K:Aa→Prop)(b:Nat)(m:α→Option Value):Prop:=
 ∀H',Gm Ok enc H' b m→Agr (fun k=>k≠b) H H'→H'.size=H.size→K H'
section
variable{α:Type}{Ok:α→Prop}{enc:α→Value}{P:Program}{t kt et:TypeId}{z:Value}{S:Nat→Prop}{H:Aa}{b:Nat}{m:α→Option Value}{a:α}
theorem Gm.agr{H':Aa}(h:Gm Ok enc H b m)(k:Agr S H H')(hb:S b):Gm Ok enc H' b m:=⟨h.1.agr k hb,h.2⟩
theorem Q3(h:∀a v,m a=some v→Ok a)(ha:Ok a)(v:Value):∀b u,put m a (some v) b=some u→Ok b:=fun b u hb=>by
 by_cases hba:b=a
 ·rw [hba];exact ha
 ·rw [HI hba]at hb;exact h b u hb
theorem Hz(hk:Kd P kt Ok enc)(ha:Ok a)(hok:∀a v,m a=some v→Ok a){es:Array MapEntry}(hes:∀(i:Nat) (x:MapEntry),es[i]? =some x→∃a,x.key=enc a∧m a=some x.val)(hm:∀a v,m a=some v→∃(i:Nat) (x:MapEntry),es[i]? =some x∧x.key=enc a∧x.val=v)(w:World):
  ((Instr.findKey kt (enc a) es.toList).run P w= .ok none w∧m a=none∧∀x∈es.toList,x.key≠enc a)∨∃j e,(Instr.findKey kt (enc a) es.toList).run P w= .ok (some (j,e.val)) w∧es[j]? =some e∧e.key=enc a∧m a=some e.val:=by
 have hall:∀x∈es.toList,∃b,Ok b∧x.key=enc b:=fun x hx=>by
  obtain⟨i,hi⟩:=Vt hx;obtain⟨b,e1,e2⟩:=hes i x (by simpa using hi);exact⟨b,hok b _ e2,e1⟩
 rcases hk.find w a ha es.toList hall with⟨h1,h2⟩ | ⟨j,e,h1,h2,h3⟩
 ·refine .inl ⟨h1,?_,h2⟩;cases hma:m a with
  | none=>rfl
  | some v=>
    obtain⟨i,x,hx,he,_⟩:=hm a v hma;exact absurd he (h2 x (Vc (by simpa using hx)))
 ·have hj:es[j]? =some e:=by simpa using h2
  refine .inr ⟨j,e,h1,hj,h3,?_⟩;obtain⟨a',e1,e2⟩:=hes j e hj;rw [hk.inj a a' (h3.symm.trans e1)];exact e2
theorem Nt(ht:HR P t kt et z)(hk:Kd P kt Ok enc)(ha:Ok a)(h:Gm Ok enc H b m)(hb:S b){K:Value→Prop}(k:K ((m a).getD z)):AB P (Instr.lookup t (.map (some b)) (enc a) false) S H K:=by
 obtain⟨⟨es,clock,h1,h2,h3,h4⟩,hok⟩:=h;refine AB.mk _ (fun w hw=>?_) k;have hb':=(hw b hb).trans h1;rcases Hz hk ha hok h3 h4 w with⟨e1,e2,e3⟩ | ⟨j,e,e1,e2,e3,e4⟩
 ·simp [Instr.lookup,run_underlying ht.under,Go.MapKept.run_getObj_map hb',hk.check w _ a ha,e1,MV ht.zero,e2]
 ·simp [Instr.lookup,run_underlying ht.under,Go.MapKept.run_getObj_map hb',hk.check w _ a ha,e1,e4]
theorem Ql(ht:HR P t kt et z)(hk:Kd P kt Ok enc)(ha:Ok a)(h:Gm Ok enc H b m)(hb:S b){K:Value→Prop}(k:K (.tuple #[(m a).getD z,.bool (m a).isSome])):AB P (Instr.lookup t (.map (some b)) (enc a) true) S H K:=by
 obtain⟨⟨es,clock,h1,h2,h3,h4⟩,hok⟩:=h;refine AB.mk _ (fun w hw=>?_) k;have hb':=(hw b hb).trans h1;rcases Hz hk ha hok h3 h4 w with⟨e1,e2,e3⟩ | ⟨j,e,e1,e2,e3,e4⟩
 ·simp [Instr.lookup,run_underlying ht.under,Go.MapKept.run_getObj_map hb',hk.check w _ a ha,e1,MV ht.zero,e2]
 ·simp [Instr.lookup,run_underlying ht.under,Go.MapKept.run_getObj_map hb',hk.check w _ a ha,e1,e4]
theorem Mx(hinj:∀a b,enc a=enc b→a=b){es:Array MapEntry}{clock:Nat}(hs:Go.MapKept.Stamped es clock)(h3:∀(i:Nat) (x:MapEntry),es[i]? =some x→∃a,x.key=enc a∧m a=some x.val)(h4:∀a v,m a=some v→∃(i:Nat) (x:MapEntry),es[i]? =some x∧x.key=enc a∧x.val=v){j:Nat}{e:MapEntry}(hj:es[j]? =some e)(he:e.key=enc a){f:MapEntry→MapEntry}{v:Value}
  (hf1:(f e).key=enc a) (hf2:(f e).val=v) (hf3:∀x,(f x).born=x.born) {H':Aa}
  (hb:H'[b]? =some (.map (es.modify j f) clock)):LN enc H' b (put m a (some v))∧P2 enc H' b a e.born:=by
 have hgt:∀i x,(es.modify j f)[i]? =some x→(i≠j∧es[i]? =some x)∨(i=j∧x=f e):=by
  intro i x hx;rw [Vm]at hx;by_cases hi:j=i
  ·subst hi;rw [if_pos rfl,hj]at hx;exact .inr ⟨rfl,by cases hx;rfl⟩
  ·rw [if_neg hi]at hx;exact .inl ⟨Ne.symm hi,hx⟩
 refine⟨⟨_,_,hb,Go.MapKept.stamped_modify hs _ _ (fun x _=>hf3 x) (fun x _ hx=>?_),fun i x hx=>?_,fun a' v' hv=>?_⟩,_,_,hb,fun i x hx=>?_⟩
 ·rw [hj]at hx;cases hx;rw [hf1,he]
 ·rcases hgt i x hx with⟨hne,hx⟩ | ⟨_,rfl⟩
  ·obtain⟨a',e1,e2⟩:=h3 i x hx;have:a'≠a:=fun h=>hne (Fq hs hx hj (by rw [e1,h,he]));exact⟨a',e1,by rw [HI this];exact e2⟩
  ·exact⟨a,hf1,by rw [F9,hf2]⟩
 ·by_cases ha:a'=a
  ·subst ha;rw [F9]at hv;cases hv;exact⟨j,f e,by rw [Vm,if_pos rfl,hj];rfl,hf1,hf2⟩
  ·rw [HI ha]at hv;obtain⟨i,x,hx,e1,e2⟩:=h4 a' v' hv;refine⟨i,x,?_,e1,e2⟩;rw [Vm,if_neg ?_]
   ·exact hx
   ·rintro rfl;rw [hj]at hx;cases hx;exact ha (hinj _ _ (e1.symm.trans he))
 ·rcases hgt i x hx with⟨hne,hx⟩ | ⟨_,rfl⟩
  ·exact⟨fun h=>absurd (Ir hs hx hj h) hne,fun h=>absurd (Fq hs hx hj (h.trans he.symm)) hne⟩
  ·exact⟨fun _=>hf1,fun _=>hf3 e⟩
theorem Sz(ht:HR P t kt et z)(hk:Kd P kt Ok enc)(ha:Ok a)(h:Gm Ok enc H b m){v:Value}{K:Aa→Prop}(k:TA Ok enc H K b (put m a (some v))):CP P (Instr.mapUpdate t (.map (some b)) (enc a) v) H K:=by
 obtain⟨⟨es,clock,h1,h2,h3,h4⟩,hok⟩:=h;refine CP.mk fun w hw=>?_;subst hw;rcases Hz hk ha hok h3 h4 w with⟨e1,e2,e3⟩ | ⟨j,e,e1,e2,e3,e4⟩
 ·obtain⟨t1,t2,t3⟩:=M9 (o':=.map (es.push ⟨enc a,v,clock⟩) (clock+1)) h1;exact⟨QB w b (.map (es.push ⟨enc a,v,clock⟩) (clock+1)),by simp [Instr.mapUpdate,run_underlying ht.under,Go.MapKept.run_getObj_map h1,hk.check w _ a ha,e1,Go.MapKept.run_setObj_map _ h1],⟨rfl,rfl,rfl⟩,k _ ⟨(Q2 h2 h3 h4 e3 t1).1,Q3 hok ha v⟩ t2 t3⟩
 ·obtain⟨t1,t2,t3⟩:=M9 (o':=.map (es.modify j fun e=>{e with key:=enc a,val:=v}) clock) h1;exact⟨QB w b (.map (es.modify j fun e=>{e with key:=enc a,val:=v}) clock),by simp [Instr.mapUpdate,run_underlying ht.under,Go.MapKept.run_getObj_map h1,hk.check w _ a ha,e1,Go.MapKept.run_setObj_map _ h1,e2,e3,hk.stays w a ha],⟨rfl,rfl,rfl⟩,k _ ⟨(Mx hk.inj h2 h3 h4 e2 e3 (f:=fun e=>{e with key:=enc a,val:=v}) rfl rfl (fun _=>rfl) t1).1,Q3 hok ha v⟩ t2 t3⟩
theorem Nu{K:Value→Aa→Prop}(k:∀b H',b=H.size→H'.size=b+1→Gm Ok enc H' b (fun _=>none)→Agr (fun k=>k<b) H H'→K (.map (some b)) H'):BQ P (Instr.makeMap t none) H K:=
 Ud fun b H' h1 h2 h3 h4=>k b H' h1 h2 ⟨h3,fun a v h=>by cases h⟩ h4
end
def Gl{α:Type}(Ok:α→Prop)(enc:α→Value)(H:Aa)(b r:Nat)(m:α→Option Value)(D:α→Prop)(last:Option α)(n:Nat):Prop:=
 (∃es clock seen,H[b]? =some (.map es clock)∧Go.MapKept.Stamped es clock∧(∀(i:Nat) (x:MapEntry),es[i]? =some x→∃a,x.key=enc a∧m a=some x.val)∧
  (∀a v,m a=some v→∃(i:Nat) (x:MapEntry),es[i]? =some x∧x.key=enc a∧x.val=v)∧H[r]? =some (.mapIter (some b) clock seen clock)∧
  (∀(i:Nat) (x:MapEntry) (a:α),es[i]? =some x→x.key=enc a→(seen.contains x.born=true↔D a))∧n=(leftOf es seen).size∧
  ∀a,last=some a→∃(e:MapEntry) (s0:Array Nat),e∈es.toList∧e.key=enc a∧seen=s0.push e.born)∧(∀a v,m a=some v→Ok a)
section
variable{α:Type}{Ok:α→Prop}{enc:α→Value}{P:Program}{t kt et:TypeId}{z:Value}{S:Nat→Prop}{H:Aa}{b r n:Nat}{m:α→Option Value}{D:α→Prop}{last:Option α}
theorem Gl.agr{H':Aa}(h:Gl Ok enc H b r m D last n)(k:Agr S H H')(hb:S b)(hr:S r):Gl Ok enc H' b r m D last n:=by
 obtain⟨⟨es,clock,seen,h1,h2,h3,h4,h5,h6⟩,h7⟩:=h;exact⟨⟨es,clock,seen,(k b hb).trans h1,h2,h3,h4,(k r hr).trans h5,h6⟩,h7⟩
theorem Gl.map(h:Gl Ok enc H b r m D last n):Gm Ok enc H b m:=by
 obtain⟨⟨es,clock,seen,h1,h2,h3,h4,h5,h6⟩,h7⟩:=h;exact⟨⟨es,clock,h1,h2,h3,h4⟩,h7⟩
theorem OP(es:Array MapEntry)(seen:Array Nat){e:MapEntry}(he:e∈(leftOf es seen).toList):(leftOf es (seen.push e.born)).size<(leftOf es seen).size:=by
 have h1:leftOf es (seen.push e.born)=(leftOf es seen).filter fun x=> !(x.born==e.born):=by
  unfold leftOf;rw [Array.filter_filter]
  congr 1
  funext x;rw [VD];cases h1:seen.contains x.born<;>cases h2:x.born==e.born<;>simp_all
 have h2:((leftOf es seen).filter fun x=> !(x.born==e.born)).size=((leftOf es seen).toList.filter fun x=> !(x.born==e.born)).length:=by rw [←VE,UW]
 rw [h1,h2,←UW];exact List.length_filter_lt_length_iff_exists.2 ⟨e,he,by simp⟩
theorem SW(ht:HR P t kt et z)(h:Gm Ok enc H b m){K:Value→Aa→Prop}
  (k:∀r n H',r=H.size→H'.size=r+1→Gl Ok enc H' b r m (fun _=>False) none n→Agr (fun k=>k<H.size) H H'→K (.pointer (some ⟨r,0,none⟩)) H'):BQ P (Instr.range t (.map (some b))) H K:=by
 obtain⟨⟨es,clock,h1,h2,h3,h4⟩,hok⟩:=h;refine BQ.mk fun w hw=>?_;subst hw;have hbl:b<w.heap.size:=(UQ.1 h1).1;refine⟨_,w.alloc (.mapIter (some b) clock #[] clock),by simp [Instr.range,run_underlying ht.under,Go.MapKept.run_getObj_map h1],⟨rfl,rfl,rfl⟩,k w.heap.size (leftOf es #[]).size _ rfl (by rw [EM];simp) ⟨⟨es,clock, #[],?_,h2,h3,h4,by rw [EM];simp,fun i x a hx hk=>by simp,rfl,fun a h=>by cases h⟩,hok⟩ (Dx _ _)⟩;rw [EM,Vv,if_neg (by omega)];exact h1
theorem Ue{ty:TypeId}(hi:∀a b,enc a=enc b→a=b)(h:Gl Ok enc H b r m D last n){K:Value→Aa→Prop}(k0:(∀a,(m a).isSome=true→D a)→K (.tuple #[.bool false]) H)
  (k1:∀a v H' n',m a=some v→¬D a→n'<n→Gl Ok enc H' b r m (fun x=>D x∨x=a) (some a) n'→Agr (fun k=>k≠r) H H'→H'.size=H.size→K (.tuple #[.bool true,enc a,v]) H'):BQ P (Instr.next (.pointer (some ⟨r,0,none⟩)) false ty) H K:=by
 obtain⟨⟨es,clock,seen,h1,h2,h3,h4,h5,h6,h7,h8⟩,hok⟩:=h;refine BQ.mk fun w hw=>?_;subst hw;have hbr:b≠r:=by
  rintro rfl;rw [h1]at h5;cases h5
 have hml:∀x,x∈(leftOf es seen).toList↔x∈es.toList∧seen.contains x.born=false:=fun x=>by
  unfold leftOf;rw [VE,VS,Vg]
 rcases run_next_at (P:=P) w ty r b clock clock seen es clock h5 h1 h2.1 (UP _)with⟨e1,e2⟩ | ⟨e,he,w1,hw1,e2⟩
 ·refine⟨_,w,e2,Env.refl w,k0 fun a ha=>?_⟩;obtain⟨v,hv⟩:=Option.isSome_iff_exists.1 ha;obtain⟨i,x,hx,hk,-⟩:=h4 a v hv;refine(h6 i x a hx hk).1 ?_;cases hs:seen.contains x.born with
  | true=>rfl
  | false=>
    have:=(hml x).2 ⟨Vc (i:=i) (by simpa using hx),hs⟩;have h0:(leftOf es seen).toList=[]:=Vb (by rw [UW];exact e1);rw [h0]at this;cases this
 ·obtain⟨he1,he2⟩:=(hml e).1 he;obtain⟨j,hj⟩:=Vt he1;have hj':es[j]? =some e:=by simpa using hj
  obtain⟨a,hka,hma⟩:=h3 j e hj';have hnD:¬D a:=fun hd=>by
   rw [(h6 j e a hj' hka).2 hd]at he2;cases he2
  have hw1h:w1.heap=w.heap:=by rcases hw1 with rfl | rfl<;>rfl
  have hw1e:Env w w1:=by rcases hw1 with rfl | rfl<;>exact⟨rfl,rfl,rfl⟩
  have hrl:r<w.heap.size:=(UQ.1 h5).1;have hset:(Go.ChangeMaps.setBlock w1 r (.mapIter (some b) clock (seen.push e.born) clock)).heap=w.heap.setIfInBounds r (.mapIter (some b) clock (seen.push e.born) clock):=by
   show w1.heap.setIfInBounds r _=_;rw [hw1h]
  refine⟨_,_,e2,⟨hw1e.os,hw1e.tape,hw1e.output⟩,?_⟩;rw [hka];refine k1 a e.val _ _ hma hnD (h7 ▸ OP es seen he) ⟨⟨es,clock,seen.push e.born,?_,h2,h3,h4,?_,fun i x a' hx hk=>?_,rfl,fun a' ha'=>?_⟩,hok⟩ ?_ ?_
  ·rw [hset,Vo (Ne.symm hbr)];exact h1
  ·rw [hset,Array.getElem?_setIfInBounds_self_of_lt hrl]
  ·rw [VD,Vp,h6 i x a' hx hk,beq_iff_eq];refine or_congr Iff.rfl ⟨fun hb=>?_,fun ha'=>?_⟩
   ·obtain rfl:=Ir h2 hx hj' hb;rw [hj']at hx;cases hx;exact hi _ _ (hk.symm.trans hka)
   ·subst ha';obtain rfl:=Fq h2 hx hj' (hk.trans hka.symm);rw [hj']at hx;cases hx;rfl
  ·cases ha';exact⟨e,seen,he1,hka,rfl⟩
  ·rw [hset];exact fun k hk=>Vo (Ne.symm hk)
  ·rw [hset];simp
theorem Sy{a:α}{v:Value}(h:Gl Ok enc H b r m D (some a) n)(hi:∀a b,enc a=enc b→a=b)(hv:m a=some v){K:Value→Aa→Prop}(k:K (.tuple #[enc a,v]) H):BQ P (Instr.entry (.pointer (some ⟨r,0,none⟩))) H K:=by
 obtain⟨⟨es,clock,seen,h1,h2,h3,h4,h5,h6,h7,h8⟩,hok⟩:=h;obtain⟨e,s0,he,hk,rfl⟩:=h8 a rfl;refine BQ.mk fun w hw=>?_;subst hw;obtain⟨i,x,hx,hkx,hvx⟩:=h4 a v hv;obtain⟨j,hj⟩:=Vt he;have hj':es[j]? =some e:=by simpa using hj
 obtain rfl:=Fq h2 hx hj' (hkx.trans hk.symm);rw [hj']at hx;cases hx;refine⟨_,w,run_entry_at w r b clock s0 es clock e h5 h1 he h2.2.1,Env.refl w,?_⟩;rw [hk,hvx];exact k
end
section
variable{α:Type}{Ok:α→Prop}{enc:α→Value}{b r n:Nat}{m m':α→Option Value}{D:α→Prop}{last:Option α}{B:Nat→Prop}{H0 H H':Aa}{ps:List Pc}{P:Program}{t kt et:TypeId}{z:Value}
def pMW(Ok:α→Prop)(enc:α→Value)(b:Nat)(m:α→Option Value):Pc:=⟨fun k=>k=b,fun H=>Gm Ok enc H b m,fun h hp=>hp.agr h rfl⟩
def pIW(Ok:α→Prop)(enc:α→Value)(b r:Nat)(m:α→Option Value)(D:α→Prop)(last:Option α)(n:Nat):Pc:=⟨fun k=>k=b∨k=r,fun H=>Gl Ok enc H b r m D last n,fun h hp=>hp.agr h (.inl rfl) (.inr rfl)⟩
theorem StB.mapW(st:StB B H0 H ps)(i:Nat)(hp:ps[i]? =some (pMW Ok enc b m)):Gm Ok enc H b m:=st.at_ i hp
theorem StB.iterW(st:StB B H0 H ps)(i:Nat)(hp:ps[i]? =some (pIW Ok enc b r m D last n)):Gl Ok enc H b r m D last n:=st.at_ i hp
theorem StB.mapNewW(st:StB B H0 H ps)(hb:b=H.size)(hs:H'.size=b+1)(hm:Gm Ok enc H' b (fun _=>none))(ha:Agr (fun k=>k<b) H H'):StB B H0 H' (ps++[pMW Ok enc b fun _=>none]):=by
 subst hb;exact st.add (ha.mono fun k hk=>hk) _ hm fun k hk=>by have:k=H.size:=hk;omega
theorem SU{v:Value}{a:α}{K:Aa→Prop}(st:StB B H0 H ps)(i:Nat)(ht:HR P t kt et z)(hk:Kd P kt Ok enc)(ha:Ok a)(hp:ps[i]? =some (pMW Ok enc b m))(hm:put m a (some v)=m')
  (k:∀H',StB B H0 H' (ps.set i (pMW Ok enc b m'))→K H'):CP P (Instr.mapUpdate t (.map (some b)) (enc a) v) H K:=by
 refine Sz ht hk ha (st.mapW i hp) ?_;intro H' hb' ha' hs';subst hm;exact k H' (st.upd i hp (ha'.mono fun k hk hkb=>hk.2 hkb) _ hb' (fun k hk=>.inl hk) (fun k hk=>by rw [hs'];exact(st.in_ i hp hk).2) (by omega))
theorem Ou{K:Value→Aa→Prop}(st:StB B H0 H ps)(i:Nat)(ht:HR P t kt et z)(hp:ps[i]? =some (pMW Ok enc b m))
  (k:∀r n H',StB B H0 H' (ps.set i (pIW Ok enc b r m (fun _=>False) none n))→K (.pointer (some ⟨r,0,none⟩)) H'):BQ P (Instr.range t (.map (some b))) H K:=by
 refine SW ht (st.mapW i hp) fun r n H' hr hs hi ha=>?_;subst hr;have hbl:=(st.in_ i hp (k:=b) rfl).2;refine k _ n H' (st.upd i hp (ha.mono fun k hk=>hk.1) _ hi (fun k hk=>?_) (fun k hk=>?_) (by omega))
 ·rcases hk with hk | hk
  ·exact .inl hk
  ·exact .inr (by omega)
 ·rcases hk with rfl | rfl<;>omega
theorem Qm{ty:TypeId}{K:Value→Aa→Prop}(st:StB B H0 H ps)(i:Nat)(hi:∀a b,enc a=enc b→a=b)(hp:ps[i]? =some (pIW Ok enc b r m D last n))(k0:(∀a,(m a).isSome=true→D a)→K (.tuple #[.bool false]) H)
  (k1:∀a v H' n',m a=some v→¬D a→n'<n→StB B H0 H' (ps.set i (pIW Ok enc b r m (fun x=>D x∨x=a) (some a) n'))→K (.tuple #[.bool true,enc a,v]) H'):BQ P (Instr.next (.pointer (some ⟨r,0,none⟩)) false ty) H K:=by
 refine Ue hi (st.iterW i hp) k0 fun a v H' n' h1 h2 h3 h4 h5 h6=>k1 a v H' n' h1 h2 h3 (st.upd i hp (h5.mono fun k hk hkr=>hk.2 (.inr hkr)) _ h4 (fun k hk=>.inl hk) (fun k hk=>by rw [h6];exact(st.in_ i hp hk).2) (by omega))
theorem StB.iterEnd(st:StB B H0 H ps)(i:Nat)(hp:ps[i]? =some (pIW Ok enc b r m D last n)):StB B H0 H (ps.set i (pMW Ok enc b m)):=
 st.upd i hp (Agr.refl _ _) _ (st.iterW i hp).map (fun k hk=>.inl (.inl hk)) (fun k hk=>(st.in_ i hp (.inl hk)).2) (UP _)
end
section
variable{α:Type}{T:Ty α}{e:TypeId}{a:Option Addr}{n cap:Nat}{xs:List α}{B:Nat→Prop}{H0 H:Aa}{ps:List Pc}
theorem Hp{P:Program}{t ty q o m cap2 by_:Nat}{z:Value}{ys:List α}{ds:List Value}{K:Value→Aa→Prop}(st:StB B H0 H ps)(i:Nat)(ht:SlT P t e T.size by_ z)(hp:ps[i]? =some (pS T e a n cap xs))
  (hd:Bo H q o ds) (hy:T.reps none_ H ds ys) (hm:m=ys.length) (h1:∀u∈ds,u.oneCell'=true) (h63:xs.length+ys.length≤maxLen) (hby:(xs.length+ys.length)*by_≤140737488355328)
  (k:∀a' cap' H',StB B H0 H' (ps.set i (pS T e a' (xs.length+ys.length) cap' (xs++ys)))→Agr (fun k=>k<H.size∧¬slB (.slice a n cap) k) H H'→K (.slice a' (xs.length+ys.length) cap') H'):
  BQ P (Builtin.append_ #[t,t] ty [.slice a n cap,.slice (some ⟨q,o,none⟩) m cap2].toArray) H K:=by
 refine Iu (T:=T) (S:=none_) (lo:=0) ht (st.at_ i hp).1 (Vj _) (fun k hk=>hk.elim) hd hy hm h1 h63 hby ?_;intro v' H' hown hagr hsz hfr;obtain⟨a',cap',rfl⟩:=hown.hull;rw [UL]at hown hfr ⊢;refine k a' cap' H' (st.upd i hp (hagr.mono fun k hk=>⟨hk.1,fun hb=>hk.2 (.inl hb)⟩) _ ⟨hown,fun k hk=>hk.elim⟩ (fun k hk=>?_) (fun k hk=>?_) hsz) hagr
 ·rcases hk with hk | hk
  ·rcases hfr k hk with h | h
   ·exact .inl (.inl h)
   ·exact .inr h
  ·exact hk.elim
 ·rcases hk with hk | hk
  ·exact(hown.lt hk).2
  ·exact hk.elim
end
section
variable{α β:Type}{Ok:α→Prop}{enc:α→Value}{T:Ty β}{e:TypeId}{b:Nat}{m:α→Option Value}{xs:α→List β}{B:Nat→Prop}{H0 H H':Aa}{ps:List Pc}{P:Program}{t kt et:TypeId}{a:α}
def pMQ(Ok:α→Prop)(enc:α→Value)(T:Ty β)(e:TypeId)(b:Nat)(m:α→Option Value)(xs:α→List β):Pc where
 foot k:=k=b∨∃a,slB (DR m a) k
 ok H:=Gm Ok enc H b m∧(∀a,SlO T none_ H 0 e (DR m a) (xs a))∧(∀a a' k,a≠a'→slB (DR m a) k→¬slB (DR m a') k)∧∀a,¬slB (DR m a) b
 fr h hp:=⟨hp.1.agr h (.inl rfl),fun a=>(hp.2.1 a).agr h (fun k hk=>.inr ⟨a,hk⟩) (fun _ hk=>hk.elim),hp.2.2⟩
theorem StB.mqMap(st:StB B H0 H ps)(i:Nat)(hp:ps[i]? =some (pMQ Ok enc T e b m xs)):Gm Ok enc H b m:=(st.at_ i hp).1
theorem StB.mqView(st:StB B H0 H ps)(i:Nat)(hp:ps[i]? =some (pMQ Ok enc T e b m xs))(a:α):∃ad cap,DR m a= .slice ad (xs a).length cap∧SlD T (Old H) H ad cap (xs a):=by
 obtain⟨ad,cap,h1,h2,-⟩:=((st.at_ i hp).2.1 a).view (S':=Old H) (fun k hk=>(st.in_ i hp (.inr ⟨a,hk⟩)).2) (fun _ hk=>hk.elim);exact⟨ad,cap,h1,h2⟩
theorem StB.mqNew(st:StB B H0 H ps)(i:Nat)(hp:ps[i]? =some (pMW Ok enc b fun _=>none)):StB B H0 H (ps.set i (pMQ Ok enc T e b (fun _=>none) fun _=>[])):=by
 refine st.upd i hp (Agr.refl _ _) _ ⟨st.mapW i hp,fun a=>SlO.nil,fun a a' k _ hk=>?_,fun a hk=>?_⟩ (fun k hk=>?_) (fun k hk=>?_) (UP _)
 ·obtain⟨o,n,c,h⟩:=hk;cases h
 ·obtain⟨o,n,c,h⟩:=hk;cases h
 ·rcases hk with hk | ⟨a,o,n,c,h⟩
  ·exact .inl hk
  ·cases h
 ·rcases hk with hk | ⟨a,o,n,c,h⟩
  ·exact(st.in_ i hp hk).2
  ·cases h
end
structure Uz where
 ok:Aa→Value→Prop
 fr:∀{S:Nat→Prop} {H H':Aa} {v:Value},Agr S H H'→(∀k,slB v k→S k)→ok H v→ok H' v
 lt:∀{H:Aa} {v:Value} {k:Nat},ok H v→slB v k→k<H.size
section
variable{α:Type}{T:Ty α}{B:Nat→Prop}{H0 H H1:Aa}{ps:List Pc}{e te:TypeId}{b:Nat}{vs:List Value}{ss:Nat→Uz}{xs:List α}{v:Value}{j:Nat}
end
theorem Ua{P:Program}{t len e sz:Nat}{k:IntKind}{i:Int}{cs:Array Value}{S:Nat→Prop}{H:Aa}{K:Value→Prop}(ht:KN P t len e sz)(hc:E9 P e sz)(h0:0≤i)(h1:i<len)
  (hk:K (.agg (cs.extract (i.toNat*sz) (i.toNat*sz+sz)))):AB P (Instr.index t (.agg cs) (.int k i)) S H K:=by
 refine AB.mk _ (fun w _=>?_) hk;cases hi:P.info? e with
 | none=>have:=ht.size;simp [hi]at this
 | some inf=>
   have hs:inf.size=sz:=by have:=ht.size;simpa [hi]using this
   simp [Instr.index,asIntOf,run_underlying ht.under,h0,h1,sizeOf,typeInfo,hi,hs,Po hc]
theorem QY{x:Nat}(h:x<18446744073709551616):18446744073709551615 ^^^ x=18446744073709551615 - x:=by
 have h1:(BitVec.ofNat 64 x ^^^ BitVec.allOnes 64).toNat=(~~~(BitVec.ofNat 64 x)).toNat:=by rw [BitVec.xor_allOnes]
 rw [VO,VP,Vz,BitVec.toNat_allOnes,V4 (by simpa using h),Nat.xor_comm]at h1;simpa using h1
theorem O7{P:Program}{x:Nat}{S:Nat→Prop}{H:Aa}{K:Value→Prop}(hx:x<18446744073709551616)(k:K (.int .u64 ((18446744073709551615 - x:Nat):Int))):AB P (Op.unary .xor (.int .u64 (x:Int))) S H K:=by
 refine AB.mk _ (fun w _=>?_) k;have h1:IntKind.u64.max=18446744073709551615:=rfl;have h2:IntKind.u64.signed=false:=rfl;have e1:(Ve IntKind.u64.bits (18446744073709551615:Int) ^^^ Ve IntKind.u64.bits (x:Int)).toNat=18446744073709551615 - x:=by
  show(Ve 64 ((18446744073709551615:Nat):Int) ^^^ Ve 64 (x:Int)).toNat=_;rw [VB,VB,VO,Vz,Vz,V4 (a:=x) hx];exact QY hx
 have e2:IntKind.wrap .u64 ((18446744073709551615 - x:Nat):Int)=((18446744073709551615 - x:Nat):Int):=DO ⟨by show(0:Int)≤_;omega,by rw [h1];omega⟩;show(pure (Value.int .u64 (IntKind.wrap .u64 ((Ve IntKind.u64.bits (if IntKind.u64.signed=true then(-1:Int)else IntKind.u64.max) ^^^ Ve IntKind.u64.bits (x:Int)).toNat:Int))):Sem Value).run P w=_;rw [h2,h1];simp only [Vy,if_false];rw [e1,e2];rfl
end Go.VC
namespace Go.Proofs.YtlnmhfhdjnenoaaGreatDoor
open Go.VC
theorem LH(a:BitVec 256)(i:Nat)(hi:i<4):wd (~~~a) i=18446744073709551615 - wd a i:=by
 have ha:=a.isLt;unfold wd;rw [VP]
 match i,hi with
 | 0,_=>simp only [V0,Vk]at*;omega
 | 1,_=>simp only [V0,Vk]at*;omega
 | 2,_=>simp only [V0,Vk]at*;omega
 | 3,_=>simp only [V0,Vk]at*;omega
theorem Qo(a:BitVec 256)(H:Aa):Bv Tryz.prog 94 #[BT a] H (BT (~~~a)):=by
 have hw:∀i,wd a i<18446744073709551616:=fun i=>FE a i;refine Ao.of_vc Tryz.func94 rfl (Tryz.call94 _) (BM (Ak a) rfl ?_);intro p H1 hp hs1 hb1 ha1;refine Ag (BT 0) (Ak 0) rfl rfl ?_;intro r H3 hr hs3 hb3 ha3;replace hb1:=hb1.agr ha3 (show p<r by omega);refine ixa Dm (by decide) (by decide) (ld1 ES ((hb1.cell _).trans rfl) trivial (O7 (hw _) (ixa Dm (by decide) (by decide) (ld1 ES ((hb1.cell _).trans rfl) trivial (O7 (hw _) (ixa Dm (by decide) (by decide) (ld1 ES ((hb1.cell _).trans rfl) trivial (O7 (hw _) (ixa Dm (by decide) (by decide) (ld1 ES ((hb1.cell _).trans rfl) trivial (O7 (hw _) ?_)))))))))));rw [←LH a 0 (by decide),←LH a 1 (by decide),←LH a 2 (by decide),←LH a 3 (by decide)];refine CR Dm (BT 0) rfl (Ak (~~~a)) rfl (VC.stN rfl hb3 (show 0+4≤4 by decide) rfl ?_);intro H4 hb4 ha4 hs4;refine ldN (cs:=Ak (~~~a)) B0 (hb4.cells (fun j v hv=>by simpa [Ac,Ak]using hv)) trivial ?_;exact⟨rfl,fun k hk=>by rw [ha4 k (by omega),ha3 k (by omega),ha1 k (by omega)]⟩
def bA(w:List Nat):ByteArray:=⟨(w.map UInt8.ofNat).toArray⟩
def byN(s:ByteArray):List Nat:=s.data.toList.map UInt8.toNat
theorem KY(s:ByteArray):(byN s).length=s.size:=by unfold byN;rw [Vq];exact UW
theorem KX{s:ByteArray}{i:Nat}{b:UInt8}(h:s.data[i]? =some b):(byN s)[i]? =some b.toNat:=by
 unfold byN;rw [Vi,V9,h];rfl
theorem SJ{s:ByteArray}{k:Nat}(h:k<s.size):∃b,s.data[k]? =some b:=⟨s.data[k]'h,Array.getElem?_eq_getElem h⟩
theorem Ae{l c:List Value}(h:c.length=l.length):Ac l 0 c=c:=by
 unfold Ac;rw [List.take_zero,List.nil_append,UN,h,List.drop_length,Vu]
def ofB(x:BitVec 256)(l:List Nat):BitVec 256:=l.foldl (fun x b=>x ||| VU 256 b) x
theorem Ug(s:ByteArray)(hs:s.size≤1048576)(H:Aa):Bv Tryz.prog 49 #[.string s] H (BT (ofB 0#256 (byN s))):=by
 refine Ao.of_vc Tryz.func49 rfl (Tryz.call49 _) (Ag (BT 0) (Ak 0) rfl rfl ?_);intro r H1 hr hs1 hb1 ha1;have st1:=(St.nil H).box hr hs1 hb1 ha1;refine Ag (BT 0) (Ak 0) rfl rfl ?_;intro p H2 hp hs2 hb2 ha2;have st2:=st1.box hp hs2 hb2 ha2;(conv=>whnf);refine AH.mk [7] (fun i:Nat=>[.int .i64 (i:Int)]) (fun i H3=>i≤s.size∧St H H3 [pB 102 r (Ak 0),pB 102 p (Ak (ofB 0#256 ((byN s).take i)))]) (fun i _=>s.size - i) ?_ ?_
 ·(conv=>whnf);exact⟨0,rfl,Vj _,st2⟩
 ·rintro i H3 junk ⟨hi,st3⟩;refine AQ.mk (fun h=>?_) (fun h=>?_)<;>simp only [decide_eq_true_eq,decide_eq_false_iff_not]at h
  ·obtain⟨c,hc⟩:=SJ (s:=s) (k:=i) (by omega);obtain⟨b,hb⟩:∃b,b=c.toNat:=⟨_,rfl⟩;have hb256:b<256:=by rw [hb];exact UInt8.toNat_lt c
   obtain⟨x,hx⟩:∃x,x=ofB 0#256 ((byN s).take i):=⟨_,rfl⟩;have hnext:ofB 0#256 ((byN s).take (i+1))=x ||| VU 256 b:=by
    rw [Bd (KX hc),hx,hb];unfold ofB;rw [VJ];rfl
   rw [←hx]at st3;have hbp:=st3.blk 1 rfl;have hpl:=(st3.in_ 1 rfl rfl).2;refine As.heldZ (Old H3) [13] (sq [0,1,2,3,4,5,6,7,8,9,10,11,12] (.f 13 .e)) rfl (by kernel_rfl) (CS Tryz.underlying9 rfl hc ?_);rw [←hb];refine Hl (b:=6) (by decide) (ixa Dm (by omega) (by omega) ?_);refine ld1 ES (v:=.int .u64 (wd x (b / 64))) (by rw [hbp.cell,UN,Va];exact JW x b (by omega)) hpl ?_;refine CS Tryz.underlying9 rfl hc ?_;rw [←hb];refine It (b:=63) (Qf hb256) (Qf (by decide)) ?_;have hpow:2 ^ (b % 64)<2 ^ 64:=Nat.pow_lt_pow_right (by decide) (by omega);rw [Sm];have hin:inK .u64 ((1*2 ^ (b % 64):Nat):Int):=Fk (by omega);refine Tv (a:=1) (by simp [IntKind.bits];omega) hin ?_;refine vor (Gf x _) hin (ixa Dm (by omega) (by omega) ?_);refine AG st3 1 ES rfl (by simp [Ak];omega) rfl fun H4 st4=>?_;(conv=>whnf);rw [w64 (x:=(i:Int)+1) (by omega) (by omega)];refine⟨rfl,i+1,by simp,⟨by omega,?_⟩,by omega⟩;rw [hnext,←M6 x b (by omega)];rw [UN,Va,Nat.one_mul]at st4;exact st4
  ·obtain rfl:i=s.size:=by omega
   rw [List.take_of_length_le (by rw [KY];exact UP _)]at st3;generalize ofB 0#256 (byN s)=x at*;refine ldN (cs:=Ak x) B0 ((st3.blk 1 rfl).cells fun j v hv=>by rw [UN];exact hv) trivial ?_;refine Ay (cs:=Ak x) st3 0 rfl rfl (UP _) rfl fun H4 st4=>?_;rw [Ae (show(Ak x).length=(Ak 0).length from rfl)]at st4;refine ldN (cs:=Ak x) B0 ((st4.blk 0 rfl).cells fun j v hv=>by rw [UN];exact hv) trivial ?_;exact⟨rfl,st4.old⟩
end Go.Proofs.YtlnmhfhdjnenoaaGreatDoor
namespace Go.VC
section
variable{B:Nat→Prop}{H0 H:Aa}{ps:List Pc}{p:Pc}
theorem StB.apart2(st:StB B H0 H ps){i j:Nat}{q:Pc}(hp:ps[i]? =some p)(hq:ps[j]? =some q)(hij:i≠j):Dis p q:=by
 have hil:=(UO.1 hp).1;have hjl:=(UO.1 hq).1;have e1:=(UO.1 hp).2;have e2:=(UO.1 hq).2;intro k hk hk';rcases Nat.lt_or_gt_of_ne hij with h | h
 ·exact V2.1 st.dis i j hil hjl h k (by rw [e1];exact hk) (by rw [e2];exact hk')
 ·exact V2.1 st.dis j i hjl hil h k (by rw [e2];exact hk') (by rw [e1];exact hk)
end
section
variable{α β:Type}{Ok:α→Prop}{enc:α→Value}{T:Ty β}{e:TypeId}{b:Nat}{m:α→Option Value}{xs:α→List β}{B:Nat→Prop}{H0 H:Aa}{ps:List Pc}
end
abbrev C4{α:Type}(_:α):Prop:=True
theorem Kd.ofE{P:Program}{kt:TypeId}{d:TypeDesc}{α:Type}{enc:α→Value}(hd:P.underlying kt=some d)(hk:T4 d enc):Kd P kt C4 enc where
 inj:=hk.inj
 check w em a _:=Go.MapKept.run_checkKey hd (hk.isKey a) em 9999
 find w a _ es hes:=by
  have hall:∀x∈es,Go.MapKept.IsKey d x.key:=fun x hx=>by
   obtain⟨b,-,e⟩:=hes x hx;rw [e];exact hk.isKey b
  rcases Go.MapKept.findNow_spec (hk.isKey a) es 0 hall with⟨h1,h2⟩ | ⟨j,e,h1,h2,h3⟩
  ·exact .inl ⟨Go.MapKept.run_findKey hd h1,h2⟩
  ·exact .inr ⟨j,e,by rw [UN]at h1;exact Go.MapKept.run_findKey hd h1,h2,h3⟩
 stays w a _:=Go.MapKept.run_keyThatStays (hk.isKey a)
end Go.VC
namespace Go.Proofs.YtlnmhfhdjnenoaaGreatDoor
open Go.VC Go.Lib
def Dt(n:Nat):Nat:=if n<10 then 48+n else 87+n
def Cy(c:Nat)(sp:Bool):List Nat:=if c=10 then [92,110]else if c=13 then [92,114]else if c=9 then [92,116]else if c<32∨126<c then [92,120,Dt (c / 16),Dt (c % 16)]else if sp then [92,c]else [c]
def spB(s:ByteArray)(c:Nat):Bool:=decide (0≤indexByte s.data.toList (UInt8.ofNat c))
def Nh:List Value:=[.int .u8 110,.int .u8 10,.int .u8 114,.int .u8 13,.int .u8 116,.int .u8 9]
def DP(H:Aa):Prop:=Bo H 0 0 Nh∧0<H.size
theorem DP.agr{H H':Aa}(h:DP H)(ha:Agr (Old H) H H'):DP H':=
 ⟨h.1.eq (ha 0 h.2),A0 ha (show Old H 0 from h.2)⟩
theorem Sp:(Tryz.prog.info? 188).bind (·.zero)=some (.agg #[.int .u8 0,.int .u8 0]):=by kernel_rfl
theorem Jq{i:Nat}(hi:i<16):(⟨#[48,49,50,51,52,53,54,55,56,57,97,98,99,100,101,102]⟩:ByteArray).extract i (i+1)=bA [Dt i]:=by
 have:∀i:Fin 16,(⟨#[48,49,50,51,52,53,54,55,56,57,97,98,99,100,101,102]⟩:ByteArray).extract i.1 (i.1+1)=bA [Dt i.1]:=by decide
 exact this ⟨i,hi⟩
theorem A7(u v:List Nat):bA u++bA v=bA (u++v):=by
 apply ByteArray.ext;rw [ByteArray.data_append];unfold bA;simp
theorem O3{s:ByteArray}{c:Nat}:(decide (indexByte s.data.toList (UInt8.ofNat c)≥0))=spB s c:=rfl
def Gg(i:Nat):Nat×Nat:=match i with
 | 0=>(110,10)
 | 1=>(114,13)
 | _=>(116,9)
theorem Fa{H:Aa}{s:ByteArray}{c:Nat}(hE:DP H)(hc:c<256):Bv Tryz.prog 93 #[.int .u8 (c:Int),.string s] H (.string (bA (Cy c (spB s c)))):=by
 refine Ao.of_vc Tryz.func93 rfl (Tryz.call93 _) (ldN (cs:=Nh) Sk hE.1 trivial ?_);(conv=>whnf);refine AH.mk [8] (fun i:Nat=>[.int .i64 (i:Int)]) (fun i H1=>i≤3∧(∀j,j<i→(Gg j).2≠c)∧St H H1 []) (fun i _=>3 - i) ?_ ?_
 ·(conv=>whnf);exact⟨0,rfl,by omega,fun j hj=>by omega,St.nil H⟩
 ·rintro i H1 junk1 ⟨hi,hno,st1⟩;refine AQ.mk (fun hz=>?_) (fun hz=>?_)<;>simp only [decide_eq_true_eq,decide_eq_false_iff_not]at hz
  ·have hex:Nh.toArray.extract (i*2) (i*2+2)= #[.int .u8 ((Gg i).1:Int),.int .u8 ((Gg i).2:Int)]:=by
    have:i=0∨i=1∨i=2:=by omega
    rcases this with rfl | rfl | rfl<;>rfl
   have hsg:(Gg i).2=c→Cy c (spB s c)=[92,(Gg i).1]:=fun e=>by
    have:i=0∨i=1∨i=2:=by omega
    rcases this with rfl | rfl | rfl<;>(subst e;rfl)
   have h1b:(Gg i).1<256∧(Gg i).2<256:=by
    have:i=0∨i=1∨i=2:=by omega
    rcases this with rfl | rfl | rfl<;>decide
   refine Ua Sn Sj (by omega) (by omega) ?_;rw [VI,hex];generalize (Gg i).1=l at*;generalize hv:(Gg i).2=v at*;refine Ag (.agg #[.int .u8 0,.int .u8 0]) [.int .u8 0,.int .u8 0] Sp rfl ?_;intro p2 H2 hp2 hs2 hb2 ha2;have st2:=st1.box hp2 hs2 hb2 ha2;refine Ay (cs:=[.int .u8 (l:Int),.int .u8 (v:Int)]) st2 0 rfl rfl (UP _) rfl fun H3 st3=>?_;rw [Ae (by rfl)]at st3;refine VC.fa Of ?_;refine ld1 (v:=.int .u8 (v:Int)) ct5 (by rw [(st3.blk 0 rfl).cell];rfl) trivial ?_;by_cases he:v=c
   ·have d1:((v:Int)==(c:Int))=true:=by rw [he];exact beq_self_eq_true _
    (conv=>whnf);rw [d1];refine VC.fa Oe ?_;refine ld1 (v:=.int .u8 (l:Int)) ct5 (by rw [(st3.blk 0 rfl).cell];rfl) trivial ?_;refine AM JX [.int .u8 (l:Int)] rfl rfl (by decide) (by decide) ?_;intro q4 H4 hq4 hs4 hb4 ha4;refine NF [l] rfl rfl rfl (fun j x hx=>by
     cases j with
     | zero=>cases hx;rw [hb4.cell];rfl
     | succ j=>simp at hx) rfl ?_
    refine Bl (by rw [show(⟨([l].map UInt8.ofNat).toArray⟩:ByteArray).size=1 from rfl];decide) ?_;(conv=>whnf);rw [hsg he];exact⟨rfl,(st3.skip hq4 ha4).old⟩
   ·have d1:((v:Int)==(c:Int))=false:=beq_eq_false_iff_ne.2 (by omega);(conv=>whnf);rw [d1];(conv=>whnf);rw [w64 (x:=(i:Int)+1) (by omega) (by omega)];refine⟨rfl,i+1,by simp,⟨by omega,fun j hj=>?_,st3.pick [] (by decide)⟩,by omega⟩;rcases Vf (VK hj)with hj | rfl
    ·exact hno j hj
    ·rw [hv];exact he
  ·obtain rfl:i=3:=by omega
   have n0:(10:Nat)≠c:=hno 0 (by omega);have n1:(13:Nat)≠c:=hno 1 (by omega);have n2:(9:Nat)≠c:=hno 2 (by omega);have hs0:Cy c (spB s c)=if c<32∨126<c then [92,120,Dt (c / 16),Dt (c % 16)]else if spB s c then [92,c]else [c]:=by
    unfold Cy;rw [if_neg (Ne.symm n0),if_neg (Ne.symm n1),if_neg (Ne.symm n2)]
   by_cases hesc:c<32∨126<c
   ·rw [hs0,if_pos hesc];have hc16:c / 2 ^ 4=c / 16:=rfl;have hand:c &&& 15=c % 16:=by rw [show(15:Nat)=2 ^ 4 - 1 by decide,Vs]
    have hi16:c / 16<16:=by omega
    have hj16:c % 16<16:=by omega
    have e4:(((⟨#[92,120]⟩:ByteArray)++bA [Dt (c / 16)])++bA [Dt (c % 16)])=bA [92,120,Dt (c / 16),Dt (c % 16)]:=by
     rw [show(⟨#[92,120]⟩:ByteArray)=bA [92,120]from rfl];exact(congrArg (·++bA [Dt (c % 16)]) (A7 _ _)).trans (A7 _ _)
    by_cases hlo:c<32
    ·have d1:decide ((c:Int)<32)=true:=decide_eq_true (by omega);(conv=>whnf);rw [d1];refine As.lex rfl (by kernel_rfl) (Hl (b:=4) (by decide) (Hl (b:=4) (by decide) ?_));(conv=>whnf);rw [w8 (x:=((c / 2 ^ 4:Nat):Int)+1) (by omega) (by omega)];refine MO Tryz.underlying9 (by omega) (by omega) (show((c / 2 ^ 4:Nat):Int)+1≤((16:Nat):Int) by omega) ?_;rw [show((c / 2 ^ 4:Nat):Int).toNat=c / 16 by omega,show(((c / 2 ^ 4:Nat):Int)+1).toNat=c / 16+1 by omega,Jq hi16];refine Bl (show 2+1≤maxLen by decide) ?_;refine It (b:=15) ⟨by simp [IntKind.min,IntKind.signed],by simp [IntKind.max,IntKind.signed,IntKind.bits];omega⟩ ⟨by decide,by decide⟩ ?_;refine It (b:=15) ⟨by simp [IntKind.min,IntKind.signed],by simp [IntKind.max,IntKind.signed,IntKind.bits];omega⟩ ⟨by decide,by decide⟩ ?_;rw [hand];(conv=>whnf);rw [w8 (x:=((c % 16:Nat):Int)+1) (by omega) (by omega)];refine MO Tryz.underlying9 (by omega) (by omega) (show((c % 16:Nat):Int)+1≤((16:Nat):Int) by omega) ?_;rw [show((c % 16:Nat):Int).toNat=c % 16 by omega,show(((c % 16:Nat):Int)+1).toNat=c % 16+1 by omega,Jq hj16];refine Bl (show 3+1≤maxLen by decide) ?_;(conv=>whnf);rw [←e4];exact⟨rfl,st1.old⟩
    ·have d1:decide ((c:Int)<32)=false:=decide_eq_false (by omega);have d2:decide ((c:Int)>126)=true:=decide_eq_true (by omega);(conv=>whnf);rw [d1];(conv=>whnf);rw [d2];refine As.lex rfl (by kernel_rfl) (Hl (b:=4) (by decide) (Hl (b:=4) (by decide) ?_));(conv=>whnf);rw [w8 (x:=((c / 2 ^ 4:Nat):Int)+1) (by omega) (by omega)];refine MO Tryz.underlying9 (by omega) (by omega) (show((c / 2 ^ 4:Nat):Int)+1≤((16:Nat):Int) by omega) ?_;rw [show((c / 2 ^ 4:Nat):Int).toNat=c / 16 by omega,show(((c / 2 ^ 4:Nat):Int)+1).toNat=c / 16+1 by omega,Jq hi16];refine Bl (show 2+1≤maxLen by decide) ?_;refine It (b:=15) ⟨by simp [IntKind.min,IntKind.signed],by simp [IntKind.max,IntKind.signed,IntKind.bits];omega⟩ ⟨by decide,by decide⟩ ?_;refine It (b:=15) ⟨by simp [IntKind.min,IntKind.signed],by simp [IntKind.max,IntKind.signed,IntKind.bits];omega⟩ ⟨by decide,by decide⟩ ?_;rw [hand];(conv=>whnf);rw [w8 (x:=((c % 16:Nat):Int)+1) (by omega) (by omega)];refine MO Tryz.underlying9 (by omega) (by omega) (show((c % 16:Nat):Int)+1≤((16:Nat):Int) by omega) ?_;rw [show((c % 16:Nat):Int).toNat=c % 16 by omega,show(((c % 16:Nat):Int)+1).toNat=c % 16+1 by omega,Jq hj16];refine Bl (show 3+1≤maxLen by decide) ?_;(conv=>whnf);rw [←e4];exact⟨rfl,st1.old⟩
   ·rw [hs0,if_neg hesc];have d1:decide ((c:Int)<32)=false:=decide_eq_false (by omega);have d2:decide ((c:Int)>126)=false:=decide_eq_false (by omega);(conv=>whnf);rw [d1];(conv=>whnf);rw [d2];refine Af (Jr s c H1) fun H2 ha2=>?_;have st2:=st1.call ha2;(conv=>whnf);rw [O3];have hone:∀{G:Aa} {q t:Nat},Blk G q t [.int .u8 (c:Int)]→∀(j x:Nat),[c][j]? =some x→VC.cell G q (0+j)=some (.int .u8 (x:Int)):=fun{G q t} hq j x hx=>by
     cases j with
     | zero=>cases hx;rw [hq.cell];rfl
     | succ j=>simp at hx
    cases spB s c with
    | true=>
      refine AM JX [.int .u8 (c:Int)] rfl rfl (by decide) (by decide) ?_;intro q4 H4 hq4 hs4 hb4 ha4;refine NF [c] rfl rfl rfl (hone hb4) rfl (Bl (show 1+1≤maxLen by decide) ?_);(conv=>whnf);exact⟨rfl,(st2.skip hq4 ha4).old⟩
    | false=>
      refine AM JX [.int .u8 (c:Int)] rfl rfl (by decide) (by decide) ?_;intro q4 H4 hq4 hs4 hb4 ha4;refine NF [c] rfl rfl rfl (hone hb4) rfl ?_;(conv=>whnf);exact⟨rfl,(st2.skip hq4 ha4).old⟩
theorem Tl{s:ByteArray}{c i:Nat}(h:s.data.toList[i]? =some (UInt8.ofNat c)):spB s c=true:=by
 unfold spB;rw [decide_eq_true_eq];have h1:=indexByte_ge s.data.toList (UInt8.ofNat c);apply Classical.byContradiction;intro h2;exact absurd h (indexByte_none (by omega) i)
theorem RO{s:ByteArray}{c:Nat}(h:∀i:Nat,s.data.toList[i]? ≠some (UInt8.ofNat c)):spB s c=false:=by
 unfold spB;rw [decide_eq_false_iff_not];intro h2;obtain⟨o,ho⟩:=Int.eq_ofNat_of_zero_le h2;exact h o (indexByte_some ho).1
theorem TZ{H:Aa}{s:ByteArray}{c:Nat}(hs:s.size≤1048576)(hc:c<256):Bv Tryz.prog 102 #[.string s,.int .u8 (c:Int)] H (.bool (spB s c)):=by
 refine Ao.of_vc Tryz.func102 rfl (Tryz.call102 _) ?_;have hsz:s.data.toList.length=s.size:=rfl;(conv=>whnf);refine AH.mk [5] (fun i:Nat=>[.int .i64 (i:Int)]) (fun i H1=>i≤s.size∧(∀j,j<i→s.data.toList[j]? ≠some (UInt8.ofNat c))∧St H H1 []) (fun i _=>s.size - i) ?_ ?_
 ·(conv=>whnf);exact⟨0,rfl,by omega,fun j hj=>by omega,St.nil H⟩
 ·rintro i H1 junk1 ⟨hi,hno,st1⟩;refine AQ.mk (fun hz=>?_) (fun hz=>?_)<;>simp only [decide_eq_true_eq,decide_eq_false_iff_not]at hz
  ·obtain⟨x,hx⟩:=Bw (l:=s.data.toList) (k:=i) (by omega);have hx2:s.data[i]? =some x:=by rw [←V9];exact hx
   refine CS Tryz.underlying9 rfl hx2 ?_;by_cases he:x.toNat=c
   ·have d1:((x.toNat:Int)==(c:Int))=true:=by rw [he];exact beq_self_eq_true _
    have hxc:x=UInt8.ofNat c:=by rw [←he];simp
    rw [Tl (i:=i) (by rw [←hxc];exact hx)];(conv=>whnf);rw [d1];(conv=>whnf);exact⟨rfl,st1.old⟩
   ·have d1:((x.toNat:Int)==(c:Int))=false:=beq_eq_false_iff_ne.2 (by omega);(conv=>whnf);rw [d1];(conv=>whnf);rw [w64 (x:=(i:Int)+1) (by omega) (by omega)];refine⟨rfl,i+1,by simp,⟨by omega,fun j hj=>?_,st1⟩,by omega⟩;rcases Vf (VK hj)with hj | rfl
    ·exact hno j hj
    ·rw [hx];intro e;injection e with e
     apply he;rw [e,UInt8.toNat_ofNat'];omega
  ·obtain rfl:i=s.size:=by omega
   (conv=>whnf);rw [RO fun j=>by
    by_cases hj:j<s.size
    ·exact hno j hj
    ·rw [UT (by omega)];exact fun e=>by cases e]
   exact⟨rfl,st1.old⟩
def Da:ByteArray:=⟨#[40,41,91,93,123,125,124,38,45,42,43,63,46,92,47,94]⟩
def Bg:ByteArray:=⟨#[92,93,91,45,94,47]⟩
theorem KJ{H:Aa}{c:Nat}(hc:c<256):Bv Tryz.prog 84 #[.int .u8 (c:Int)] H (.bool (spB Da c)):=by
 refine Ao.of_vc Tryz.func84 rfl (Tryz.call84 _) (Af (TZ (s:=Da) (by decide) hc) fun H1 ha1=>?_);(conv=>whnf);exact⟨rfl,ha1⟩
theorem Dg{H:Aa}{c:Nat}(hc:c<256):Bv Tryz.prog 83 #[.int .u8 (c:Int)] H (.bool (spB Bg c)):=by
 refine Ao.of_vc Tryz.func83 rfl (Tryz.call83 _) (Af (TZ (s:=Bg) (by decide) hc) fun H1 ha1=>?_);(conv=>whnf);exact⟨rfl,ha1⟩
theorem Lw{i:Nat}(hi:i<16):(⟨#[48,49,50,51,52,53,54,55,56,57,97,98,99,100,101,102]⟩:ByteArray).data[i]? =some (UInt8.ofNat (Dt i)):=by
 have:∀i:Fin 16,(⟨#[48,49,50,51,52,53,54,55,56,57,97,98,99,100,101,102]⟩:ByteArray).data[i.1]? =some (UInt8.ofNat (Dt i.1)):=by decide
 exact this ⟨i,hi⟩
theorem Jp{i:Nat}(hi:i<16):Dt i<256:=by unfold Dt;split<;>omega
theorem LG{n:Nat}(h:n<256):(UInt8.ofNat n).toNat=n:=by rw [UInt8.toNat_ofNat'];omega
theorem F5{H:Aa}{c:Nat}{sp:Bool}(hc:c<256):Bv Tryz.prog 96 #[.int .u8 (c:Int),.bool sp] H (.string (bA (Cy c sp))):=by
 refine Ao.of_vc Tryz.func96 rfl (Tryz.call96 _) ?_;have dn:∀(k:Nat),c≠k→((c:Int)==(k:Int))=false:=fun k h=>beq_eq_false_iff_ne.2 (by omega);by_cases h10:c=10
 ·subst h10;(conv=>whnf);exact⟨rfl,Agr.refl _ _⟩
 by_cases h13:c=13
 ·subst h13;(conv=>whnf);exact⟨rfl,Agr.refl _ _⟩
 by_cases h9:c=9
 ·subst h9;(conv=>whnf);exact⟨rfl,Agr.refl _ _⟩
 have hs0:Cy c sp=if c<32∨126<c then [92,120,Dt (c / 16),Dt (c % 16)]else if sp then [92,c]else [c]:=by
  unfold Cy;rw [if_neg h10,if_neg h13,if_neg h9]
 have b10:((c:Int)==10)=false:=dn 10 h10;have b13:((c:Int)==13)=false:=dn 13 h13;have b9:((c:Int)==9)=false:=dn 9 h9;(conv=>whnf);rw [b10];(conv=>whnf);rw [b13];(conv=>whnf);rw [b9];have hone:∀{G:Aa} {q t:Nat},Blk G q t [.int .u8 (c:Int)]→∀(j x:Nat),[c][j]? =some x→VC.cell G q (0+j)=some (.int .u8 (x:Int)):=fun{G q t} hq j x hx=>by
  cases j with
  | zero=>cases hx;rw [hq.cell];rfl
  | succ j=>simp at hx
 by_cases hesc:c<32∨126<c
 ·rw [hs0,if_pos hesc];have hi16:c / 16<16:=by omega
  have hj16:c % 16<16:=by omega
  have e4:((⟨#[92,120]⟩:ByteArray)++bA [Dt (c / 16),Dt (c % 16)])=bA [92,120,Dt (c / 16),Dt (c % 16)]:=by
   rw [show(⟨#[92,120]⟩:ByteArray)=bA [92,120]from rfl];exact A7 _ _
  have two:∀{G:Aa} {q t:Nat},Blk G q t ([.int .u8 (Dt (c / 16):Int)]++[.int .u8 (Dt (c % 16):Int)])→∀(j x:Nat),[Dt (c / 16),Dt (c % 16)][j]? =some x→VC.cell G q (0+j)=some (.int .u8 (x:Int)):=fun{G q t} hq j x hx=>by
   match j with
   | 0=>cases hx;rw [hq.cell];rfl
   | 1=>cases hx;rw [hq.cell];rfl
   | j+2=>simp at hx
  by_cases hlo:c<32
  ·have d1:decide ((c:Int)<32)=true:=decide_eq_true (by omega);(conv=>whnf);rw [d1];refine As.heldZ (Old H) [] (sq [0,1,2,3,4,5,6,7] (.f 8 (.f 9 (sq [10] (.f 11 .e))))) rfl (by kernel_rfl) ?_;refine Px (b:=16) (by decide) ⟨by simp [IntKind.min,IntKind.signed],by simp [IntKind.max,IntKind.signed,IntKind.bits];omega⟩ ?_;refine CS Tryz.underlying9 rfl (Lw hi16) (RZ (b:=16) (by decide) (CS Tryz.underlying9 rfl (Lw hj16) ?_));rw [LG (Jp hi16),LG (Jp hj16)];refine O6 JX [.int .u8 (Dt (c / 16):Int)] [.int .u8 (Dt (c % 16):Int)] rfl rfl rfl rfl (by decide) (by decide) ?_;intro q4 H4 hq4 hs4 hb4 ha4;have g4:Agr (Old H) H H4:=ha4.mono fun k hk=>by have:k<H.size:=hk;omega
   refine⟨g4,?_⟩;refine NF [Dt (c / 16),Dt (c % 16)] rfl rfl rfl (two hb4) rfl (⟨g4,?_⟩);refine Bl (show 2+2≤maxLen by decide) ?_;(conv=>whnf);rw [←e4];exact⟨g4,rfl,g4⟩
  ·have d1:decide ((c:Int)<32)=false:=decide_eq_false (by omega);have d2:decide ((c:Int)>126)=true:=decide_eq_true (by omega);(conv=>whnf);rw [d1];(conv=>whnf);rw [d2];refine As.heldZ (Old H) [] (sq [0,1,2,3,4,5,6,7] (.f 8 (.f 9 (sq [10] (.f 11 .e))))) rfl (by kernel_rfl) ?_;refine Px (b:=16) (by decide) ⟨by simp [IntKind.min,IntKind.signed],by simp [IntKind.max,IntKind.signed,IntKind.bits];omega⟩ ?_;refine CS Tryz.underlying9 rfl (Lw hi16) (RZ (b:=16) (by decide) (CS Tryz.underlying9 rfl (Lw hj16) ?_));rw [LG (Jp hi16),LG (Jp hj16)];refine O6 JX [.int .u8 (Dt (c / 16):Int)] [.int .u8 (Dt (c % 16):Int)] rfl rfl rfl rfl (by decide) (by decide) ?_;intro q4 H4 hq4 hs4 hb4 ha4;have g4:Agr (Old H) H H4:=ha4.mono fun k hk=>by have:k<H.size:=hk;omega
   refine⟨g4,?_⟩;refine NF [Dt (c / 16),Dt (c % 16)] rfl rfl rfl (two hb4) rfl (⟨g4,?_⟩);refine Bl (show 2+2≤maxLen by decide) ?_;(conv=>whnf);rw [←e4];exact⟨g4,rfl,g4⟩
 ·rw [hs0,if_neg hesc];have d1:decide ((c:Int)<32)=false:=decide_eq_false (by omega);have d2:decide ((c:Int)>126)=false:=decide_eq_false (by omega);(conv=>whnf);rw [d1];(conv=>whnf);rw [d2];cases sp with
  | true=>
    refine AM JX [.int .u8 (c:Int)] rfl rfl (by decide) (by decide) ?_;intro q4 H4 hq4 hs4 hb4 ha4;refine NF [c] rfl rfl rfl (hone hb4) rfl (Bl (show 1+1≤maxLen by decide) ?_);(conv=>whnf);exact⟨rfl,((St.nil H).skip hq4 ha4).old⟩
  | false=>
    refine AM JX [.int .u8 (c:Int)] rfl rfl (by decide) (by decide) ?_;intro q4 H4 hq4 hs4 hb4 ha4;refine NF [c] rfl rfl rfl (hone hb4) rfl ?_;(conv=>whnf);exact⟨rfl,((St.nil H).skip hq4 ha4).old⟩
abbrev R3(k:Nat):List Nat:=Cy k (spB Bg k)
theorem CH(c:Nat)(sp:Bool):(Cy c sp).length≤4:=by
 unfold Cy
 repeat' split
 all_goals simp
def hiM(t:Nat→Bool)(i:Nat):Nat:=i+((List.range' (i+1) (255 - i)).takeWhile t).length
theorem Hn{t:Nat→Bool}:∀(m a k:Nat),k≤m→(∀q,q<k→t (a+q)=true)→(k=m∨t (a+k)=false)→((List.range' a m).takeWhile t).length=k
 | 0,a,k,hk,_,_=>by
   obtain rfl:k=0:=by omega
   rfl
 | m+1,a,0,hk,_,he=>by
   rcases he with he | he
   ·omega
   ·rw [VQ,List.takeWhile_cons_of_neg (by rw [Nat.add_zero]at he;rw [he];decide)];rfl
 | m+1,a,k+1,hk,h,he=>by
   rw [VQ,List.takeWhile_cons_of_pos (by have:=h 0 (by omega);simpa using this),US];rw [Hn m (a+1) k (by omega) (fun q hq=>by have:=h (q+1) (by omega);rw [show a+1+q=a+(q+1) by omega];exact this) (by
    rcases he with he | he
    ·exact .inl (by omega)
    ·exact .inr (by rw [show a+1+k=a+(k+1) by omega];exact he))]
theorem Sv{t:Nat→Bool}{i j:Nat}(h1:i≤j)(h2:j≤255)(h:∀k,i<k→k≤j→t k=true)(he:j=255∨t (j+1)=false):hiM t i=j:=by
 unfold hiM;rw [Hn (255 - i) (i+1) (j - i) (by omega) (fun q hq=>h _ (by omega) (by omega)) (by
  rcases he with he | he
  ·exact .inl (by omega)
  ·exact .inr (by rw [show i+1+(j - i)=j+1 by omega];exact he))]
 omega
def EY(i j:Nat):List Nat:=R3 i++(if i+1<j then [45]else [])++(if i<j then R3 j else [])
def L7(t:Nat→Bool)(i:Nat):List Nat:=if t i&& !(decide (0<i)&&t (i - 1))then EY i (hiM t i)else []
def EA(t:Nat→Bool)(n:Nat):List Nat:=(UM n).flatMap (L7 t)
theorem RK(i j:Nat):(EY i j).length≤9:=by
 unfold EY;have h1:(R3 i).length≤4:=CH i (spB Bg i);have h2:(R3 j).length≤4:=CH j (spB Bg j);simp only [UL];split<;>split<;>simp only [US,UY]<;>omega
theorem RB(t:Nat→Bool)(i:Nat):(L7 t i).length≤9:=by
 unfold L7;split
 ·exact RK _ _
 ·exact Vj _
theorem Fy(t:Nat→Bool)(n:Nat):EA t (n+1)=EA t n++L7 t n:=by
 unfold EA;rw [List.range_succ,List.flatMap_append];simp
theorem Jb(t:Nat→Bool):∀n,(EA t n).length≤9*n
 | 0=>UP _
 | n+1=>by
   rw [Fy,UL];have:=Jb t n;have:=RB t n;omega
theorem NQ{t:Nat→Bool}{i:Nat}(h:t i=false):EA t (i+1)=EA t i:=by
 rw [Fy];unfold L7;rw [h];simp
theorem Qw{t:Nat→Bool}{k:Nat}(h0:0<k)(h:t (k - 1)=true):L7 t k=[]:=by
 unfold L7;rw [h,decide_eq_true h0];simp
theorem PF{t:Nat→Bool}{i:Nat}:∀d,(∀k,i≤k→k<i+d→t k=true)→EA t (i+1+d)=EA t (i+1)
 | 0,_=>rfl
 | d+1,h=>by
   rw [show i+1+(d+1)=(i+1+d)+1 by omega,Fy,Qw (by omega) (h _ (by omega) (by omega)),Vu];exact PF d fun k h1 h2=>h k h1 (by omega)
theorem NR{t:Nat→Bool}{i j:Nat}(hi:t i=true)(hp:i=0∨t (i - 1)=false)(h1:i≤j)(h2:j≤255)(h:∀k,i<k→k≤j→t k=true)(he:j=255∨t (j+1)=false):EA t (j+1)=EA t i++EY i j:=by
 have:=PF (t:=t) (i:=i) (j - i) fun k hk1 hk2=>by
  rcases Vf hk1 with hk | rfl
  ·exact h k hk (by omega)
  ·exact hi
 rw [show j+1=i+1+(j - i) by omega,this,Fy]
 congr 1
 unfold L7;have e:(decide (0<i)&&t (i - 1))=false:=by
  rcases hp with rfl | hp
  ·rfl
  ·rw [hp];simp
 rw [hi,e,Sv h1 h2 h he];rfl
def Ge(s:BitVec 256):List Nat:=if Bp s=1 then Cy (Et s 0).1 (spB Da (Et s 0).1)else(if 128<Bp s then [91,94]else [91])++EA (fun k=>(if 128<Bp s then ~~~s else s).getLsbD k) 256++[93]
theorem MC(s:BitVec 256):(Ge s).length≤2400:=by
 unfold Ge;split
 ·exact V5 (CH _ _) (by decide)
 ·have:=Jb (fun k=>(if 128<Bp s then ~~~s else s).getLsbD k) 256;generalize EA (fun k=>(if 128<Bp s then ~~~s else s).getLsbD k) 256=l at*;have h2:(if 128<Bp s then [91,94]else [91]:List Nat).length≤2:=by split<;>decide
  simp only [UL,Vn];omega
end Go.Proofs.YtlnmhfhdjnenoaaGreatDoor
namespace Go.Proofs.YtlnmhfhdjnenoaaGreatDoor
open Go.VC
def AC:ReM→Nat
 | .eps=>4
 | .cls _=>4
 | .cat _ _=>2
 | .alt _ _=>0
 | .star _=>3
 | .and_ _ _=>1
 | .minus _ _=>1
def AR(k need:Nat)(l:List Nat):List Nat:=if k<need then [40]++l++[41]else l
def Am:ReM→List Nat
 | .eps=>[40,41]
 | .cls s=>Ge s
 | .alt a b=>AR (AC a) 0 (Am a)++[124]++AR (AC b) 1 (Am b)
 | .and_ a b=>AR (AC a) 1 (Am a)++[38]++AR (AC b) 2 (Am b)
 | .minus a b=>AR (AC a) 1 (Am a)++[45]++AR (AC b) 2 (Am b)
 | .cat a b=>AR (AC a) 2 (Am a)++AR (AC b) 3 (Am b)
 | .star a=>AR (AC a) 3 (Am a)++[42]
theorem AN(k n:Nat)(l:List Nat):(AR k n l).length≤l.length+2:=by
 unfold AR;split
 ·simp only [UL,US,UY];omega
 ·omega
theorem Bi:∀r:ReM,(Am r).length+4≤2410*r.nodes:=by
 intro r
 induction r with
 | eps=>simp only [Am,ReM.nodes,US,UY];omega
 | cls s=>
   have:=MC s;simp only [Am,ReM.nodes];omega
 | cat a b iha ihb=>
   have:=AN (AC a) 2 (Am a);have:=AN (AC b) 3 (Am b);simp only [Am,ReM.nodes,UL];omega
 | alt a b iha ihb=>
   have:=AN (AC a) 0 (Am a);have:=AN (AC b) 1 (Am b);simp only [Am,ReM.nodes,UL,US,UY];omega
 | star a iha=>
   have:=AN (AC a) 3 (Am a);simp only [Am,ReM.nodes,UL,US,UY];omega
 | and_ a b iha ihb | minus a b iha ihb=>
   have:=AN (AC a) 1 (Am a);have:=AN (AC b) 2 (Am b);simp only [Am,ReM.nodes,UL,US,UY];omega
end Go.Proofs.YtlnmhfhdjnenoaaGreatDoor
namespace Go.Proofs.YtlnmhfhdjnenoaaGreatDoor
open Go.VC Go.Lib
theorem bsz(w:List Nat):(bA w).size=w.length:=by unfold bA;simp [ByteArray.size]
theorem BN{u v:List Nat}(hu:u.length≤4096)(hv:v.length≤4096):(bA u).size+(bA v).size≤maxLen:=by
 rw [bsz,bsz];unfold maxLen;omega
theorem Ti{H:Aa}{s:BitVec 256}(hE:DP H):Bv Tryz.prog 74 #[BT s] H (.string (bA (Ge s))):=by
 refine Ao.of_vc Tryz.func74 rfl (Tryz.call74 _) ?_;have hld:∀{G:Aa} {p:Nat} {x:BitVec 256},Blk G p 102 (Ak x)→Bo G p 0 (Ak x):=fun h=>h.cells fun j v hv=>by rw [UN];exact hv
 refine BM (Ak s) rfl ?_;intro p H1 hp hs1 hb1 ha1;have st1:=(St.nil H).box hp hs1 hb1 ha1;refine ldN (cs:=Ak s) B0 (hld (st1.blk 0 rfl)) trivial (Af (Rl s H1) fun H2 ha2=>?_);have st2:=st1.call ha2;by_cases h1:Bp s=1
 ·have d1:((Bp s:Int)==1)=true:=by rw [h1];rfl
  have hsh:Ge s=Cy (Et s 0).1 (spB Da (Et s 0).1):=if_pos h1;(conv=>whnf);rw [d1];refine ldN (cs:=Ak s) B0 (hld (st2.blk 0 rfl)) trivial (Af (SY s 0 (by decide) H2) fun H3 ha3=>?_);have st3:=st2.call ha3;refine Af (Fa (s:=Da) (hE.agr st3.old) (Qn s 0)) fun H4 ha4=>?_;(conv=>whnf);rw [hsh];exact⟨rfl,(st3.call ha4).old⟩
 ·have d1:((Bp s:Int)==1)=false:=beq_eq_false_iff_ne.2 (by omega);(conv=>whnf);rw [d1];obtain⟨u,hu⟩:∃u,u=(if 128<Bp s then ~~~s else s):=⟨_,rfl⟩;obtain⟨opn,ho⟩:∃l:List Nat,l=(if 128<Bp s then [91,94]else [91]):=⟨_,rfl⟩;have hsh:Ge s=opn++EA (fun k=>u.getLsbD k) 256++[93]:=by rw [hu,ho];exact if_neg h1
  have hol:opn.length≤2:=by rw [ho];split<;>decide
  (conv=>whnf);refine Al.cut [6] (fun _:Unit=>[.string (bA opn)]) (fun _ H3=>St H H3 [pB 102 p (Ak u)]) ?_ ?_
  ·by_cases h128:128<Bp s
   ·have d2:decide ((Bp s:Int)>128)=true:=decide_eq_true (by omega);(conv=>whnf);rw [d2];refine ldN (cs:=Ak s) B0 (hld (st2.blk 0 rfl)) trivial (Af (Qo s H2) fun H3 ha3=>(Ay (cs:=Ak (~~~s)) (st2.call ha3) 0 rfl rfl (UP _) rfl fun H4 st4=>?_));rw [Ae (show(Ak (~~~s)).length=(Ak s).length from rfl)]at st4;(conv=>whnf);exact⟨rfl,(),by rw [ho,if_pos h128];rfl,by rw [hu,if_pos h128];exact st4⟩
   ·have d2:decide ((Bp s:Int)>128)=false:=decide_eq_false (by omega);(conv=>whnf);rw [d2];(conv=>whnf);exact⟨rfl,(),by rw [ho,if_neg h128];rfl,by rw [hu,if_neg h128];exact st2⟩
  ·rintro⟨⟩ H3 junk3 st3;rw [hsh];clear hsh ho hu st1 st2;obtain⟨t,ht⟩:∃t:Nat→Bool,t=fun k=>u.getLsbD k:=⟨_,rfl⟩;have htk:∀k,u.getLsbD k=t k:=fun k=>by rw [ht]
   rw [←ht];have hbl:∀n,n≤256→(opn++EA t n).length≤2306:=fun n hn=>by
    have:=Jb t n;rw [UL];omega
   (conv=>whnf);refine AH.mk [6,7] (fun i:Nat=>[.string (bA (opn++EA t i)),.int .i64 (i:Int)]) (fun i H4=>i≤256∧(i=0∨i=256∨t (i - 1)=false∨t i=false)∧St H H4 [pB 102 p (Ak u)]) (fun i _=>256 - i) ?_ ?_
   ·(conv=>whnf);exact⟨0,by rw [show EA t 0=[]from rfl,Vu];rfl,Vj _,.inl rfl,st3⟩
   ·clear st3;rintro i H4 junk4 ⟨hi,hpre,st4⟩;refine AQ.mk (fun hz=>?_) (fun hz=>?_)<;>simp only [decide_eq_true_eq,decide_eq_false_iff_not]at hz
    ·have hi8:i<256:=by omega
     refine Al.run (ldN (cs:=Ak u) B0 (hld (st4.blk 0 rfl)) trivial ?_);(conv=>whnf);rw [w8 (x:=(i:Int)) (by omega) (by omega)];refine Af (Ol u i hi8 H4) fun H5 ha5=>?_;have st5:=st4.call ha5;rw [htk];cases hti:t i with
     | false=>
       (conv=>whnf);rw [w64 (x:=(i:Int)+1) (by omega) (by omega)];exact⟨rfl,i+1,by rw [NQ hti];simp,⟨by omega,.inr (.inr (.inl hti)),st5⟩,by omega⟩
     | true=>
       have hpr:i=0∨t (i - 1)=false:=by
        rcases hpre with h | h | h | h
        ·exact .inl h
        ·omega
        ·exact .inr h
        ·rw [hti]at h;cases h
       (conv=>whnf);refine AH.mk [8] (fun j:Nat=>[.int .i64 (j:Int)]) (fun j H6=>i≤j∧j≤255∧(∀k,i<k→k≤j→t k=true)∧St H H6 [pB 102 p (Ak u)]) (fun j _=>255 - j) ?_ ?_
       ·(conv=>whnf);exact⟨i,rfl,UP _,by omega,fun k h1 h2=>by omega,st5⟩
       ·clear st5 st4 ha5;rintro j H6 junk6 ⟨hij,hj,hrun,st6⟩;by_cases hj2:j<255
        ·have d3:decide ((j:Int)<255)=true:=decide_eq_true (by omega);(conv=>whnf);rw [d3];refine ldN (cs:=Ak u) B0 (hld (st6.blk 0 rfl)) trivial ?_;(conv=>whnf);rw [w64 (x:=(j:Int)+1) (by omega) (by omega)];(conv=>whnf);rw [w8 (x:=(j:Int)+1) (by omega) (by omega)];rw [show(j:Int)+1=((j+1:Nat):Int) by omega];refine Af (Ol u (j+1) (by omega) H6) fun H7 ha7=>?_;have st7:=st6.call ha7;rw [htk];cases htj:t (j+1)with
         | true=>
           (conv=>whnf);rw [w64 (x:=(j:Int)+1) (by omega) (by omega)];refine⟨rfl,j+1,by simp,⟨by omega,by omega,fun k h1 h2=>?_,st7⟩,by omega⟩;rcases Vf h2 with h2 | rfl
           ·exact hrun k h1 (by omega)
           ·exact htj
         | false=>
           have he:j=255∨t (j+1)=false:=.inr htj;have hbr:=NR hti hpr hij hj hrun he;have hil:(Cy i (spB Bg i)).length≤4:=CH _ _;have hjl:(Cy j (spB Bg j)).length≤4:=CH _ _;have hbi:opn.length+(EA t i).length≤2306:=by rw [←UL];exact hbl i (by omega)
           (conv=>whnf);rw [w8 (x:=(i:Int)) (by omega) (by omega)];refine Af (Fa (s:=Bg) (hE.agr st7.old) hi8) fun H8 ha8=>?_;have st8:=st7.call ha8;refine Bl (BN (by rw [UL];omega) (show(Cy i (spB Bg i)).length≤4096 by omega)) ?_;rw [A7];refine Al.run ?_;(conv=>whnf);rw [w64 (x:=(i:Int)+1) (by omega) (by omega)];rcases(show j=i∨j=i+1∨i+1<j by omega)with hc3 | hc3 | hc3
           ·have e1:decide ((j:Int)>(i:Int)+1)=false:=decide_eq_false (by omega);have e2:decide ((j:Int)>(i:Int))=false:=decide_eq_false (by omega);(conv=>whnf);rw [e1];refine Al.run ?_;(conv=>whnf);rw [e2];(conv=>whnf);rw [w64 (x:=(j:Int)+1) (by omega) (by omega)];refine⟨rfl,j+1,?_,⟨by omega,?_,st8⟩,by omega⟩
            ·rw [hbr];unfold EY;rw [if_neg (by omega),if_neg (by omega)];simp
            ·rcases he with he | he
             ·exact .inr (.inl (by omega))
             ·exact .inr (.inr (.inr he))
           ·have e1:decide ((j:Int)>(i:Int)+1)=false:=decide_eq_false (by omega);have e2:decide ((j:Int)>(i:Int))=true:=decide_eq_true (by omega);(conv=>whnf);rw [e1];refine Al.run ?_;(conv=>whnf);rw [e2];(conv=>whnf);rw [w8 (x:=(j:Int)) (by omega) (by omega)];refine Af (Fa (s:=Bg) (hE.agr st8.old) (show j<256 by omega)) fun H9 ha9=>?_;have st9:=st8.call ha9;refine Bl (BN (by simp only [UL];omega) (show(Cy j (spB Bg j)).length≤4096 by omega)) ?_;rw [A7];(conv=>whnf);rw [w64 (x:=(j:Int)+1) (by omega) (by omega)];refine⟨rfl,j+1,?_,⟨by omega,?_,st9⟩,by omega⟩
            ·rw [hbr];unfold EY;rw [if_neg (by omega),if_pos (by omega)];simp
            ·rcases he with he | he
             ·exact .inr (.inl (by omega))
             ·exact .inr (.inr (.inr he))
           ·have e1:decide ((j:Int)>(i:Int)+1)=true:=decide_eq_true (by omega);have e2:decide ((j:Int)>(i:Int))=true:=decide_eq_true (by omega);(conv=>whnf);rw [e1];refine Bl (BN (v:=[45]) (by simp only [UL];omega) (by decide)) ?_;rw [show(⟨#[45]⟩:ByteArray)=bA [45]from rfl,A7];refine Al.run ?_;(conv=>whnf);rw [e2];(conv=>whnf);rw [w8 (x:=(j:Int)) (by omega) (by omega)];refine Af (Fa (s:=Bg) (hE.agr st8.old) (show j<256 by omega)) fun H9 ha9=>?_;have st9:=st8.call ha9;refine Bl (BN (by simp only [UL,Vn];omega) (show(Cy j (spB Bg j)).length≤4096 by omega)) ?_;rw [A7];(conv=>whnf);rw [w64 (x:=(j:Int)+1) (by omega) (by omega)];refine⟨rfl,j+1,?_,⟨by omega,?_,st9⟩,by omega⟩
            ·rw [hbr];unfold EY;rw [if_pos (by omega),if_pos (by omega)];simp
            ·rcases he with he | he
             ·exact .inr (.inl (by omega))
             ·exact .inr (.inr (.inr he))
        ·have d3:decide ((j:Int)<255)=false:=decide_eq_false (by omega);have he:j=255∨t (j+1)=false:=.inl (by omega);have st7:=st6;have H7:=H6;(conv=>whnf);rw [d3];have hbr:=NR hti hpr hij hj hrun he;have hil:(Cy i (spB Bg i)).length≤4:=CH _ _;have hjl:(Cy j (spB Bg j)).length≤4:=CH _ _;have hbi:opn.length+(EA t i).length≤2306:=by rw [←UL];exact hbl i (by omega)
         (conv=>whnf);rw [w8 (x:=(i:Int)) (by omega) (by omega)];refine Af (Fa (s:=Bg) (hE.agr st7.old) hi8) fun H8 ha8=>?_;have st8:=st7.call ha8;refine Bl (BN (by rw [UL];omega) (show(Cy i (spB Bg i)).length≤4096 by omega)) ?_;rw [A7];refine Al.run ?_;(conv=>whnf);rw [w64 (x:=(i:Int)+1) (by omega) (by omega)];rcases(show j=i∨j=i+1∨i+1<j by omega)with hc3 | hc3 | hc3
         ·have e1:decide ((j:Int)>(i:Int)+1)=false:=decide_eq_false (by omega);have e2:decide ((j:Int)>(i:Int))=false:=decide_eq_false (by omega);(conv=>whnf);rw [e1];refine Al.run ?_;(conv=>whnf);rw [e2];(conv=>whnf);rw [w64 (x:=(j:Int)+1) (by omega) (by omega)];refine⟨rfl,j+1,?_,⟨by omega,?_,st8⟩,by omega⟩
          ·rw [hbr];unfold EY;rw [if_neg (by omega),if_neg (by omega)];simp
          ·rcases he with he | he
           ·exact .inr (.inl (by omega))
           ·exact .inr (.inr (.inr he))
         ·have e1:decide ((j:Int)>(i:Int)+1)=false:=decide_eq_false (by omega);have e2:decide ((j:Int)>(i:Int))=true:=decide_eq_true (by omega);(conv=>whnf);rw [e1];refine Al.run ?_;(conv=>whnf);rw [e2];(conv=>whnf);rw [w8 (x:=(j:Int)) (by omega) (by omega)];refine Af (Fa (s:=Bg) (hE.agr st8.old) (show j<256 by omega)) fun H9 ha9=>?_;have st9:=st8.call ha9;refine Bl (BN (by simp only [UL];omega) (show(Cy j (spB Bg j)).length≤4096 by omega)) ?_;rw [A7];(conv=>whnf);rw [w64 (x:=(j:Int)+1) (by omega) (by omega)];refine⟨rfl,j+1,?_,⟨by omega,?_,st9⟩,by omega⟩
          ·rw [hbr];unfold EY;rw [if_neg (by omega),if_pos (by omega)];simp
          ·rcases he with he | he
           ·exact .inr (.inl (by omega))
           ·exact .inr (.inr (.inr he))
         ·have e1:decide ((j:Int)>(i:Int)+1)=true:=decide_eq_true (by omega);have e2:decide ((j:Int)>(i:Int))=true:=decide_eq_true (by omega);(conv=>whnf);rw [e1];refine Bl (BN (v:=[45]) (by simp only [UL];omega) (by decide)) ?_;rw [show(⟨#[45]⟩:ByteArray)=bA [45]from rfl,A7];refine Al.run ?_;(conv=>whnf);rw [e2];(conv=>whnf);rw [w8 (x:=(j:Int)) (by omega) (by omega)];refine Af (Fa (s:=Bg) (hE.agr st8.old) (show j<256 by omega)) fun H9 ha9=>?_;have st9:=st8.call ha9;refine Bl (BN (by simp only [UL,Vn];omega) (show(Cy j (spB Bg j)).length≤4096 by omega)) ?_;rw [A7];(conv=>whnf);rw [w64 (x:=(j:Int)+1) (by omega) (by omega)];refine⟨rfl,j+1,?_,⟨by omega,?_,st9⟩,by omega⟩
          ·rw [hbr];unfold EY;rw [if_pos (by omega),if_pos (by omega)];simp
          ·rcases he with he | he
           ·exact .inr (.inl (by omega))
           ·exact .inr (.inr (.inr he))
    ·obtain rfl:i=256:=by omega
     refine Bl (BN (v:=[93]) (V5 (hbl 256 (UP _)) (by decide)) (by decide)) ?_;rw [show(⟨#[93]⟩:ByteArray)=bA [93]from rfl,A7];(conv=>whnf);exact⟨rfl,st4.old⟩
end Go.Proofs.YtlnmhfhdjnenoaaGreatDoor
namespace Go.Proofs.YtlnmhfhdjnenoaaGreatDoor
open Go.VC
structure EdM where
 fr:Int
 to:Int
 sil:Bool
 set:BitVec 256
structure NfM where
 st:Int
 start:Int
 fin:Int
 edges:List EdM
def NfM.has(a:NfM)(q:Int):Bool:=decide (0≤q)&&decide (q<a.st)&&decide (a.st≤65536)
theorem NfM.has_iff{a:NfM}{q:Int}:a.has q=true↔0≤q∧q<a.st∧a.st≤65536:=by
 unfold NfM.has;simp only [UR,decide_eq_true_eq,and_assoc]
inductive Iv(a:NfM):Int→Int→Prop
 | refl (p:Int):Iv a p p
 | step {p:Int} {e:EdM}:Iv a p e.fr→e∈a.edges→e.sil=true→a.has e.to=true→Iv a p e.to
theorem Iv.trans{a:NfM}{p q r:Int}(h:Iv a p q)(k:Iv a q r):Iv a p r:=by
 induction k with
 | refl=>exact h
 | step _ h1 h2 h3 ih=>exact .step ih h1 h2 h3
abbrev PS:=Int→Prop
def clS(a:NfM)(X:PS):PS:=fun q=>∃p,X p∧Iv a p q
def PC(a:NfM):PS:=clS a fun q=>q=a.start∧a.has a.start=true
def U5(a:NfM)(X:PS)(b:Nat):PS:=fun q=>∃e∈a.edges,e.sil=false∧e.set.getLsbD b=true∧X e.fr∧a.has e.to=true∧q=e.to
def goS(a:NfM)(X:PS)(b:Nat):PS:=clS a (U5 a X b)
def JR(a:NfM)(s:List Nat):PS:=s.foldl (goS a) (PC a)
def HT(a:NfM)(X:PS):Prop:=∀e∈a.edges,e.sil=true→a.has e.to=true→X e.fr→X e.to
theorem PL{a:NfM}{X:PS}{q:Int}(h:X q):clS a X q:=⟨q,h,.refl q⟩
theorem Md(a:NfM)(X:PS):HT a (clS a X):=fun e h1 h2 h3 ⟨p,hp,hs⟩=>⟨p,hp,.step hs h1 h2 h3⟩
theorem Fz{a:NfM}{X Y:PS}(h:∀q,X q→Y q)(hs:HT a Y):∀q,clS a X q→Y q:=by
 rintro q ⟨p,hp,hq⟩
 induction hq with
 | refl=>exact h _ hp
 | step _ h1 h2 h3 ih=>exact hs _ h1 h2 h3 ih
theorem NU{a:NfM}{X:PS}(h:∀q,X q→a.has q=true):∀q,clS a X q→a.has q=true:=Fz h fun e _ _ h3 _=>h3
theorem PD(a:NfM):∀q,PC a q→a.has q=true:=NU fun q ⟨e,h⟩=>e ▸ h
theorem Rx(a:NfM)(X:PS)(b:Nat):∀q,goS a X b q→a.has q=true:=NU fun q ⟨e,_,_,_,_,h,hq⟩=>hq ▸ h
theorem KA(a:NfM)(s:List Nat)(b:Nat):JR a (s++[b])=goS a (JR a s) b:=by unfold JR;rw [VJ];rfl
theorem Ml(a:NfM):∀(s:List Nat) (X:PS),(∀q,X q→a.has q=true)→∀q,s.foldl (goS a) X q→a.has q=true
 | [],X,h=>h
 | b::s,X,h=>Ml a s (goS a X b) (Rx a X b)
theorem Ip(a:NfM)(s:List Nat):∀q,JR a s q→a.has q=true:=Ml a s _ (PD a)
theorem Rw{a:NfM}{X Y:PS}(h:∀q,X q↔Y q)(b:Nat):goS a X b=goS a Y b:=by
 have:X=Y:=funext fun q=>propext (h q);rw [this]
theorem MF:∀{l m:List Int},l.Pairwise (·<·)→m.Pairwise (·<·)→(∀q,q∈l↔q∈m)→l=m
 | [],[],_,_,_=>rfl
 | [],y::m,_,_,h=>by have:=(h y).2 (by simp);cases this
 | x::l,[],_,_,h=>by have:=(h x).1 (by simp);cases this
 | x::l,y::m,hl,hm,h=>by
   obtain⟨h1,h2⟩:=VG.1 hl;obtain⟨k1,k2⟩:=VG.1 hm;have hxy:x=y:=by
    have hx:=(h x).1 (by simp);have hy:=(h y).2 (by simp);rcases Vd.1 hx with e | hx
    ·exact e
    ·rcases Vd.1 hy with e | hy
     ·exact e.symm
     ·have:=h1 y hy;have:=k1 x hx;omega
   subst hxy
   congr 1
   refine MF h2 k2 fun q=>⟨fun hq=>?_,fun hq=>?_⟩
   ·rcases Vd.1 ((h q).1 (by simp [hq]))with e | h3
    ·have:=h1 q hq;omega
    ·exact h3
   ·rcases Vd.1 ((h q).2 (by simp [hq]))with e | h3
    ·have:=k1 q hq;omega
    ·exact h3
open Classical in
noncomputable def Kj(X:PS):List Int:=((UM 65536).map fun(n:Nat)=>(n:Int)).filter fun q=>decide (X q)
theorem Mu(X:PS):(Kj X).Pairwise (·<·):=by
 unfold Kj;refine List.Pairwise.filter _ ?_;rw [List.pairwise_map];exact List.pairwise_lt_range.imp fun h=>by omega
open Classical in
theorem Mt{X:PS}(h:∀q,X q→0≤q∧q<65536)(q:Int):q∈Kj X↔X q:=by
 unfold Kj;rw [VS,decide_eq_true_eq,List.mem_map];constructor
 ·exact fun⟨_,hx⟩=>hx
 ·intro hx;obtain⟨h1,h2⟩:=h q hx;exact⟨⟨q.toNat,Vx.2 (by omega),by omega⟩,hx⟩
theorem OQ{X:PS}{l:List Int}(h:∀q,X q→0≤q∧q<65536)(hs:l.Pairwise (·<·))(hm:∀q,q∈l↔X q):l=Kj X:=
 MF hs (Mu X) fun q=>(hm q).trans (Mt h q).symm
theorem Qk(X:PS):(Kj X).length≤65536:=by
 unfold Kj;exact V5 (V8 _ _) (by simp)
theorem Jo{a:NfM}{X:PS}(h:∀q,X q→a.has q=true):∀q,X q→0≤q∧q<65536:=fun q hq=>by
 have:=NfM.has_iff.1 (h q hq);omega
noncomputable def Pi(a:NfM)(s:List Nat):List Int:=Kj (JR a s)
theorem Q4(a:NfM)(s:List Nat)(q:Int):q∈Pi a s↔JR a s q:=Mt (Jo (Ip a s)) q
open Classical in
noncomputable def Ke(a:NfM)(s:List Nat):Bool:=decide (JR a s a.fin)
theorem J6(a:NfM)(s:List Nat):Ke a s=true↔JR a s a.fin:=by unfold Ke;simp
inductive Way(a:NfM):Int→List Nat→Int→Prop
 | nil {p:Int}:a.has p=true→Way a p [] p
 | sil {e:EdM} {s:List Nat} {q:Int}:e∈a.edges→e.sil=true→a.has e.fr=true→Way a e.to s q→Way a e.fr s q
 | hop {e:EdM} {b:Nat} {s:List Nat} {q:Int}:e∈a.edges→e.sil=false→e.set.getLsbD b=true→a.has e.fr=true→Way a e.to s q→Way a e.fr (b::s) q
theorem Way.ends{a:NfM}{p q:Int}{s:List Nat}(h:Way a p s q):a.has p=true∧a.has q=true:=by
 induction h with
 | nil h=>exact⟨h,h⟩
 | sil _ _ h _ ih=>exact⟨h,ih.2⟩
 | hop _ _ _ h _ ih=>exact⟨h,ih.2⟩
theorem Way.app{a:NfM}{p q r:Int}{s t:List Nat}(h:Way a p s q)(k:Way a q t r):Way a p (s++t) r:=by
 induction h with
 | nil h=>exact k
 | sil h1 h2 h3 _ ih=>exact .sil h1 h2 h3 (ih k)
 | hop h1 h2 h3 h4 _ ih=>exact .hop h1 h2 h3 h4 (ih k)
theorem MD{a:NfM}{p q:Int}(h:Iv a p q)(hp:a.has p=true):Way a p [] q:=by
 induction h with
 | refl=>exact .nil hp
 | step _ h1 h2 h3 ih=>
   have:=ih.app (.sil h1 h2 ih.ends.2 (.nil h3));simpa using this
theorem RF(a:NfM):∀(s:List Nat) (q:Int),JR a s q→Way a a.start s q:=by
 have key:∀(n:Nat) (s:List Nat),s.length=n→∀(q:Int),JR a s q→Way a a.start s q:=by
  intro n
  induction n with
  | zero=>
    intro s hs q h;obtain rfl:=Vb hs;obtain⟨p,⟨rfl,hp⟩,hq⟩:=h;exact MD hq hp
  | succ n ih=>
    intro s hs q h;obtain⟨t,b,rfl⟩:∃t b,s=t++[b]:=⟨s.dropLast,s.getLast (by intro e;subst e;simp at hs),(List.dropLast_concat_getLast _).symm⟩;rw [KA]at h;obtain⟨r,⟨e,h1,h2,h3,h4,h5,rfl⟩,hq⟩:=h;have w1:=ih t (by simpa using hs) e.fr h4;exact w1.app (.hop h1 h2 h3 w1.ends.2 (MD hq h5))
 exact fun s q h=>key s.length s rfl q h
theorem Sa{a:NfM}{p q:Int}{s:List Nat}(h:Way a p s q):∀(X:PS),HT a X→X p→s.foldl (goS a) X q:=by
 induction h with
 | nil h=>exact fun X _ hp=>hp
 | sil h1 h2 h3 h4 ih=>exact fun X hX hp=>ih X hX (hX _ h1 h2 h4.ends.1 hp)
 | hop h1 h2 h3 h4 h5 ih=>exact fun X hX hp=>ih _ (Md _ _) (PL ⟨_,h1,h2,h3,hp,h5.ends.1,rfl⟩)
theorem Rd(a:NfM)(s:List Nat):Ke a s=true↔Way a a.start s a.fin:=by
 rw [J6];exact⟨RF a s a.fin,fun h=>Sa h _ (Md a _) (PL ⟨rfl,h.ends.1⟩)⟩
def DV(x:BitVec 256)(k:Nat):List Value:=(UM 256).map fun b=>.bool (decide (b<k)&&x.getLsbD b)
def Ar(x:BitVec 256):List Value:=DV x 256
theorem BI(x:BitVec 256)(k:Nat):(DV x k).length=256:=by simp [DV]
theorem Hq(x:BitVec 256)(k:Nat){b:Nat}(h:b<256):(DV x k)[b]? =some (.bool (decide (b<k)&&x.getLsbD b)):=by
 unfold DV;rw [Vi,Vw h];rfl
theorem Kt(x:BitVec 256){b:Nat}(h:b<256):(Ar x)[b]? =some (.bool (x.getLsbD b)):=by
 unfold Ar;rw [Hq x 256 h];simp [h]
theorem MZ(x:BitVec 256){k:Nat}(h:k<256):(DV x k).set k (.bool (x.getLsbD k))=DV x (k+1):=by
 apply VL;intro i;by_cases hi:i<256
 ·rw [Hq _ _ hi,VM,BI];by_cases hik:k=i
  ·subst hik;simp [h]
  ·rw [if_neg hik,Hq _ _ hi];have:decide (i<k)=decide (i<k+1):=decide_eq_decide.2 (by omega);rw [this]
 ·rw [UT (by simp [BI];omega),UT (by simp [BI];omega)]
theorem LZ(x:BitVec 256):DV x 0=UU 256 (.bool false):=by
 unfold DV;simp [List.map_const']
theorem Ap(x:BitVec 256):(Ar x).length=256:=BI _ _
theorem GR(x:BitVec 256)(k:Nat):(DV x k).all (·.oneCell')=true:=by
 simp [DV,Value.oneCell']
theorem QW(x:BitVec 256)(b:Nat)(hb:b<256):((((wd x (b / 64) / 2 ^ (b % 64) % 2:Nat):Int)==(1:Int)))=x.getLsbD b:=by
 have h1:=D5 x (b / 64) (b % 64) (Nat.mod_lt _ (by decide));rw [show 64*(b / 64)+b % 64=b by omega]at h1;rw [←h1,Vl];have:=V1 (wd x (b / 64) / 2 ^ (b % 64));rcases this with h | h<;>simp [h]
theorem SH(x:BitVec 256)(H:Aa):Bv Tryz.prog 46 #[.agg (Ak x).toArray] H (.agg (Ar x).toArray):=by
 refine Ao.of_vc Tryz.func46 rfl (Tryz.call46 _) (BM (Ak x) rfl ?_);intro p1 H1 hp1 hs1 hb1 ha1;refine Ag _ (UU 256 (.bool false)) rfl rfl ?_;intro p2 H2 hp2 hs2 hb2 ha2;refine Ag _ (UU 256 (.bool false)) rfl rfl ?_;intro p3 H3 hp3 hs3 hb3 ha3;(conv=>whnf);refine AH.mk [4] (fun k:Nat=>[.int .i64 k]) (fun k H4=>k≤256∧Agr (fun j=>j<p3) H3 H4∧H4.size=H3.size∧Blk H4 p3 92 (DV x k)) (fun k _=>256 - k) ?_ ?_
 ·(conv=>whnf);exact⟨0,rfl,by omega,Agr.refl _ _,rfl,by rw [LZ];exact hb3⟩
 ·rintro k H4 junk ⟨hk,ha4,hs4,hb4⟩;have hb1':=((hb1.agr ha2 (show p1<p2 by omega)).agr ha3 (show p1<p3 by omega)).agr ha4 (show p1<p3 by omega);refine AQ.mk (fun h=>?_) (fun h=>?_)<;>simp only [decide_eq_true_eq,decide_eq_false_iff_not]at h
  ·have hk6:k / 64<4:=by omega
   refine Px (b:=64) (by decide) (BB (by omega)) (ixa PA (by omega) (by omega) (ld1 (v:=.int .u64 (wd x (k / 64))) ES ?_ trivial ?_))
   ·rw [hb1'.cell,show 0+(((k / 64:Nat):Int)).toNat*1=k / 64 by omega];have:=JW x k (by omega);rwa [show k / 2 ^ 6=k / 64 by rfl]at this
   refine RZ (b:=64) (by decide) ?_;(conv=>whnf);rw [DO (k:=.u64) (Fk (x:=k % 64) (by omega))];refine Hl (k:=.u64) (b:=k % 64) (by show k % 64≤64;omega) ?_;refine RZ (k:=.u64) (b:=2) (by decide) (ixa DQ (by omega) (by omega) ?_);rw [QW x k (by omega)];refine st1 ct4 hb4 (by rw [BI];omega) rfl ?_;intro H5 hb5 ha5 hs5;rw [show 0+((k:Nat):Int).toNat*1=k by omega,MZ x (by omega)]at hb5;(conv=>whnf);rw [w64 (x:=(k:Int)+1) (by omega) (by omega)];exact⟨rfl,k+1,by simp,⟨by omega,ha4.trans (ha5.mono fun j hj=>by omega),by omega,hb5⟩,by omega⟩
  ·obtain rfl:k=256:=by omega
   refine ldN (cs:=Ar x) (by rw [show(Ar x).length=256 from BI _ _];exact Kf) (hb4.cells fun j v hv=>by rw [UN];exact hv) trivial ?_;refine VC.stN (cs:=Ar x) (by rw [show(Ar x).length=256 from BI _ _];rfl) ((hb2.agr ha3 (show p2<p3 by omega)).agr ha4 (show p2<p3 by omega)) (by rw [show(Ar x).length=256 from BI _ _];simp) (GR x 256) ?_;intro H6 hb6 ha6 hs6;have hsp:Ac (UU 256 (.bool false)) 0 (Ar x)=Ar x:=by
    unfold Ac;rw [show(Ar x).length=256 from BI _ _];simp
   rw [hsp]at hb6;refine ldN (cs:=Ar x) (by rw [show(Ar x).length=256 from BI _ _];exact Kf) (hb6.cells fun j v hv=>by rw [UN];exact hv) trivial ?_;exact⟨rfl,(((ha1.mono fun j hj=>by omega).trans (ha2.mono fun j hj=>by omega)).trans (ha3.mono fun j hj=>by omega)).trans ((ha4.mono fun j hj=>by omega).trans (ha6.mono fun j hj=>by omega))⟩
def BW(f:Nat→Bool):List Value:=(UM 256).map fun b=>.bool (f b)
theorem Cp(f:Nat→Bool):(BW f).length=256:=by simp [BW]
theorem Gw(f:Nat→Bool){b:Nat}(h:b<256):(BW f)[b]? =some (.bool (f b)):=by
 unfold BW;rw [Vi,Vw h];rfl
theorem Dw{f g:Nat→Bool}(h:∀b,b<256→f b=g b):BW f=BW g:=by
 unfold BW;exact List.map_congr_left fun b hb=>by rw [h b (Vx.1 hb)]
def wv(x:BitVec 256)(i m:Nat):Nat:=wd x i / 2 ^ (min 64 (m - 64*i))
def wvL(x:BitVec 256)(m:Nat):List Value:=(UM 4).map fun i=>.int .u64 (wv x i m:Int)
theorem LL(x:BitVec 256)(m:Nat){i:Nat}(h:i<4):(wvL x m)[i]? =some (.int .u64 (wv x i m:Int)):=by
 unfold wvL;rw [Vi,Vw h];rfl
theorem Hc(x:BitVec 256)(m:Nat):(wvL x m).length=4:=by simp [wvL]
theorem QX(x:BitVec 256){b j:Nat}(h:j≠b / 64):wv x j b=wv x j (b+1):=by
 unfold wv;rcases Nat.lt_or_ge j (b / 64)with h1 | h1
 ·rw [show min 64 (b - 64*j)=64 by omega,show min 64 (b+1 - 64*j)=64 by omega]
 ·rw [show min 64 (b - 64*j)=0 by omega,show min 64 (b+1 - 64*j)=0 by omega]
theorem Sg(x:BitVec 256)(b:Nat):wv x (b / 64) b=wv x (b / 64) (b+1)*2+(if x.getLsbD b then 1 else 0):=by
 unfold wv;rw [show min 64 (b - 64*(b / 64))=b % 64 by omega,show min 64 (b+1 - 64*(b / 64))=b % 64+1 by omega];have h1:=D5 x (b / 64) (b % 64) (Nat.mod_lt _ (by decide));rw [show 64*(b / 64)+b % 64=b by omega,Vl]at h1;have h4:wd x (b / 64) / 2 ^ (b % 64) / 2=wd x (b / 64) / 2 ^ (b % 64+1):=by rw [UZ,←Vr]
 rw [←h1,←h4];generalize wd x (b / 64) / 2 ^ (b % 64)=a;have h3:=V1 a;have h5:(if decide (a % 2=1)=true then 1 else 0)=a % 2:=by rcases h3 with h | h<;>rw [h]<;>rfl
 rw [h5];omega
theorem Uu(x:BitVec 256)(b:Nat):wv x (b / 64) (b+1)*2+1<18446744073709551616:=by
 unfold wv;rw [show min 64 (b+1 - 64*(b / 64))=b % 64+1 by omega];have h1:=FE x (b / 64);have h2:wd x (b / 64) / 2 ^ (b % 64+1)≤wd x (b / 64) / 2 ^ 1:=Nat.div_le_div_left (Nat.pow_le_pow_right (by decide) (by omega)) (by decide);omega
theorem OB(x:BitVec 256)(b:Nat)(hb:b<256):(wvL x (b+1)).set (b / 64) (.int .u64 (wv x (b / 64) b:Int))=wvL x b:=by
 apply VL;intro j;by_cases hj:j<4
 ·rw [LL x b hj,VM,Hc];by_cases h:b / 64=j
  ·subst h;simp [hj]
  ·rw [if_neg h,LL x (b+1) hj,QX x (Ne.symm h)]
 ·rw [UT (by simp [Hc];omega),UT (by simp [Hc];omega)]
theorem Sf(x:BitVec 256):wvL x 256=[.int .u64 0,.int .u64 0,.int .u64 0,.int .u64 0]:=by
 have key:∀i,i<4→wv x i 256=0:=fun i hi=>by
  unfold wv;rw [show min 64 (256 - 64*i)=64 by omega];exact VN (FE x i)
 simp [wvL,UM,UM.loop,key]
theorem Se(x:BitVec 256):wvL x 0=Ak x:=by
 simp [wvL,UM,UM.loop,wv,Ak]
theorem O9(f:Nat→Bool)(x:BitVec 256)(hx:∀i,i<256→x.getLsbD i=f i)(H:Aa):Bv Tryz.prog 39 #[.agg (BW f).toArray] H (BT x):=by
 refine Ao.of_vc Tryz.func39 rfl (Tryz.call39 _) (BM (BW f) rfl ?_);intro p1 H1 hp1 hs1 hb1 ha1;refine Ag _ [.int .u64 0,.int .u64 0,.int .u64 0,.int .u64 0] rfl rfl ?_;intro p2 H2 hp2 hs2 hb2 ha2;refine Ag _ [.int .u64 0,.int .u64 0,.int .u64 0,.int .u64 0] rfl rfl ?_;intro p3 H3 hp3 hs3 hb3 ha3;have hA3:Agr (Old H) H H3:=((ha1.mono fun j hj=>by unfold Old at hj;omega).trans (ha2.mono fun j hj=>by unfold Old at hj;omega)).trans (ha3.mono fun j hj=>by unfold Old at hj;omega);(conv=>whnf);refine AH.mk [4] (fun n:Nat=>[.int .i64 (255 - (n:Int))]) (fun n H4=>n≤256∧Agr (fun j=>j≠p3) H3 H4∧H4.size=H3.size∧Blk H4 p3 57 (wvL x (256 - n))) (fun n _=>256 - n) ?_ ?_
 ·(conv=>whnf);exact⟨0,rfl,by omega,Agr.refl _ _,rfl,by rw [Nat.sub_zero,Sf];exact hb3⟩
 ·rintro n H4 junk ⟨hn,ha4,hs4,hb4⟩;have hb14:=((hb1.agr ha2 (show p1<p2 by omega)).agr ha3 (show p1<p3 by omega)).agr ha4 (by omega);refine AQ.mk (fun h=>?_) (fun h=>?_)<;>simp only [decide_eq_true_eq,decide_eq_false_iff_not]at h
  ·obtain⟨b,hb⟩:∃b:Nat,b=255 - n:=⟨_,rfl⟩;have hb256:b<256:=by omega
   have hbi:(255:Int) - (n:Int)=(b:Int):=by omega
   rw [show 256 - n=b+1 by omega]at hb4;have hi4:b / 64<4:=by omega
   have hlt:=Uu x b;have hst:=Sg x b;rw [hbi];refine Al.run (Px (a:=b) (b:=64) (by decide) (BB (by omega)) (Px (a:=b) (b:=64) (by decide) (BB (by omega)) (ixa PA (by omega) (by omega) ?_)));refine ld1 (v:=.int .u64 (wv x (b / 64) (b+1):Int)) ES (by rw [hb4.cell,show 0+((b / 64:Nat):Int).toNat*1=b / 64 by omega];exact LL x _ hi4) trivial ?_;have e2:((wv x (b / 64) (b+1):Nat):Int)*2=((wv x (b / 64) (b+1)*2:Nat):Int):=by omega
   (conv=>whnf);rw [e2,DO (k:=.u64) (Fk (x:=wv x (b / 64) (b+1)*2) (by omega))];refine ixa PA (by omega) (by omega) ?_;refine st1 ES hb4 (by rw [Hc];omega) rfl ?_;intro H5 hb5 ha5 hs5;rw [show 0+((b / 64:Nat):Int).toNat*1=b / 64 by omega]at hb5;have hb15:=hb14.agr ha5 (show p1≠p3 by omega);refine ixa DQ (by omega) (by omega) ?_;refine ld1 (v:=.bool (f b)) ct4 (by rw [hb15.cell,show 0+((b:Nat):Int).toNat*1=b by omega];exact Gw f hb256) trivial ?_;rw [←hx b hb256];cases hbit:x.getLsbD b with
   | true=>
     rw [hbit,if_pos rfl]at hst;refine Px (a:=b) (b:=64) (by decide) (BB (by omega)) (ixa PA (by omega) (by omega) ?_);refine ld1 (v:=.int .u64 ((wv x (b / 64) (b+1)*2:Nat):Int)) ES (by rw [hb5.cell,show 0+((b / 64:Nat):Int).toNat*1=b / 64 by omega,List.getElem?_set_self (by rw [Hc];exact hi4)]) trivial ?_;have e3:((wv x (b / 64) (b+1)*2:Nat):Int)+1=((wv x (b / 64) b:Nat):Int):=by omega
     (conv=>whnf);rw [e3,DO (k:=.u64) (Fk (x:=wv x (b / 64) b) (by omega))];refine ixa PA (by omega) (by omega) ?_;refine st1 ES hb5 (by rw [List.length_set,Hc];omega) rfl ?_;intro H6 hb6 ha6 hs6;rw [show 0+((b / 64:Nat):Int).toNat*1=b / 64 by omega,List.set_set,OB x b hb256]at hb6;(conv=>whnf);rw [w64 (x:=(b:Int) - 1) (by omega) (by omega)];exact⟨rfl,n+1,by simp;omega,⟨by omega,(ha4.trans (ha5.mono fun j hj=>hj)).trans (ha6.mono fun j hj=>hj),by omega,by rw [show 256 - (n+1)=b by omega];exact hb6⟩,by omega⟩
   | false=>
     rw [hbit]at hst;simp only [Vy,if_false,Nat.add_zero]at hst;rw [←hst,OB x b hb256]at hb5;(conv=>whnf);rw [w64 (x:=(b:Int) - 1) (by omega) (by omega)];exact⟨rfl,n+1,by simp;omega,⟨by omega,ha4.trans (ha5.mono fun j hj=>hj),by omega,by rw [show 256 - (n+1)=b by omega];exact hb5⟩,by omega⟩
  ·obtain rfl:n=256:=by omega
   rw [Nat.sub_self,Se]at hb4;refine ldN (cs:=Ak x) Re (hb4.cells fun j v hv=>by rw [UN];exact hv) trivial ?_;refine VC.stN (cs:=Ak x) rfl ((hb2.agr ha3 (show p2<p3 by omega)).agr ha4 (by omega)) (show 0+4≤4 by decide) rfl ?_;intro H6 hb6 ha6 hs6;have hsp:Ac [.int .u64 0,.int .u64 0,.int .u64 0,.int .u64 0] 0 (Ak x)=Ak x:=Ae rfl;rw [hsp]at hb6;refine ldN (cs:=Ak x) Re (hb6.cells fun j v hv=>by rw [UN];exact hv) trivial ?_;exact⟨rfl,(hA3.trans (ha4.mono fun j hj=>by unfold Old at hj;omega)).trans (ha6.mono fun j hj=>by unfold Old at hj;omega)⟩
theorem KG(s:BitVec 256):Tryz.prog.keyLits 2 57 (Ak s)=some (Ga s):=by
 have c1:Tryz.prog.cellsOf 57=4:=rfl;have c2:Tryz.prog.cellsOf 56=1:=rfl;simp [Program.keyLits,Tryz.underlying57,Tryz.underlying56,c1,c2,Ak,Ga,Th,UM,UM.loop]
theorem M8(a b:BitVec 256){x y:Operand}{S:Nat→Prop}{H:Aa}{K:Value→Prop}(k:K (.bool (!decide (a=b)))):
  AB Tryz.prog (do eqGuard .neq 57 x y (BT a) (BT b);binOp .neq 57 (BT a) (BT b)) S H K:=
 Us (m:=2) (la:=Ga a) (lb:=Ga b) rfl (by decide) (Tryz.eqGuardType57) rfl rfl (KG a) (KG b) (M7 a b) k
end Go.Proofs.YtlnmhfhdjnenoaaGreatDoor
namespace Go.VC
section
variable{α β:Type}{Ok:α→Prop}{enc:α→Value}{T:Ty β}{e:TypeId}{b:Nat}{m:α→Option Value}{xs:α→List β}{B:Nat→Prop}{H0 H H':Aa}{ps:List Pc}{P:Program}{t kt et:TypeId}{a:α}
def Qu(Ok:α→Prop)(enc:α→Value)(T:Ty β)(e:TypeId)(b:Nat)(m:α→Option Value)(xs:α→List β)(a:α)(v:Value)(x:List β):Pc where
 foot k:=k=b∨slB v k∨∃c,c≠a∧slB (DR m c) k
 ok H:=Gm Ok enc H b m∧SlO T none_ H 0 e v x∧(∀c,c≠a→SlO T none_ H 0 e (DR m c) (xs c))∧(∀c c' k,c≠a→c'≠a→c≠c'→slB (DR m c) k→¬slB (DR m c') k)∧(∀c k,c≠a→slB (DR m c) k→¬slB v k)∧(∀c,c≠a→¬slB (DR m c) b)∧¬slB v b
 fr h hp:=⟨hp.1.agr h (.inl rfl),hp.2.1.agr h (fun k hk=>.inr (.inl hk)) (fun _ hk=>hk.elim),fun c hc=>(hp.2.2.1 c hc).agr h (fun k hk=>.inr (.inr ⟨c,hc,hk⟩)) (fun _ hk=>hk.elim),hp.2.2.2⟩
theorem StB.mqOut(st:StB B H0 H ps)(i:Nat)(hp:ps[i]? =some (pMQ Ok enc T e b m xs))(a:α):StB B H0 H (ps.set i (Qu Ok enc T e b m xs a (DR m a) (xs a))):=by
 obtain⟨hmap,hown,hap,hb⟩:=st.at_ i hp;refine st.say i hp _ ⟨hmap,hown a,fun c _=>hown c,fun c c' k _ _ hcc=>hap c c' k hcc,fun c k hc=>hap c a k hc,fun c _=>hb c,hb a⟩ fun k hk=>?_;rcases hk with hk | hk | ⟨c,-,hk⟩
 ·exact .inl hk
 ·exact .inr ⟨a,hk⟩
 ·exact .inr ⟨c,hk⟩
theorem TF{ty q o l cap2 by_:Nat}{z v:Value}{x:List β}{ys:List β}{ds:List Value}{tt:TypeId}{K:Value→Aa→Prop}(st:StB B H0 H ps)(i:Nat)(ht:SlT P tt e T.size by_ z)(hp:ps[i]? =some (Qu Ok enc T e b m xs a v x))
  (hd:Bo H q o ds) (hy:T.reps none_ H ds ys) (hl:l=ys.length) (h1:∀u∈ds,u.oneCell'=true) (h63:x.length+ys.length≤maxLen) (hby:(x.length+ys.length)*by_≤140737488355328)
  (k:∀v' H',StB B H0 H' (ps.set i (Qu Ok enc T e b m xs a v' (x++ys)))→Agr (fun k=>k<H.size∧¬slB v k) H H'→K v' H'):
  BQ P (Builtin.append_ #[tt,tt] ty [v,.slice (some ⟨q,o,none⟩) l cap2].toArray) H K:=by
 obtain⟨hmap,hv,hown,hap,hapv,hb,hvb⟩:=st.at_ i hp;have hlt:∀c,c≠a→∀k,slB (DR m c) k→k<H.size:=fun c hc k hk=>(st.in_ i hp (.inr (.inr ⟨c,hc,hk⟩))).2;have hbl:b<H.size:=(st.in_ i hp (.inl rfl)).2;refine Iu (T:=T) (S:=none_) (lo:=0) ht hv (Vj _) (fun k hk=>hk.elim) hd hy hl h1 h63 hby ?_;intro v' H' hv' hagr hsz hfr;refine k v' H' (st.upd i hp (hagr.mono fun k hk=>⟨hk.1,fun hb=>hk.2 (.inr (.inl hb))⟩) (Qu Ok enc T e b m xs a v' (x++ys)) ⟨hmap.agr hagr ⟨hbl,hvb⟩,hv',fun c hc=>(hown c hc).agr hagr (fun k hk=>⟨hlt c hc k hk,hapv c k hc hk⟩) (fun _ hk=>hk.elim),hap,fun c k hc hk hk'=>?_,hb,fun hk=>?_⟩ (fun k hk=>?_) (fun k hk=>?_) hsz) hagr
 ·rcases hfr k hk' with h | h
  ·exact hapv c k hc hk h
  ·have:=hlt c hc k hk;omega
 ·rcases hfr b hk with h | h
  ·exact hvb h
  ·omega
 ·rcases hk with hk | hk | hk
  ·exact .inl (.inl hk)
  ·rcases hfr k hk with h | h
   ·exact .inl (.inr (.inl h))
   ·exact .inr h
  ·exact .inl (.inr (.inr hk))
 ·rcases hk with hk | hk | ⟨c,hc,hk⟩
  ·have:k=b:=hk;omega
  ·exact(hv'.lt hk).2
  ·have:=hlt c hc k hk;omega
theorem SV{v:Value}{x:List β}{z:Value}{K:Aa→Prop}(st:StB B H0 H ps)(i:Nat)(ht:HR P t kt et z)(hk:Kd P kt Ok enc)(ha:Ok a)(hp:ps[i]? =some (Qu Ok enc T e b m xs a v x))
  (k:∀m' H',StB B H0 H' (ps.set i (pMQ Ok enc T e b m' (upd xs a x)))→K H'):CP P (Instr.mapUpdate t (.map (some b)) (enc a) v) H K:=by
 obtain⟨hmap,hv,hown,hap,hapv,hb,hvb⟩:=st.at_ i hp;refine Sz ht hk ha hmap ?_;intro H' h1 h2 h3;have e1:DR (put m a (some v)) a=v:=QF m a v;have e2:∀c,c≠a→DR (put m a (some v)) c=DR m c:=fun c hc=>RN hc;refine k _ H' (st.upd i hp (h2.mono fun k hk hkb=>hk.2 (.inl hkb)) (pMQ Ok enc T e b (put m a (some v)) (upd xs a x)) ⟨h1,fun c=>?_,fun c c' k hcc=>?_,fun c=>?_⟩ (fun k hk=>?_) (fun k hk=>?_) (by omega))
 ·by_cases hc:c=a
  ·subst hc;rw [e1,MN];exact hv.agr h2 (fun k hk hkb=>hvb (hkb ▸ hk)) (fun _ hk=>hk.elim)
  ·rw [e2 c hc,QO hc];exact(hown c hc).agr h2 (fun k hk hkb=>hb c hc (hkb ▸ hk)) (fun _ hk=>hk.elim)
 ·by_cases hc:c=a
  ·subst hc;rw [e1,e2 c' (Ne.symm hcc)];exact fun h1 h2=>hapv c' _ (Ne.symm hcc) h2 h1
  ·by_cases hc':c'=a
   ·subst hc';rw [e1,e2 c hc];exact hapv c _ hc
   ·rw [e2 c hc,e2 c' hc'];exact hap c c' k hc hc' hcc
 ·by_cases hc:c=a
  ·subst hc;rw [e1];exact hvb
  ·rw [e2 c hc];exact hb c hc
 ·refine .inl ?_;rcases hk with hk | ⟨c,hk⟩
  ·exact .inl hk
  ·by_cases hc:c=a
   ·subst hc;rw [e1]at hk;exact .inr (.inl hk)
   ·rw [e2 c hc]at hk;exact .inr (.inr ⟨c,hc,hk⟩)
 ·rw [h3];rcases hk with hk | ⟨c,hk⟩
  ·exact(st.in_ i hp (.inl hk)).2
  ·by_cases hc:c=a
   ·subst hc;rw [e1]at hk;exact(st.in_ i hp (.inr (.inl hk))).2
   ·rw [e2 c hc]at hk;exact(st.in_ i hp (.inr (.inr ⟨c,hc,hk⟩))).2
end
end Go.VC
namespace Go.Proofs.YtlnmhfhdjnenoaaGreatDoor
open Go.VC
def edL(e:EdM):List Value:=[.int .i64 e.fr,.int .i64 e.to,.bool e.sil,.int .u64 (wd e.set 0),.int .u64 (wd e.set 1),.int .u64 (wd e.set 2),.int .u64 (wd e.set 3)]
theorem HW(e:EdM):∀(j:Nat) (v:Value),(Ak e.set)[j]? =some v→(edL e)[3+j]? =some v:=by
 intro j v h;rw [show 3+j=j+3 by omega];exact h
def EdM.Ok(e:EdM):Prop:=inK .i64 e.fr∧inK .i64 e.to
def tEd:Ty EdM where
 size:=7
 rep _ _ cs e:=cs=edL e∧e.Ok
 len h:=by rw [h.1];rfl
 frame h _:=h
 mono h _:=h
theorem FJ(e:EdM):(edL e).all (·.oneCell')=true:=rfl
def C1(e:EdM):List Value:=[.int .i64 e.fr,.int .i64 e.to,.bool e.sil]++Ar e.set
theorem AU(e:EdM):(C1 e).length=259:=by
 unfold C1;rw [UL,show(Ar e.set).length=256 from BI _ _];rfl
def Hk:Ty EdM where
 size:=259
 rep _ _ cs e:=cs=C1 e∧e.Ok
 len h:=by rw [h.1];exact AU _
 frame h _:=h
 mono h _:=h
theorem DC(e:EdM):(C1 e).all (·.oneCell')=true:=by
 unfold C1;rw [List.all_append,Ar,GR];rfl
theorem PN(e:EdM){b:Nat}(h:b<256):(C1 e)[3+b]? =some (.bool (e.set.getLsbD b)):=by
 unfold C1;rw [List.getElem?_append_right (by simp)];simpa using Kt e.set h
def NfM.Rng(a:NfM):Prop:=inK .i64 a.st∧inK .i64 a.start∧inK .i64 a.fin
def nfL(a:NfM)(v:Value):List Value:=[.int .i64 a.st,.int .i64 a.start,.int .i64 a.fin,v]
def NfV(S:Nat→Prop)(H:Aa)(v:Value)(a:NfM):Prop:=a.Rng∧a.edges.length≤33554432∧∃ea ec,v= .agg (nfL a (.slice ea a.edges.length ec)).toArray∧SlD tEd S H ea ec a.edges
section
variable{S S':Nat→Prop}{H H':Aa}{v:Value}{a:NfM}
end
theorem Fv:(Tryz.prog.info? 104).bind (·.zero)=some (.agg #[.int .i64 0,.int .i64 0,.bool false,.int .u64 0,.int .u64 0,.int .u64 0,.int .u64 0]):=rfl
theorem E5:(Tryz.prog.info? 37).bind (·.zero)=some (.agg #[.int .i64 0,.int .i64 0,.int .i64 0,.slice none 0 0]):=rfl
theorem Ih:(Tryz.prog.info? 42).bind (·.zero)=some (.agg #[.int .i64 0,.int .i64 0,.int .i64 0,.slice none 0 0]):=rfl
def OI:Value:=Value.agg (([Value.int .i64 0,Value.int .i64 0,Value.bool false]:List Value)++UU 256 (Value.bool false)).toArray
def OJ:List Value:=([Value.int .i64 0,Value.int .i64 0,Value.bool false]:List Value)++UU 256 (Value.bool false)
theorem Mg:OJ.length=259:=by simp [OJ]
theorem FK:(Tryz.prog.info? 106).bind (·.zero)=some OI:=by kernel_rfl
theorem OK(x y:Int)(b:Bool)(w0 w1 w2 w3:Value){S:Nat→Prop}{H:Aa}{K:Value→Prop}(h0:w0.oneCell'=true)(h1:w1.oneCell'=true)(h2:w2.oneCell'=true)(h3:w3.oneCell'=true)(k:K (.agg [.int .i64 x,.int .i64 y,.bool b,w0,w1,w2,w3].toArray)):
  AB Tryz.prog (Instr.build 104 [(0,.int .i64 x),(1,.int .i64 y),(2,.bool b),(3,.agg [w0,w1,w2,w3].toArray)].toArray) S H K:=
 Av Tryz.underlying104 rfl _ Fv [.int .i64 x,.int .i64 y,.bool b,w0,w1,w2,w3] (by kernel_rfl) k
theorem Nd(e:EdM){S:Nat→Prop}{H:Aa}{K:Value→Prop}(k:K (.agg (edL e).toArray)):
  AB Tryz.prog (Instr.build 104 [(0,.int .i64 e.fr),(1,.int .i64 e.to),(2,.bool e.sil),(3,.agg (Ak e.set).toArray)].toArray) S H K:=by
 unfold Ak edL at*;exact OK e.fr e.to e.sil _ _ _ _ rfl rfl rfl rfl k
theorem TR{place:Nat→Option (Nat×Nat)}{c0 c1 c2 v0 v1 v2:Value}{zs bs:List Value}(hl:bs.length=zs.length)(p0:place 0=some (0,1))(p1:place 1=some (1,1))(p2:place 2=some (2,1))(p3:place 3=some (3,zs.length))
  (h0:v0.cells= #[v0]) (h1:v1.cells= #[v1]) (h2:v2.cells= #[v2]):Instr.fill place ([c0,c1,c2]++zs).toArray [(0,v0),(1,v1),(2,v2),(3,.agg bs.toArray)]=some ([v0,v1,v2]++bs).toArray:=by
 have e0:Ac ([c0,c1,c2]++zs) 0 [v0]=[v0,c1,c2]++zs:=rfl;have e1:Ac ([v0,c1,c2]++zs) 1 [v1]=[v0,v1,c2]++zs:=rfl;have e2:Ac ([v0,v1,c2]++zs) 2 [v2]=[v0,v1,v2]++zs:=rfl;have e3:Ac ([v0,v1,v2]++zs) 3 bs=[v0,v1,v2]++bs:=by
  unfold Ac;rw [show([v0,v1,v2]++zs).take 3=[v0,v1,v2]from rfl,List.drop_eq_nil_of_le (by simp;omega),Vu]
 have ec:(Value.agg bs.toArray).cells=bs.toArray:=rfl;rw [Bb p0 (by rw [h0];rfl) (by simp),h0,UX,e0,Bb p1 (by rw [h1];rfl) (by simp),h1,UX,e1,Bb p2 (by rw [h2];rfl) (by simp),h2,UX,e2,Bb p3 (by rw [ec];simpa using hl) (by simp;omega),ec,UX,UX,e3];rfl
theorem Mh(e:EdM){S:Nat→Prop}{H:Aa}{K:Value→Prop}(k:K (.agg (C1 e).toArray)):
  AB Tryz.prog (Instr.build 106 [(0,.int .i64 e.fr),(1,.int .i64 e.to),(2,.bool e.sil),(3,.agg (Ar e.set).toArray)].toArray) S H K:=
 Av Tryz.underlying106 rfl OI FK (C1 e) (TR (zs:=UU 256 (Value.bool false)) (by rw [show(Ar e.set).length=256 from BI _ _,VA]) (by kernel_rfl) (by kernel_rfl) (by kernel_rfl) (by rw [VA];kernel_rfl) rfl rfl rfl) k
theorem HF{S:Nat→Prop}{H:Aa}{v:Value}{a:NfM}{K:Value→Aa→Prop}{t:TypeId}(h:NfV S H v a)
  (k:∀ea ec,v= .agg (nfL a (.slice ea a.edges.length ec)).toArray→SlD tEd S H ea ec a.edges→New H (fun b H'=>K (.pointer (some ⟨b,0,none⟩)) H') t (nfL a (.slice ea a.edges.length ec))):BQ Tryz.prog (Instr.box t v) H K:=by
 obtain⟨hr,hl,ea,ec,rfl,h1⟩:=h;exact BM (nfL a (.slice ea a.edges.length ec)) rfl (k ea ec rfl h1)
theorem Dh{S S0:Nat→Prop}{H:Aa}{a:NfM}{pb:Nat}{ea:Option Addr}{ec:Nat}{K:Value→Prop}{t:TypeId}(hr:a.Rng)(hl:a.edges.length≤33554432)(hb:Blk H pb t (nfL a (.slice ea a.edges.length ec)))(hag:E9 Tryz.prog t 4)(hS:S0 pb)(h1:SlD tEd S H ea ec a.edges)
  (k:∀v,NfV S H v a→K v):AB Tryz.prog (Instr.loadAt t (.pointer (some ⟨pb,0,none⟩))) S0 H K:=
 ldN (cs:=nfL a (.slice ea a.edges.length ec)) hag (hb.cells fun j v hv=>by rw [UN];exact hv) hS (k _ ⟨hr,hl,ea,ec,rfl,h1⟩)
theorem JH{S:Nat→Prop}{H:Aa}{v:Value}{a:NfM}{q:Int}(h:NfV S H v a):Bv Tryz.prog 64 #[v,.int .i64 q] H (.bool (a.has q)):=by
 refine Ao.of_vc Tryz.func64 rfl (Tryz.call64 _) (HF h fun ea ec he h1=>?_);subst he;intro p H1 hp hs1 hb1 ha1;have st1:=(St.nil H).box hp hs1 hb1 ha1;by_cases h0:0≤q
 ·have d0:decide (0≤q)=true:=decide_eq_true h0;(conv=>whnf);rw [d0];refine fa CN ?_;refine ld1 (v:=.int .i64 a.st) ct3 (by rw [hb1.cell];rfl) trivial ?_;by_cases h2:q<a.st
  ·have d1:decide (q<a.st)=true:=decide_eq_true h2;(conv=>whnf);rw [d1];refine fa CN ?_;refine ld1 (v:=.int .i64 a.st) ct3 (by rw [hb1.cell];rfl) trivial ?_;(conv=>whnf);exact⟨by unfold NfM.has;rw [d0,d1];rfl,st1.old⟩
  ·have d1:decide (q<a.st)=false:=decide_eq_false h2;(conv=>whnf);rw [d1];(conv=>whnf);exact⟨by unfold NfM.has;rw [d0,d1];rfl,st1.old⟩
 ·have d0:decide (0≤q)=false:=decide_eq_false h0;(conv=>whnf);rw [d0];(conv=>whnf);exact⟨by unfold NfM.has;rw [d0];rfl,st1.old⟩
end Go.Proofs.YtlnmhfhdjnenoaaGreatDoor
namespace Go.VC
section
variable{P:Program}{t:TypeId}{x y:Operand}{S:Nat→Prop}{H:Aa}{K:Value→Prop}{T A:TypeId}{v z:Value}{d:TypeDesc}
theorem BX(hd:P.underlying A=some d)(hn:∀ms,d≠ .interface ms)(k:K (.tuple #[v,.bool true])):AB P (Instr.typeAssert (.iface A v) t A true) S H K:=by
 refine AB.mk _ (fun w _=>?_) k;unfold Instr.typeAssert;simp only [Sem.run_bind,run_underlying hd,Result.andThen_ok];cases d<;>first | (exact absurd rfl (hn _)) | simp
theorem AE(hd:P.underlying A=some d)(hn:∀ms,d≠ .interface ms)(hz:(P.info? A).bind (·.zero)=some z)(hne:T≠A)(k:K (.tuple #[z,.bool false])):AB P (Instr.typeAssert (.iface T v) t A true) S H K:=by
 refine AB.mk _ (fun w _=>?_) k;have hzr:(zeroValue A).run P w= .ok z w:=by
  cases hi:P.info? A with
  | none=>rw [hi]at hz;cases hz
  | some i=>
    have hz':i.zero=some z:=by simpa [hi]using hz
    simp [zeroValue,typeInfo,hi,hz']
 unfold Instr.typeAssert;simp only [Sem.run_bind,run_underlying hd,Result.andThen_ok];cases d<;>first | (exact absurd rfl (hn _)) | simp [hne,hzr]
theorem JV{ms:Array (String×TypeId)}(h:P.underlying t=some (.interface ms))(w:World):(Op.equal t (.iface T v) .nilIface).run P w= .ok false w:=by
 have:∀d:Nat,(Op.equalIn (d+1) t (.iface T v) .nilIface).run P w= .ok false w:=fun d=>by
  simp [Op.equalIn,run_underlying h]
 exact this 9999
theorem IM{ms:Array (String×TypeId)}(h:P.underlying t=some (.interface ms))(w:World):(Op.equal t .nilIface .nilIface).run P w= .ok true w:=by
 have:∀d:Nat,(Op.equalIn (d+1) t .nilIface .nilIface).run P w= .ok true w:=fun d=>by
  simp [Op.equalIn,run_underlying h]
 exact this 9999
theorem TX{ms:Array (String×TypeId)}(h:P.underlying t=some (.interface ms))(k:K (.bool false)):AB P (do eqGuard .eql t x y (.iface T v) .nilIface;binOp .eql t (.iface T v) .nilIface) S H K:=by
 refine AB.mk _ (fun w _=>?_) k;simp [eqGuard,binOp,JV h]
theorem On{ms:Array (String×TypeId)}(h:P.underlying t=some (.interface ms))(k:K (.bool true)):AB P (do eqGuard .neq t x y (.iface T v) .nilIface;binOp .neq t (.iface T v) .nilIface) S H K:=by
 refine AB.mk _ (fun w _=>?_) k;simp [eqGuard,binOp,JV h]
theorem TY{ms:Array (String×TypeId)}{c:Value}(h:P.underlying t=some (.interface ms))(k:K (.bool true)):AB P (do eqGuard .eql t x (.const c) .nilIface .nilIface;binOp .eql t .nilIface .nilIface) S H K:=by
 refine AB.mk _ (fun w _=>?_) k;simp [eqGuard,binOp,IM h]
theorem Qe{ms:Array (String×TypeId)}{c:Value}(h:P.underlying t=some (.interface ms))(k:K (.bool false)):AB P (do eqGuard .neq t x (.const c) .nilIface .nilIface;binOp .neq t .nilIface .nilIface) S H K:=by
 refine AB.mk _ (fun w _=>?_) k;simp [eqGuard,binOp,IM h]
end
end Go.VC
namespace Go.Proofs.YtlnmhfhdjnenoaaGreatDoor
open Go.VC
theorem Ns(x:Value)(w:World):(callMethod (.iface 127 x) "Size" #[]).run Tryz.prog w= .ok (.enter 161 #[x]) w:=by kernel_rfl
theorem Nr(x:Value)(w:World):(callMethod (.iface 130 x) "Size" #[]).run Tryz.prog w= .ok (.enter 163 #[x]) w:=by kernel_rfl
theorem Nq(x:Value)(w:World):(callMethod (.iface 132 x) "Size" #[]).run Tryz.prog w= .ok (.enter 165 #[x]) w:=by kernel_rfl
theorem No(x:Value)(w:World):(callMethod (.iface 163 x) "Size" #[]).run Tryz.prog w= .ok (.enter 168 #[x]) w:=by kernel_rfl
theorem Mv(x:Value)(w:World):(callMethod (.iface 165 x) "Size" #[]).run Tryz.prog w= .ok (.enter 170 #[x]) w:=by kernel_rfl
theorem Np(x:Value)(w:World):(callMethod (.iface 166 x) "Size" #[]).run Tryz.prog w= .ok (.enter 172 #[x]) w:=by kernel_rfl
theorem Lz(x:Value)(w:World):(callMethod (.iface 167 x) "Size" #[]).run Tryz.prog w= .ok (.enter 174 #[x]) w:=by kernel_rfl
end Go.Proofs.YtlnmhfhdjnenoaaGreatDoor
namespace Go.VC
open Go.Sort
structure P1(P:Program)(f:FuncId):Prop where
 call:∀(args:Array Value) (w:World),(callFunc f args).run P w= .ok (.enter f args) w
 some_:∀(blk off cap:Nat) (zs:List Int) (w:World),Holds (Value.int .i64) w blk off zs.toArray→blk<w.heap.size→zs.length<4611686018427387904→
  Calls P f #[.slice (some ⟨blk,off,none⟩) zs.length cap] w fun e w'=>e= .returned (.tuple #[])∧∃n os,w'=grow (putRow (Value.int .i64) (Sort.ahead w n) blk off (zs.mergeSort fun x y=>decide (x≤y)).toArray) os
 none_:∀(p:Option Addr) (cap:Nat) (w:World),Calls P f #[.slice p 0 cap] w fun e w'=>e= .returned (.tuple #[])∧w'=w
theorem KC{S:Nat→Prop}{H:Aa}:∀{xs:List Int} {cs:List Value},(Kn .i64).reps S H cs xs→cs=xs.map (Value.int .i64)∧∀x∈xs,inK .i64 x
 | [],_,h=>by cases h;exact⟨rfl,fun x hx=>by cases hx⟩
 | x::xs,_,h=>by
   obtain⟨c,r,rfl,⟨rfl,h1⟩,h2⟩:=h;obtain⟨rfl,h3⟩:=KC h2;refine⟨rfl,fun y hy=>?_⟩;rcases Vd.1 hy with rfl | hy
   ·exact h1
   ·exact h3 y hy
theorem Kz{S:Nat→Prop}{H:Aa}:∀{xs:List Int},(∀x∈xs,inK .i64 x)→(Kn .i64).reps S H (xs.map (Value.int .i64)) xs
 | [],_=>rfl
 | x::xs,h=>⟨[.int .i64 x],xs.map (Value.int .i64),rfl,⟨rfl,h x (by simp)⟩,Kz fun y hy=>h y (by simp [hy])⟩
theorem Un{P:Program}{f:FuncId}{B:Nat→Prop}{H0 H:Aa}{ps:List Pc}{e:TypeId}{a:Option Addr}{n cap:Nat}{xs:List Int}{K:Value→Aa→Prop}(hf:P1 P f)(st:StB B H0 H ps)(i:Nat)(hp:ps[i]? =some (pS (Kn .i64) e a n cap xs))(hlen:xs.length<4611686018427387904)
  (k:∀H',StB B H0 H' (ps.set i (pS (Kn .i64) e a n cap (xs.mergeSort fun x y=>decide (x≤y))))→K (.tuple #[]) H'):Ai P f #[.slice a n cap] H K:=by
 obtain⟨hown,-⟩:=st.at_ i hp;obtain⟨cs,⟨hcl,hcase⟩,hreps⟩:=hown;obtain⟨rfl,hrng⟩:=KC hreps;refine⟨fun w hw=>⟨hf.call _ w,?_⟩⟩;subst hw;rcases hcase with⟨he,hn0⟩ | ⟨b,c,l,he,-,hb,hnc,hcm,hll,htk⟩
 ·injection he with e1 e2 e3
  subst e1;subst e2;subst e3;obtain rfl:=Vb hn0;refine(hf.none_ none 0 w).mono ?_;rintro _ _ ⟨rfl,rfl⟩;exact⟨_,rfl,Env.refl _,k _ (by rw [show([]:List Int).mergeSort (fun x y=>decide (x≤y))=[] by simp];exact st.say i hp _ (st.at_ i hp) (fun k hk=>hk))⟩
 ·injection he with e1 e2 e3
  subst e1;subst e2;subst e3;rw [show xs.length*(Kn .i64).size=xs.length from Va _]at htk;rw [show cap*(Kn .i64).size=cap from Va _]at hll;have hbl:=(UQ.1 hb).1;have hsl:(xs.mergeSort fun x y=>decide (x≤y)).length=xs.length:=List.length_mergeSort _;have hH:Holds (Value.int .i64) w b 0 xs.toArray:=holds_of_blockI (e:=e) (cur:=l.toArray) hb (by simpa using htk);refine(hf.some_ b 0 cap xs w hH hbl hlen).mono ?_;rintro _ w' ⟨rfl,n,os,rfl⟩;have hbw:=heap_sortedI (n:=n) (os:=os) (xs.mergeSort fun x y=>decide (x≤y)).toArray hb;obtain⟨-,-,-,hsz,hoth⟩:=grownBy_sortedI (w:=w) (g:=b) (n:=n) (os:=os) (xs.mergeSort fun x y=>decide (x≤y)).toArray;refine⟨_,rfl,⟨rfl,rfl,rfl⟩,k _ (st.upd i hp (fun j hj=>hoth j hj.1 fun e=>?_) _ ⟨⟨_,⟨?_,.inr ⟨b,cap,(putCells (Value.int .i64) 0 (xs.mergeSort fun x y=>decide (x≤y)).toArray l.toArray).toList,?_,Vj _,?_,by omega,hcm,?_,?_⟩⟩,Kz fun x hx=>hrng x (List.mem_mergeSort.1 hx)⟩,fun k hk=>hk.elim⟩ (fun k hk=>.inl hk) (fun k hk=>?_) hsz)⟩
  ·cases e;exact hj.2 (.inl ⟨0,_,_,rfl⟩)
  ·rw [Vq];exact(Va _).symm
  ·rw [hsl]
  ·show _=_;rw [hbw]
  ·rw [UW];unfold putCells;rw [Array.size_mapIdx];simp only [List.size_toArray,hll];exact(Va _).symm
  ·rw [show(xs.mergeSort fun x y=>decide (x≤y)).length*(Kn .i64).size=(xs.mergeSort fun x y=>decide (x≤y)).length from Va _];exact take_putCellsI l.toArray _ (by rw [hsl];simpa [hll]using hnc)
  ·have h1:=(st.in_ i hp hk).2;exact Nat.lt_of_lt_of_le h1 hsz
end Go.VC
namespace Go.Proofs.YtlnmhfhdjnenoaaGreatDoor
open Go.VC
def QI:Go.Shelf.Ren:=⟨fun | 189=>89 | 125=>105 | 257=>104 | 128=>121 | 129=>122 | 294=>113 | 295=>114 | 296=>115 | 297=>116 | 298=>117 | 299=>118 | 216=>61 | 300=>119 | 301=>120 | 328=>129 | 329=>130 | 330=>131 | 331=>132 | 332=>133 | 215=>87 | 343=>138 | n=>n,fun | 28=>54 | 3=>3 | 46=>144 | 0=>0 | 51=>202 | 53=>56 | 4=>4 | 183=>196 | 182=>195 | 131=>108 | 5=>5 | 9=>9 | 218=>208 | 222=>212 | 228=>216 | 229=>119 | n=>n,fun | n=>n⟩
theorem Oo:Go.Proofs.Lays.n189 Tryz.prog QI:={
 mixed:=by kernel_rfl
 f125:=Tryz.func105.trans (congrArg some (by kernel_rfl))
 f128:=Tryz.func121.trans (congrArg some (by kernel_rfl))
 f129:=Tryz.func122.trans (congrArg some (by kernel_rfl))
 f189:=Tryz.func89.trans (congrArg some (by kernel_rfl))
 f215:=Tryz.func87.trans (congrArg some (by kernel_rfl))
 f216:=Tryz.func61.trans (congrArg some (by kernel_rfl))
 f257:=Tryz.func104.trans (congrArg some (by kernel_rfl))
 f294:=Tryz.func113.trans (congrArg some (by kernel_rfl))
 f295:=Tryz.func114.trans (congrArg some (by kernel_rfl))
 f296:=Tryz.func115.trans (congrArg some (by kernel_rfl))
 f297:=Tryz.func116.trans (congrArg some (by kernel_rfl))
 f298:=Tryz.func117.trans (congrArg some (by kernel_rfl))
 f299:=Tryz.func118.trans (congrArg some (by kernel_rfl))
 f300:=Tryz.func119.trans (congrArg some (by kernel_rfl))
 f301:=Tryz.func120.trans (congrArg some (by kernel_rfl))
 f328:=Tryz.func129.trans (congrArg some (by kernel_rfl))
 f329:=Tryz.func130.trans (congrArg some (by kernel_rfl))
 f330:=Tryz.func131.trans (congrArg some (by kernel_rfl))
 f331:=Tryz.func132.trans (congrArg some (by kernel_rfl))
 f332:=Tryz.func133.trans (congrArg some (by kernel_rfl))
 f343:=Tryz.func138.trans (congrArg some (by kernel_rfl))
 t0:=Tryz.underlying0
 a0:=Tryz.isAgg0
 z0:=Tryz.sizeOf0
 v0:=Tryz.zeroValue0
 t3:=Tryz.underlying3
 a3:=Tryz.isAgg3
 z3:=Tryz.sizeOf3
 v3:=Tryz.zeroValue3
 t4:=Tryz.underlying4
 a4:=Tryz.isAgg4
 z4:=Tryz.sizeOf4
 v4:=Tryz.zeroValue4
 t5:=Tryz.underlying5
 a5:=Tryz.isAgg5
 z5:=Tryz.sizeOf5
 v5:=Tryz.zeroValue5
 t9:=Tryz.underlying9
 a9:=Tryz.isAgg9
 z9:=Tryz.sizeOf9
 v9:=Tryz.zeroValue9
 t28:=Tryz.underlying54
 a28:=Tryz.isAgg54
 z28:=Tryz.sizeOf54
 v28:=Tryz.zeroValue54
 t46:=Tryz.underlying144
 a46:=Tryz.isAgg144
 z46:=Tryz.sizeOf144
 v46:=Tryz.zeroValue144
 t51:=Tryz.underlying202
 a51:=Tryz.isAgg202
 z51:=Tryz.sizeOf202
 v51:=Tryz.zeroValue202
 t53:=Tryz.underlying56
 a53:=Tryz.isAgg56
 z53:=Tryz.sizeOf56
 v53:=Tryz.zeroValue56
 t131:=Tryz.underlying108
 a131:=Tryz.isAgg108
 z131:=Tryz.sizeOf108
 v131:=Tryz.zeroValue108
 t182:=Tryz.underlying195
 a182:=Tryz.isAgg195
 z182:=Tryz.sizeOf195
 v182:=Tryz.zeroValue195
 t183:=Tryz.underlying196
 a183:=Tryz.isAgg196
 z183:=Tryz.sizeOf196
 v183:=Tryz.zeroValue196
 t218:=Tryz.underlying208
 a218:=Tryz.isAgg208
 z218:=Tryz.sizeOf208
 v218:=Tryz.zeroValue208
 t222:=Tryz.underlying212
 a222:=Tryz.isAgg212
 z222:=Tryz.sizeOf212
 v222:=Tryz.zeroValue212
 t228:=Tryz.underlying216
 a228:=Tryz.isAgg216
 z228:=Tryz.sizeOf216
 v228:=Tryz.zeroValue216
 t229:=Tryz.underlying119
 a229:=Tryz.isAgg119
 z229:=Tryz.sizeOf119
 v229:=Tryz.zeroValue119}
theorem Tk:P1 Tryz.prog 89 where
 call:=Tryz.call89
 some_:=fun blk off cap zs w hH hblk hsz=>Any.slices_Sort_int Oo blk off cap zs w hH hblk hsz
 none_:=fun p cap w=>Any.slices_Sort_int_none Oo p cap w
end Go.Proofs.YtlnmhfhdjnenoaaGreatDoor
