/- Parts of the proof: PAppI, PDet1, PDet2, PDTb, PDBk, PSound, PMerge, PWake, PNew, PAuto, PLaw5, PCellO -/
import Derived.Test.YtfbghcpdinlmcaaGreatDoorKDn2
import Derived.Test.YtfbghcpdinlmcaaGreatDoorKDn1
import Derived.Shelf.Strconv.AppendIntPublic10
import Derived.Test.YtfbghcpdinlmcaaGreatDoorKDn3
set_option maxHeartbeats 64000000
open BitVec renaming allOnes → AaI
open Bool renaming false_and → AaH, and_eq_true → AbE, and_false → AbM, true_and → AbQ
open Int renaming toNat_natCast → Aa7, eq_ofNat_of_zero_le → AbI, ofNat → AbK, negSucc_lt_zero → AbS
open List renaming length_singleton → Aa0, getElem?_eq_some_iff → Aa2, mem_singleton → Aa3, mem_of_getElem? → Aa4, length_append → Aa5, replicate → Aa6, getElem?_set_self → Aa8, getElem?_set_ne → Aa9, mem_append → AaA, take_length → AaB, length_map → AaC, foldl_append → AaE, length_nil → AaF, length_cons → AaG, getD_eq_getElem?_getD → AaJ, mem_cons_of_mem → AaK, getElem?_append_left → AaL, foldl_cons → AaM, getElem?_map → AaN, getElem?_eq_none → AaO, getElem?_append_right → AaP, mem_cons_self → AaS, length_filterMap_le → AaT, foldl_nil → AaV, getElem?_replicate → AaW, cons_append → AaY, mem_append_right → AaZ, take_append_drop → Ab0, map_append → Ab1, mem_append_left → Ab2, length_take_le → Ab3, take_zero → Ab4, set_cons_succ → Ab6, map_cons → Ab7, flatMap_cons → Ab8, append_assoc → Ab9, all_eq_false → AbA, getElem?_eq_none_iff → AbB, map_nil → AbC, getElem?_eq_getElem → AbD, getElem?_cons_zero → AbG, getElem?_cons_succ → AbH, all_append → AbJ, filterMap_append → AbL, set_append_right → AbN, mem_of_mem_take → AbO, findIdx?_append → AbP, map_congr_left → AbR, map_map → AbT, mem_map → AbU, prefix_refl → AbW, count_cons → AbZ, mem_cons → Ac0
open Nat renaming zero_add → Aa1, le_refl → AaD, mul_one → AaQ, le_of_eq → AaU, zero_le → Ab5, cast → AbF, le_trans → AbV
open Option renaming some → AaR, bind_some → AaX, getD_some → AbX, map_some → AbY
set_option linter.unusedVariables false
set_option linter.unusedSimpArgs false
set_option maxRecDepth 100000
namespace Go.VC
open Go.Lib Go.RowKit
abbrev UL:String:= "internal/strconv.uint64pow10"
def HX(P:Program)(H:Aa):Prop:=∀w:World,w.heap=H→TabIs P w UL .u64 pow10Tab
theorem Sg{P:Program}{w w':World}{name:String}{cs:Array Value}(h:w.var? P name=some cs)(ha:Agr (Old w.heap) w.heap w'.heap):w'.var? P name=some cs:=by
 unfold World.var? at*;cases hg:P.globalNamed name with
 | none=>simp [hg]at h
 | some g=>
   simp only [hg,AaX]at h ⊢;have hlt:g<w.heap.size:=by
    rcases Nat.lt_or_ge g w.heap.size with h' | h'
    ·exact h'
    ·rw [Array.getElem?_eq_none h']at h;simp at h
   rw [ha g hlt];exact h
theorem HX.agr{P:Program}{H H':Aa}(h:HX P H)(ha:Agr (Old H) H H'):HX P H':=by
 intro w hw;subst hw;have:=h {w with heap:=H} rfl;exact Sg (w:={w with heap:=H}) (w':=w) this ha
structure Tq(P:Program)(f:FuncId)(e:TypeId):Prop where
 call:∀(args:Array Value) (w:World),(callFunc f args).run P w= .ok (.enter f args) w
 run_:∀(B n:Nat) (i:Int) (sv:Value) (xs:List Value) (w:World),-9223372036854775808≤i→i≤9223372036854775807→w.ownsRow B e 1 sv n xs→B≤w.heap.size→n+21≤140737488355328→TabBelow P B w UL .u64 pow10Tab→
  Calls P f #[sv,.int .i64 i,.int .i64 10] w fun e' w'=>∃v',e'= .returned v'∧w'.ownsRow B e 1 v' (n+(itoa i).length) (xs++Go.Lib.byteCells (itoa i))∧Below B w w'∧OthersKept e none w w'
abbrev tU8:Ty Int:=HT .u8
def HO(i:Int):List Int:=(itoa i).map fun b=>(b.toNat:Int)
theorem TT(i:Int):(HO i).length=(itoa i).length:=AaC _
theorem NC{S:Nat→Prop}{H:Aa}:∀{xs:List Int} {cs:List Value},tU8.reps S H cs xs→cs=xs.map (Value.int .u8)∧∀x∈xs,inK .u8 x
 | [],_,h=>by cases h;exact⟨rfl,fun x hx=>by cases hx⟩
 | x::xs,_,h=>by
   obtain⟨c,r,rfl,⟨rfl,h1⟩,h2⟩:=h;obtain⟨rfl,h3⟩:=NC h2;refine⟨rfl,fun y hy=>?_⟩;rcases Ac0.1 hy with rfl | hy
   ·exact h1
   ·exact h3 y hy
theorem Se{S:Nat→Prop}{H:Aa}:∀{xs:List Int},(∀x∈xs,inK .u8 x)→tU8.reps S H (xs.map (Value.int .u8)) xs
 | [],_=>rfl
 | x::xs,h=>⟨[.int .u8 x],xs.map (Value.int .u8),rfl,⟨rfl,h x (by simp)⟩,Se fun y hy=>h y (by simp [hy])⟩
theorem PQ(i:Int):Go.Lib.byteCells (itoa i)=(HO i).map (Value.int .u8):=by
 unfold Go.Lib.byteCells HO;rw [AbT];rfl
theorem YQ(b:UInt8):inK .u8 (b.toNat:Int):=Qg (UInt8.toNat_lt b)
theorem ZC{P:Program}{f:FuncId}{H0 H:Aa}{e:TypeId}{a:Option Addr}{n cap:Nat}{xs:List Int}{i:Int}{K:Value→Aa→Prop}(hf:Tq P f e)(st:St H0 H [pS tU8 e a n cap xs])(hpow:HX P H0)(h0: -9223372036854775808≤i)(h1:i≤9223372036854775807)(hn:xs.length+21≤140737488355328)
  (k:∀a' cap' H',St H0 H' [pS tU8 e a' (xs++HO i).length cap' (xs++HO i)]→K (.slice a' (xs++HO i).length cap') H'):Ag P f #[.slice a n cap,.int .i64 i,.int .i64 10] H K:=by
 obtain⟨hown,-⟩:=st.at_ 0 rfl;obtain⟨cs,⟨hcl,hcase⟩,hreps⟩:=hown;obtain⟨rfl,hrng⟩:=NC hreps;refine⟨fun w hw=>⟨hf.call _ w,?_⟩⟩;subst hw;have hnl:n=xs.length:=by
  rcases hcase with⟨he,hn0⟩ | ⟨b,c,l,he,-⟩
  ·injection he with e1 e2 e3;omega
  ·injection he
 have hrow:w.ownsRow H0.size e 1 (.slice a n cap) xs.length (xs.map (Value.int .u8)):=by
  refine⟨by rw [AaC,AaQ],?_⟩;rcases hcase with⟨he,hn0⟩ | ⟨b,c,l,he,-,hb,hnc,hcm,hll,htk⟩
  ·exact .inl ⟨he,hn0⟩
  ·have hge:H0.size≤b:=by
    have:=(st.in_ 0 rfl (k:=b) (.inl ⟨0,n,cap,by rw [he];injection he with e1 e2 e3;subst e1;subst e2;subst e3;rfl⟩)).1;unfold Old at this;omega
   exact .inr ⟨b,c,l.toArray,he,hge,hb,hnc,hcm,by rw [List.size_toArray];exact hll,htk⟩
 have htab:TabBelow P H0.size w UL .u64 pow10Tab:=fun w' hb=>(hpow.agr (st.old.trans (show Agr (Old H0) w.heap w'.heap from fun j hj=>hb.block j hj))) w' rfl;refine(hf.run_ H0.size xs.length i _ _ w h0 h1 hrow (Bx st.old) hn htab).mono ?_;rintro _ w' ⟨v',rfl,hown',hbel,-⟩;obtain⟨hl',hc'⟩:=hown';have hlen:xs.length+(itoa i).length=(xs++HO i).length:=by rw [Aa5,TT]
 rw [hlen]at hc' hl';have hag:Agr (Old H0) H0 w'.heap:=st.old.trans (show Agr (Old H0) w.heap w'.heap from fun j hj=>hbel.block j hj);have hreps':tU8.reps none_ w'.heap (xs.map (Value.int .u8)++Go.Lib.byteCells (itoa i)) (xs++HO i):=by
  rw [PQ,←Ab1];refine Se fun x hx=>?_;rcases AaA.1 hx with hx | hx
  ·exact hrng x hx
  ·obtain⟨b,-,rfl⟩:=AbU.1 hx;exact YQ b
 have mk:∀a' cap',v'= .slice a' (xs++HO i).length cap'→SlO tU8 none_ w'.heap H0.size e v' (xs++HO i)→∃H',H'=w'.heap∧St H0 H' [pS tU8 e a' (xs++HO i).length cap' (xs++HO i)]:=fun a' cap' hv hs=>by
  subst hv;refine⟨_,rfl,?_⟩;obtain⟨a2,c2,e2,st2⟩:=(St.nil H0).got hag hs;injection e2 with e21 e22 e23
  subst e21;subst e23;exact st2
 have hs:SlO tU8 none_ w'.heap H0.size e v' (xs++HO i):=by
  refine⟨_,⟨hl',?_⟩,hreps'⟩;rcases hc' with⟨he,hn0⟩ | ⟨b,c,l,he,hge,hb,hnc,hcm,hll,htk⟩
  ·exact .inl ⟨he,hn0⟩
  ·exact .inr ⟨b,c,l.toList,he,hge,hb,hnc,hcm,by rw [Array.length_toList];exact hll,htk⟩
 obtain⟨a',cap',rfl⟩:=hs.hull;obtain⟨_,rfl,st'⟩:=mk a' cap' rfl hs;exact⟨_,rfl,⟨hbel.os.symm ▸ rfl,hbel.tape.symm ▸ rfl,hbel.output.symm ▸ rfl⟩,k a' cap' _ st'⟩
end Go.VC
namespace Go.Proofs.YtfbghcpdinlmcaaGreatDoor
open Go.VC
def Nt:Go.Shelf.Ren:=⟨fun | 176=>141 | 249=>182 | 288=>208 | 283=>225 | 284=>226 | 285=>227 | 286=>228 | 129=>207 | 317=>236 | 318=>237 | 319=>238 | 320=>239 | 337=>243 | 338=>244 | n=>n,fun | 37=>201 | 2=>2 | 3=>3 | 53=>99 | 4=>4 | 9=>9 | 171=>350 | 0=>0 | 173=>352 | 212=>362 | 51=>332 | 5=>5 | 20=>20 | 213=>363 | 46=>218 | 232=>367 | 233=>368 | n=>n,fun | 17=>1 | 18=>3 | 19=>4 | n=>n⟩
theorem Uz:Go.Proofs.LaysM.n176 Tryz.prog Nt:={
 mixed:=by kernel_rfl
 f129:=Tryz.func207.trans (congrArg some (by kernel_rfl))
 f176:=Tryz.func141.trans (congrArg some (by kernel_rfl))
 f249:=Tryz.func182.trans (congrArg some (by kernel_rfl))
 f283:=Tryz.func225.trans (congrArg some (by kernel_rfl))
 f284:=Tryz.func226.trans (congrArg some (by kernel_rfl))
 f285:=Tryz.func227.trans (congrArg some (by kernel_rfl))
 f286:=Tryz.func228.trans (congrArg some (by kernel_rfl))
 f288:=Tryz.func208.trans (congrArg some (by kernel_rfl))
 f317:=Tryz.func236.trans (congrArg some (by kernel_rfl))
 f318:=Tryz.func237.trans (congrArg some (by kernel_rfl))
 f319:=Tryz.func238.trans (congrArg some (by kernel_rfl))
 f320:=Tryz.func239.trans (congrArg some (by kernel_rfl))
 f337:=Tryz.func243.trans (congrArg some (by kernel_rfl))
 f338:=Tryz.func244.trans (congrArg some (by kernel_rfl))
 t0:=Tryz.underlying0
 a0:=Tryz.isAgg0
 z0:=Tryz.sizeOf0
 v0:=Tryz.zeroValue0
 t2:=Tryz.underlying2
 a2:=Tryz.isAgg2
 z2:=Tryz.sizeOf2
 v2:=Tryz.zeroValue2
 t3:=Tryz.underlying3
 a3:=Tryz.isAgg3
 z3:=Tryz.sizeOf3
 v3:=Tryz.zeroValue3
 t4:=Tryz.underlying4
 a4:=Tryz.isAgg4
 z4:=Tryz.sizeOf4
 v4:=Tryz.zeroValue4
 t5:=Tryz.underlying5
 a5:=Tryz.isAgg5
 z5:=Tryz.sizeOf5
 v5:=Tryz.zeroValue5
 t9:=Tryz.underlying9
 a9:=Tryz.isAgg9
 z9:=Tryz.sizeOf9
 v9:=Tryz.zeroValue9
 t20:=Tryz.underlying20
 a20:=Tryz.isAgg20
 z20:=Tryz.sizeOf20
 v20:=Tryz.zeroValue20
 t37:=Tryz.underlying201
 a37:=Tryz.isAgg201
 z37:=Tryz.sizeOf201
 v37:=Tryz.zeroValue201
 t46:=Tryz.underlying218
 a46:=Tryz.isAgg218
 z46:=Tryz.sizeOf218
 v46:=Tryz.zeroValue218
 t51:=Tryz.underlying332
 a51:=Tryz.isAgg332
 z51:=Tryz.sizeOf332
 v51:=Tryz.zeroValue332
 t53:=Tryz.underlying99
 a53:=Tryz.isAgg99
 z53:=Tryz.sizeOf99
 v53:=Tryz.zeroValue99
 t171:=Tryz.underlying350
 a171:=Tryz.isAgg350
 z171:=Tryz.sizeOf350
 v171:=Tryz.zeroValue350
 t173:=Tryz.underlying352
 a173:=Tryz.isAgg352
 z173:=Tryz.sizeOf352
 v173:=Tryz.zeroValue352
 t212:=Tryz.underlying362
 a212:=Tryz.isAgg362
 z212:=Tryz.sizeOf362
 v212:=Tryz.zeroValue362
 t213:=Tryz.underlying363
 a213:=Tryz.isAgg363
 z213:=Tryz.sizeOf363
 t232:=Tryz.underlying367
 a232:=Tryz.isAgg367
 z232:=Tryz.sizeOf367
 v232:=Tryz.zeroValue367
 t233:=Tryz.underlying368
 a233:=Tryz.isAgg368
 z233:=Tryz.sizeOf368
 v233:=Tryz.zeroValue368
 g17:=by kernel_rfl
 g18:=by kernel_rfl
 g19:=by kernel_rfl
 i0:=by kernel_rfl
 i2:=by kernel_rfl
 i3:=by kernel_rfl
 i4:=by kernel_rfl
 i5:=by kernel_rfl
 i9:=by kernel_rfl
 i20:=by kernel_rfl
 i37:=by kernel_rfl
 i46:=by kernel_rfl
 i51:=by kernel_rfl
 i53:=by kernel_rfl
 i171:=by kernel_rfl
 i173:=by kernel_rfl
 i212:=by kernel_rfl
 i232:=by kernel_rfl
 i233:=by kernel_rfl
 m17:=by kernel_rfl
 m18:=by kernel_rfl
 m19:=by kernel_rfl}
theorem V8:Tq Tryz.prog 141 5 where
 call:=Tryz.call141
 run_ B n i sv xs w h0 h1 hown hB hlim htab:=Go.Proofs.Any.strconv_AppendInt_10 Uz B n i h0 h1 sv xs w hown hB hlim htab
def D4(q:Int):List Nat:=(Go.Lib.itoa q).map UInt8.toNat
theorem Xy(q:Int):HO q=(D4 q).map fun(x:Nat)=>(x:Int):=by
 unfold HO D4;rw [AbT];rfl
def LV(n:Nat)(l:List Nat):Nat:=l.foldl (fun n b=>10*n+(b - 48)) n
theorem Oz(u:Nat):(∀b∈(Go.Lib.decDigits u).map UInt8.toNat,48≤b∧b≤57)∧LV 0 ((Go.Lib.decDigits u).map UInt8.toNat)=u:=by
 induction u using Nat.strongRecOn with
 | _ u ih=>
   rw [Go.Lib.decDigits];by_cases h:u<10
   ·rw [dif_pos h];have e:(UInt8.ofNat (48+u)).toNat=48+u:=by rw [UInt8.toNat_ofNat'];omega
    refine⟨fun b hb=>?_,?_⟩
    ·simp only [Ab7,AbC,Aa3,e]at hb;omega
    ·simp only [Ab7,AbC,e,LV,AaM,AaV];omega
   ·rw [dif_neg h];obtain⟨h1,h2⟩:=ih (u / 10) (by omega);have e:(UInt8.ofNat (48+u % 10)).toNat=48+u % 10:=by rw [UInt8.toNat_ofNat'];omega
    refine⟨fun b hb=>?_,?_⟩
    ·rw [Ab1,AaA]at hb;rcases hb with hb | hb
     ·exact h1 b hb
     ·simp only [Ab7,AbC,Aa3,e]at hb;omega
    ·unfold LV at h2 ⊢;rw [Ab1,AaE,h2];simp only [Ab7,AbC,e,AaM,AaV];omega
theorem Nf{q:Int}(h:0≤q):D4 q=(Go.Lib.decDigits q.toNat).map UInt8.toNat:=by
 unfold D4 Go.Lib.itoa;rw [if_neg (by omega)]
theorem IQ{q:Int}(h:0≤q):∀b∈D4 q,48≤b∧b≤57:=by rw [Nf h];exact(Oz _).1
theorem Rn{q:Int}(h:0≤q):(LV 0 (D4 q):Int)=q:=by rw [Nf h,(Oz _).2];omega
theorem Rh:∀(k u:Nat),u<10 ^ (k+1)→(Go.Lib.decDigits u).length≤k+1
 | 0,u,h=>by
   rw [Go.Lib.decDigits,dif_pos (by simpa using h)];simp
 | k+1,u,h=>by
   rw [Go.Lib.decDigits];by_cases h1:u<10
   ·rw [dif_pos h1];simp
   ·rw [dif_neg h1,Aa5];have:=Rh k (u / 10) (by rw [Nat.div_lt_iff_lt_mul (by decide)];rw [Nat.pow_succ]at h;omega);simp only [AaG,AaF];omega
theorem Rm{q:Int}(h:0≤q∧q<65536):(D4 q).length≤5:=by
 rw [Nf h.1,AaC];exact Rh 4 _ (by omega)
theorem Vp:∀(l:List Nat) (n:Nat),(∀b∈l,48≤b)→n≤LV n l
 | [],n,_=>AaD _
 | b::l,n,h=>by
   have h1:=Vp l (10*n+(b - 48)) fun x hx=>h x (AaK _ hx);unfold LV at h1 ⊢;rw [AaM];omega
theorem WL{p r:List Nat}{q:Int}(h0:0≤q)(h:D4 q=p++r):(LV 0 p:Int)≤q:=by
 have h1:=IQ h0;have h2:=Rn h0;rw [h]at h1 h2;have h3:=Vp r (LV 0 p) fun b hb=>(h1 b (AaZ _ hb)).1;unfold LV at h2 h3 ⊢;rw [AaE]at h2;omega
def Bb(l:List Int):List Nat:=l.flatMap fun q=>D4 q++[44]
theorem L4(l:List Int)(q:Int):Bb (l++[q])=Bb l++D4 q++[44]:=by
 unfold Bb;rw [List.flatMap_append];simp
theorem U9{l:List Int}(h:∀q∈l,0≤q∧q<65536):∀b∈Bb l,b<256:=by
 intro b hb;obtain⟨q,hq,hb⟩:=List.mem_flatMap.1 hb;rcases AaA.1 hb with hb | hb
 ·have:=IQ (h q hq).1 b hb;omega
 ·rw [Aa3]at hb;omega
theorem HI:∀{l:List Int},(∀q∈l,0≤q∧q<65536)→(Bb l).length≤l.length*6
 | [],_=>Ab5 _
 | q::l,h=>by
   have h1:=HI (l:=l) fun x hx=>h x (AaK _ hx);have h2:=Rm (h q (AaS ..));have h3:Bb (q::l)=(D4 q++[44])++Bb l:=by unfold Bb;rw [Ab8]
   rw [h3];simp only [Aa5,AaG,AaF];omega
def mst(s:List Int×Nat)(b:Nat):List Int×Nat:=if b=44 then(s.1++[(s.2:Int)],0)else(s.1,10*s.2+(b - 48))
theorem L3:∀(p:List Nat) (acc:List Int) (n:Nat),(∀b∈p,48≤b∧b≤57)→p.foldl mst (acc,n)=(acc,LV n p)
 | [],_,_,_=>rfl
 | b::p,acc,n,h=>by
   have hb:=h b (AaS ..);rw [AaM,show mst (acc,n) b=(acc,10*n+(b - 48)) by unfold mst;rw [if_neg (by omega)],L3 p acc _ fun x hx=>h x (AaK _ hx)];rfl
theorem RF{q:Int}(h:0≤q)(acc:List Int):(D4 q++[44]).foldl mst (acc,0)=(acc++[q],0):=by
 rw [AaE,L3 _ _ _ (IQ h)];show mst (acc,LV 0 (D4 q)) 44=_;unfold mst;rw [if_pos rfl];simp only [Rn h]
theorem KJ:∀(l:List Int) (acc:List Int),(∀q∈l,0≤q)→(Bb l).foldl mst (acc,0)=(acc++l,0)
 | [],acc,_=>by simp [Bb]
 | q::l,acc,h=>by
   have h3:Bb (q::l)=(D4 q++[44])++Bb l:=by unfold Bb;rw [Ab8]
   rw [h3,AaE,RF (h q (AaS ..)),KJ l _ fun x hx=>h x (AaK _ hx)];simp
theorem UA{l m:List Int}(hl:∀q∈l,0≤q)(hm:∀q∈m,0≤q)(h:Bb l=Bb m):l=m:=by
 have h1:=KJ l [] hl;rw [h,KJ m [] hm]at h1;simpa using h1.symm
theorem RG:∀(l:List Int) (acc:List Int) (i:Nat),(∀q∈l,0≤q∧q<65536)→(((Bb l).take i).foldl mst (acc,0)).2<65536∧∃k,k≤l.length∧(((Bb l).take i).foldl mst (acc,0)).1=acc++l.take k
 | [],acc,i,_=>by simp [Bb]
 | q::l,acc,i,h=>by
   have hq:=h q (AaS ..);have h3:Bb (q::l)=(D4 q++[44])++Bb l:=by unfold Bb;rw [Ab8]
   rw [h3];by_cases hi:i≤(D4 q).length
   ·have e:((D4 q++[44])++Bb l).take i=(D4 q).take i:=by
     rw [Ab9,List.take_append_of_le_length hi]
    rw [e,L3 _ _ _ fun b hb=>IQ hq.1 b (AbO hb)];have:=WL hq.1 (Ab0 i (D4 q)).symm;exact⟨by simp only;omega,0,Ab5 _,by simp⟩
   ·have e:((D4 q++[44])++Bb l).take i=(D4 q++[44])++(Bb l).take (i - (D4 q).length - 1):=by
     rw [List.take_append,List.take_of_length_le (by simp only [Aa5,AaG,AaF];omega)];simp only [Aa5,AaG,AaF];rw [show i - ((D4 q).length+(0+1))=i - (D4 q).length - 1 by omega]
    rw [e,AaE,RF hq.1];obtain⟨h1,k,hk,h2⟩:=RG l (acc++[q]) (i - (D4 q).length - 1) fun x hx=>h x (AaK _ hx);exact⟨h1,k+1,by simp only [AaG];omega,by rw [h2];simp⟩
def nmB(l:List Int):ByteArray:=⟨((Bb l).map UInt8.ofNat).toArray⟩
theorem VG{l:List Nat}(h:∀x∈l,x<256):byN ⟨(l.map UInt8.ofNat).toArray⟩=l:=by
 unfold byN;rw [AbT];refine(AbR fun x hx=>?_).trans (List.map_id _);show(UInt8.ofNat x).toNat=x;rw [UInt8.toNat_ofNat'];exact Nat.mod_eq_of_lt (h x hx)
theorem MW{l:List Int}(h:∀q∈l,0≤q∧q<65536):byN (nmB l)=Bb l:=VG (U9 h)
theorem Ws{l m:List Int}(hl:∀q∈l,0≤q∧q<65536)(hm:∀q∈m,0≤q∧q<65536)(h:nmB l=nmB m):l=m:=by
 have:=congrArg byN h;rw [MW hl,MW hm]at this;exact UA (fun q hq=>(hl q hq).1) (fun q hq=>(hm q hq).1) this
theorem OS{l:List Int}(h:∀q∈l,0≤q∧q<65536):(nmB l).size=(Bb l).length:=by
 rw [←Ky,MW h]
section
variable{K:Type} [DecidableEq K]
def atF(most:Nat)(f:List K)(k:K):Option (List K×Nat):=match f.findIdx? (·=k)with
 | some i=>some (f,i)
 | none=>if f.length<most then some (f++[k],f.length)else none
def DG(most:Nat)(step:K→Nat→K)(x:K)(s:Option (List K×List Nat))(b:Nat):Option (List K×List Nat):=
 s.bind fun p=>(atF most p.1 (step x b)).map fun r=>(r.1,p.2++[r.2])
def BI(most:Nat)(step:K→Nat→K)(bs:List Nat)(start:K):Nat→Option (List K×List (List Nat))
 | 0=>some ([start],[])
 | n+1=>(BI most step bs start n).bind fun p=>match p.1[n]? with
   | none=>some p
   | some x=>(bs.foldl (DG most step x) (some (p.1,[]))).map fun r=>(r.1,p.2++[r.2])
variable{most:Nat}{step:K→Nat→K}{bs:List Nat}{start:K}
theorem Gf(x:K):∀l:List Nat,l.foldl (DG most step x) none=none
 | []=>rfl
 | b::l=>by rw [AaM];exact Gf x l
theorem La{f f':List K}{k:K}{i:Nat}(h:atF most f k=some (f',i))(hl:f.length≤most)(hn:f.Nodup):f'[i]? =some k∧f'.length≤most∧f'.Nodup∧f <+: f':=by
 unfold atF at h;cases hf:f.findIdx? (·=k)with
 | some j=>
   rw [hf]at h;injection h with h
   injection h with h1 h2
   subst h1;subst h2;obtain⟨hj,h3,-⟩:=List.findIdx?_eq_some_iff_getElem.1 hf;have h3:f[j]=k:=by simpa using h3
   exact⟨by rw [AbD hj,h3],hl,hn,AbW _⟩
 | none=>
   rw [hf]at h;simp only at h;split at h
   ·rename_i hlt;injection h with h
    injection h with h1 h2
    subst h1;subst h2;have hno:k∉f:=fun hk=>by
     have:=List.findIdx?_eq_none_iff.1 hf k hk;simp at this
    refine⟨by simp,by simp only [Aa5,AaG,AaF];omega,?_,List.prefix_append _ _⟩;rw [List.nodup_append];exact⟨hn,by simp,fun a ha b hb=>by rw [Aa3]at hb;subst hb;intro e;subst e;exact hno ha⟩
   ·cases h
omit [DecidableEq K]in
theorem Eu{f f':List K}{i:Nat}{k:K}(h:f <+: f')(hi:f[i]? =some k):f'[i]? =some k:=by
 obtain⟨t,rfl⟩:=h;rw [AaL (Aa2.1 hi).1];exact hi
structure PA(most:Nat)(step:K→Nat→K)(bs:List Nat)(start:K)(n:Nat)(f:List K)(rows:List (List Nat)):Prop where
 len:f.length≤most
 nd:f.Nodup
 zero:f[0]? =some start
 rl:rows.length=n
 cols:∀row∈rows,row.length=bs.length
 ok:∀(i k:Nat) (row:List Nat) (b t:Nat) (x:K),rows[i]? =some row→bs[k]? =some b→row[k]? =some t→f[i]? =some x→f[t]? =some (step x b)
theorem Qb{f:List K}{x:K}(hl:f.length≤most)(hn:f.Nodup):∀(k:Nat),k≤bs.length→∀(f':List K) (row:List Nat),(bs.take k).foldl (DG most step x) (some (f,[]))=some (f',row)→
  f'.length≤most∧f'.Nodup∧f <+: f'∧row.length=k∧∀(j b t:Nat),bs[j]? =some b→row[j]? =some t→f'[t]? =some (step x b):=by
 intro k
 induction k with
 | zero=>
   intro _ f' row h;simp only [Ab4,AaV,AaR.injEq,Prod.mk.injEq]at h;obtain⟨rfl,rfl⟩:=h;exact⟨hl,hn,AbW _,rfl,fun j b t _ h=>by simp at h⟩
 | succ k ih=>
   intro hk f' row h;obtain⟨b,hb⟩:=Ad (l:=bs) (k:=k) (by omega);rw [Ac hb,AaE]at h;cases hp:(bs.take k).foldl (DG most step x) (some (f,[]))with
   | none=>rw [hp]at h;cases h
   | some p=>
     obtain⟨f1,r1⟩:=p;obtain⟨i1,i2,i3,i4,i5⟩:=ih (by omega) f1 r1 hp;rw [hp]at h;simp only [AaM,AaV,DG,AaX]at h;cases ha:atF most f1 (step x b)with
     | none=>rw [ha]at h;cases h
     | some r=>
       obtain⟨f2,t2⟩:=r;rw [ha]at h;simp only [AbY,AaR.injEq,Prod.mk.injEq]at h;obtain⟨rfl,rfl⟩:=h;obtain⟨a1,a2,a3,a4⟩:=La ha i1 i2;refine⟨a2,a3,i3.trans a4,by simp [i4],fun j c t hc ht=>?_⟩;by_cases hj:j<k
       ·rw [AaL (by omega)]at ht;exact Eu a4 (i5 j c t hc ht)
       ·have hjl:=(Aa2.1 ht).1;simp only [Aa5,AaG,AaF]at hjl;obtain rfl:j=k:=by omega
        rw [hb]at hc;injection hc with hc
        subst hc;rw [AaP (by omega),i4,Nat.sub_self]at ht;simp only [AbG,AaR.injEq]at ht;subst ht;exact a1
theorem JX{f:List K}{x:K}(hl:f.length≤most)(hn:f.Nodup){f':List K}{row:List Nat}(h:bs.foldl (DG most step x) (some (f,[]))=some (f',row)):
  f'.length≤most∧f'.Nodup∧f <+: f'∧row.length=bs.length∧∀(j b t:Nat),bs[j]? =some b→row[j]? =some t→f'[t]? =some (step x b):=
 Qb hl hn bs.length (AaD _) f' row (by rw [AaB];exact h)
theorem Pf(hm:1≤most):∀(n:Nat) (f:List K) (rows:List (List Nat)),BI most step bs start n=some (f,rows)→(∀j,j<n→j<f.length)→PA most step bs start n f rows
 | 0,f,rows,h,_=>by
   simp only [BI,AaR.injEq,Prod.mk.injEq]at h;obtain⟨rfl,rfl⟩:=h;exact⟨hm,by simp,rfl,rfl,(fun row h=>by cases h),fun i k row b t x h=>by simp at h⟩
 | n+1,f,rows,h,hlt=>by
   simp only [BI]at h;cases hp:BI most step bs start n with
   | none=>rw [hp]at h;cases h
   | some p=>
     obtain⟨f1,rows1⟩:=p;rw [hp]at h;simp only [AaX]at h;cases hx:f1[n]? with
     | none=>
       rw [hx]at h;simp only [AaR.injEq,Prod.mk.injEq]at h;obtain⟨rfl,rfl⟩:=h;have:=hlt n (by omega);rw [AbB]at hx;omega
     | some x=>
       rw [hx]at h;simp only at h;cases hr:bs.foldl (DG most step x) (some (f1,[]))with
       | none=>rw [hr]at h;cases h
       | some r=>
         obtain⟨f2,row⟩:=r;rw [hr]at h;simp only [AbY,AaR.injEq,Prod.mk.injEq]at h;obtain⟨rfl,rfl⟩:=h;have hxl:=(Aa2.1 hx).1;have ih:=Pf hm n f1 rows1 hp fun j hj=>by omega
         obtain⟨g1,g2,g3,g4,g5⟩:=JX ih.len ih.nd hr;refine⟨g1,g2,Eu g3 ih.zero,by simp [ih.rl],fun r hr'=>?_,fun i k r b t y hi hk ht hy=>?_⟩
         ·rcases AaA.1 hr' with hr' | hr'
          ·exact ih.cols r hr'
          ·rw [Aa3]at hr';subst hr';exact g4
         ·by_cases hin:i<n
          ·rw [AaL (by rw [ih.rl];exact hin)]at hi;obtain⟨y1,hy1⟩:=Ad (l:=f1) (k:=i) (by omega);have:=Eu g3 hy1;rw [hy]at this;injection this with this
           subst this;exact Eu g3 (ih.ok i k r b t y hi hk ht hy1)
          ·have hil:=(Aa2.1 hi).1;simp only [Aa5,AaG,AaF,ih.rl]at hil;obtain rfl:i=n:=by omega
           rw [AaP (by rw [ih.rl];exact AaD _),ih.rl,Nat.sub_self]at hi;simp only [AbG,AaR.injEq]at hi;subst hi;have:=Eu g3 hx;rw [hy]at this;injection this with this
           subst this;exact g5 k b t hk ht
theorem LI{n:Nat}{f:List K}{rows:List (List Nat)}(h:BI most step bs start n=some (f,rows))(hn:f.length≤n):∀m,n≤m→BI most step bs start m=some (f,rows):=by
 intro m hm
 induction m with
 | zero=>obtain rfl:n=0:=by omega
         exact h
 | succ m ih=>
   by_cases he:n=m+1
   ·subst he;exact h
   ·have:=ih (by omega);simp only [BI,this,AaX];rw [AaO (by omega)]
theorem Q7{n:Nat}(h:BI most step bs start n=none):∀m,n≤m→BI most step bs start m=none:=by
 intro m hm
 induction m with
 | zero=>obtain rfl:n=0:=by omega
         exact h
 | succ m ih=>
   by_cases he:n=m+1
   ·subst he;exact h
   ·have:=ih (by omega);simp only [BI,this,Option.bind_none]
def FN(most:Nat)(step:K→Nat→K)(bs:List Nat)(start:K):Option (List K×List (List Nat)):=BI most step bs start most
theorem Mp{n:Nat}{f:List K}{rows:List (List Nat)}(h:BI most step bs start n=some (f,rows))(hn:f.length=n)(hl:f.length≤most):FN most step bs start=some (f,rows):=
 LI h (by omega) most (by omega)
theorem Mq{n:Nat}(h:BI most step bs start (n+1)=none)(hn:n<most):FN most step bs start=none:=Q7 h most hn
end
end Go.Proofs.YtfbghcpdinlmcaaGreatDoor
namespace Go.VC
section
variable{α:Type}{T:Ty α}{e te:TypeId}{nb:Nat}{vs:List Value}{xs:List (List α)}{B:Nat→Prop}{H0 H H1:Aa}{ps:List Pc}
theorem T8{P:Program}{tt ty q by_ t cap2:Nat}{z:Value}{a:Option Addr}{n cap:Nat}{ds:List Value}{x:List α}{y:α}{K:Value→Aa→Prop}(st:StB B H0 H ps)(i:Nat)(ht:SlT P tt e T.size by_ z)(hp:ps[i]? =some (pT T e te nb vs xs))(hv:vs[t]? =some (.slice a n cap))(hx:xs[t]? =some x)
  (hd:Bi H q 0 ds) (hy:T.rep none_ H ds y) (hw:ds.all (·.oneCell')=true) (h63:x.length+1≤34359738368) (hby:by_≤1024)
  (k:∀a' cap' H1,Mid T B H0 H H1 ps i e te nb vs xs t (.slice a' (x.length+1) cap') (x++[y])→Agr (fun k=>k<H.size∧¬slB (.slice a n cap) k) H H1→K (.slice a' (x.length+1) cap') H1):By P (Builtin.append_ #[tt,tt] ty [.slice a n cap,.slice (some ⟨q,0,none⟩) 1 cap2].toArray) H K:=by
 have tab:=st.tab i hp;have hown:=tab.own t _ _ hv hx;refine BZ (T:=T) (S:=none_) (lo:=nb+1) (ys:=[y]) ht hown tab.blk.lt (fun k hk=>hk.elim) hd (Ty.reps_one hy) rfl (fun u hu=>List.all_eq_true.1 hw u hu) (by unfold maxLen;simp only [Aa0];omega) (by have:=Nat.mul_le_mul h63 hby;simp only [Aa0];omega) ?_;intro v' H1 hown1 hagr hsz hfr;obtain⟨a',cap',rfl⟩:=hown1.hull;rw [Aa5,Aa0]at hown1 hfr ⊢;exact k a' cap' H1 ⟨st,hp,hown1,⟨_,hv,hagr,hfr⟩,hsz⟩ hagr
theorem StB.rowNe(st:StB B H0 H ps)(i:Nat)(hp:ps[i]? =some (pT T e te nb vs xs)){t:Nat}{v:Value}{x:List α}(hv:vs[t]? =some v)(hx:xs[t]? =some x):¬slB v nb:=fun h=>by
 have hown:=(st.tab i hp).own t _ _ hv hx;have:=(hown.lt h).1;omega
end
end Go.VC
namespace Go.Proofs.YtfbghcpdinlmcaaGreatDoor
open Go.VC
section
variable{β:Type}
def grp(n:Nat)(key:EdM→Option (Nat×β))(l:List EdM):List (List β):=(List.range n).map fun q=>l.filterMap fun e=>(key e).bind fun p=>if p.1=q then some p.2 else none
theorem CJ(n:Nat)(key:EdM→Option (Nat×β))(l:List EdM):(grp n key l).length=n:=by simp [grp]
theorem EN{n q:Nat}(key:EdM→Option (Nat×β))(l:List EdM)(h:q<n):(grp n key l)[q]? =some (l.filterMap fun e=>(key e).bind fun p=>if p.1=q then some p.2 else none):=by
 unfold grp;rw [AaN,List.getElem?_range h];rfl
theorem KG(n:Nat)(key:EdM→Option (Nat×β)):grp n key []=Aa6 n []:=by
 unfold grp;simp [List.map_const']
theorem Dd{n:Nat}{key:EdM→Option (Nat×β)}{l:List EdM}{e:EdM}(h:key e=none):grp n key (l++[e])=grp n key l:=by
 unfold grp;refine AbR fun q _=>?_;rw [AbL];simp [h]
theorem Jb{n q:Nat}{key:EdM→Option (Nat×β)}{l:List EdM}{e:EdM}{y:β}{row:List β}(h:key e=some (q,y))(hr:(grp n key l)[q]? =some row):grp n key (l++[e])=(grp n key l).set q (row++[y]):=by
 have hq:q<n:=by have:=(Aa2.1 hr).1;rwa [CJ]at this
 rw [EN key l hq]at hr;injection hr with hr
 apply List.ext_getElem?;intro j;by_cases hj:j<n
 ·rw [EN key _ hj,AbL,List.getElem?_set,CJ,EN key _ hj];by_cases hjq:q=j
  ·subst hjq;rw [if_pos rfl,if_pos hj,←hr];simp [h]
  ·rw [if_neg hjq];simp [h,hjq]
 ·rw [AaO (by rw [CJ];omega),AaO (by rw [List.length_set,CJ];omega)]
end
def AG(a:NfM):Nat:=if 0≤a.st∧a.st≤65536 then a.st.toNat else 0
theorem HK(a:NfM):AG a≤65536:=by unfold AG;split<;>omega
theorem Hb(a:NfM)(q:Int):a.has q=(decide (0≤q)&&decide (q<(AG a:Int))):=by
 rw [Bool.eq_iff_iff,NfM.has_iff];unfold AG;simp only [AbE,decide_eq_true_eq];split<;>omega
def okE(a:NfM)(e:EdM):Bool:=a.has e.fr&&a.has e.to
def keyS(a:NfM)(e:EdM):Option (Nat×Int):=if okE a e&&e.sil then some (e.fr.toNat,e.to)else none
def I1(a:NfM)(e:EdM):Option (Nat×EdM):=if okE a e&& !e.sil then some (e.fr.toNat,e)else none
def XX(a:NfM):List (List Int):=grp (AG a) (keyS a) a.edges
def LU(a:NfM):List (List EdM):=grp (AG a) (I1 a) a.edges
abbrev tNt:TypeId:=172
def ntL(sv tv:Value)(n:Nat):List Value:=[sv,tv,.int .i64 (n:Int)]
def Ko(S:Nat→Prop)(H:Aa)(v:Value)(a:NfM):Prop:=∃nb sa sc ta tc,v= .pointer (some ⟨nb,0,none⟩)∧S nb∧Bi H nb 0 (ntL (.slice sa (AG a) sc) (.slice ta (AG a) tc) (AG a))∧SlD (tSl tIk) S H sa sc (XX a)∧SlD (tSl tEd) S H ta tc (LU a)
theorem Ko.frame{S:Nat→Prop}{H H':Aa}{v:Value}{a:NfM}(h:Ko S H v a)(k:Agr S H H'):Ko S H' v a:=by
 obtain⟨nb,sa,sc,ta,tc,h1,h2,h3,h4,h5⟩:=h;exact⟨nb,sa,sc,ta,tc,h1,h2,h3.eq (k nb h2),h4.frame k,h5.frame k⟩
theorem Ko.mono{S S':Nat→Prop}{H:Aa}{v:Value}{a:NfM}(h:Ko S H v a)(k:∀i,S i→S' i):Ko S' H v a:=by
 obtain⟨nb,sa,sc,ta,tc,h1,h2,h3,h4,h5⟩:=h;exact⟨nb,sa,sc,ta,tc,h1,k _ h2,h3,h4.mono k,h5.mono k⟩
theorem Qu{H:Aa}{nb:Nat}{sv tv:Value}{a:NfM}{q:Int}(h:Bi H nb 0 (ntL sv tv (AG a))):B8 Tryz.prog 88 #[.pointer (some ⟨nb,0,none⟩),.int .i64 q] H (.bool (a.has q)):=by
 refine Al.of_vc Tryz.func88 rfl (Tryz.call88 _) ?_;by_cases h0:0≤q
 ·have d0:decide ((0:Int)≤q)=true:=decide_eq_true h0;(conv=>whnf);rw [d0];refine fa KC (ld1 (v:=.int .i64 (AG a:Int)) ct3 (h 2 _ rfl) trivial ?_);(conv=>whnf);exact⟨by rw [Hb,d0,AbQ],Agr.refl _ _⟩
 ·have d0:decide ((0:Int)≤q)=false:=decide_eq_false h0;(conv=>whnf);rw [d0];(conv=>whnf);exact⟨by rw [Hb,d0,AaH],Agr.refl _ _⟩
theorem ZN:(Tryz.prog.info? 172).bind (·.zero)=some (.agg #[.slice none 0 0,.slice none 0 0,.int .i64 0]):=rfl
theorem W2{S:Nat→Prop}{H:Aa}{v:Value}{a:NfM}(hS:∀k,S k→k<H.size)(h:NfV S H v a):
  Al Tryz.prog 87 #[v] H fun r H'=>Agr (Old H) H H'∧Ko (Old H') H' r a:=by
 have hr:=h.1;have hl:=h.2.1;refine Al.of_vc Tryz.func87 rfl (Tryz.call87 _) (Qt h fun ea ec he0 h1=>?_);subst he0;intro p H1 hp hs1 hb1 ha1;have st1:=(St.nil H).box hp hs1 hb1 ha1;refine A6 Tryz.underlying172 rfl _ ZN (ntL (.slice none 0 0) (.slice none 0 0) 0) rfl (B0 (ntL (.slice none 0 0) (.slice none 0 0) 0) rfl ?_);intro nb H2 hnb hs2 hb2 ha2;have st2:=st1.box hnb hs2 hb2 ha2;have hnle:=HK a;obtain⟨n,hn⟩:∃n,n=AG a:=⟨_,rfl⟩;rw [←hn]at hnle;have hp2:=st2.blk 0 rfl;have cond:∀c:Bool,c=(decide ((0:Int)≤a.st)&&decide (a.st≤65536))→(c=true→(n:Int)=a.st)∧(c=false→n=0):=by
  intro c hc;rw [hc,hn];unfold AG;constructor
  ·intro h;simp only [AbE,decide_eq_true_eq]at h;rw [if_pos h];omega
  ·intro h;rw [if_neg fun h2=>by simp [h2.1,h2.2]at h]
 (conv=>whnf);refine Am.cut (α:=Unit) [] (fun _=>[]) (fun _ H3=>St H H3 [pB 76 p (nfL a (.slice ea a.edges.length ec)),pB tNt nb (ntL (.slice none 0 0) (.slice none 0 0) n)]) ?_ ?_
 ·refine fa Ix ?_;refine ld1 (v:=.int .i64 a.st) ct3 (by rw [hp2.cell];rfl) trivial ?_;by_cases h0:0≤a.st
  ·have d0:decide ((0:Int)≤a.st)=true:=decide_eq_true h0;(conv=>whnf);rw [d0];refine fa Ix ?_;refine ld1 (v:=.int .i64 a.st) ct3 (by rw [hp2.cell];rfl) trivial ?_;by_cases h6:a.st≤65536
   ·have d6:decide (a.st≤(65536:Int))=true:=decide_eq_true h6;have hns:(n:Int)=a.st:=(cond true (by rw [d0,d6];rfl)).1 rfl;(conv=>whnf);rw [d6];refine fa Ix ?_;refine ld1 (v:=.int .i64 a.st) ct3 (by rw [hp2.cell];rfl) trivial ?_;refine fa KC (AT st2 1 ct3 rfl (show 2<3 by decide) rfl fun H3 st3=>(⟨rfl,(),rfl,?_⟩));unfold ntL;rw [hns];exact st3
   ·have d6:decide (a.st≤(65536:Int))=false:=decide_eq_false h6;obtain rfl:n=0:=(cond false (by rw [d0,d6];rfl)).2 rfl;(conv=>whnf);rw [d6];(conv=>whnf);exact⟨rfl,(),rfl,st2⟩
  ·have d0:decide ((0:Int)≤a.st)=false:=decide_eq_false h0;obtain rfl:n=0:=(cond false (by rw [d0];rfl)).2 rfl;(conv=>whnf);rw [d0];(conv=>whnf);exact⟨rfl,(),rfl,st2⟩
 ·rintro⟨⟩ H3 junk3 st3;refine fa KC ?_;refine ld1 (v:=.int .i64 (n:Int)) ct3 (by rw [(st3.blk 1 rfl).cell];rfl) trivial ?_;refine Eo DH rfl (by omega) (by omega) (by omega) (by omega) ?_;intro sb H4 hsb hs4 hb4 ha4;rw [Aa7]at hb4 ⊢;have st4:=st3.tabNew tIk 3 hsb hs4 hb4 ha4;refine fa KB (AT st4 1 DZ rfl (show 0<3 by decide) rfl fun H5 st5=>(fa KC ?_));refine ld1 (v:=.int .i64 (n:Int)) ct3 (by rw [(st5.blk 1 rfl).cell];rfl) trivial ?_;refine Eo Pp rfl (by omega) (by omega) (by omega) (by omega) ?_;intro tb H6 htb hs6 hb6 ha6;rw [Aa7]at hb6 ⊢;have st6:=st5.tabNew tEd 174 htb hs6 hb6 ha6;refine fa IV (AT st6 1 Ov rfl (show 1<3 by decide) rfl fun H7 st7=>?_);have hp7:=st7.blk 0 rfl;refine fa Lx ?_;refine ld1 (v:=.slice ea a.edges.length ec) MY (by rw [hp7.cell];rfl) trivial ?_;(conv=>whnf);refine A3.mk [40] (fun i:Nat=>[.int .i64 (i:Int)]) (fun i H8=>i≤a.edges.length∧∃vs vt,St H H8 [pB 76 p (nfL a (.slice ea a.edges.length ec)),pB tNt nb (ntL (.slice (some ⟨sb,0,none⟩) n n) (.slice (some ⟨tb,0,none⟩) n n) n),pT tIk 3 41 sb vs (grp n (keyS a) (a.edges.take i)),pT tEd 174 74 tb vt (grp n (I1 a) (a.edges.take i))]) (fun i _=>a.edges.length - i) ?_ ?_
  ·(conv=>whnf);refine⟨0,rfl,Ab5 _,Aa6 n (.slice none 0 0),Aa6 n (.slice none 0 0),?_⟩;rw [Ab4,KG,KG];exact st7
  ·rintro i H8 junk8 ⟨hi,vs,vt,st8⟩;refine AB.mk (fun hz=>?_) (fun hz=>?_)<;>simp only [decide_eq_true_eq,decide_eq_false_iff_not]at hz
   ·obtain⟨e,he⟩:=Ad (l:=a.edges) (k:=i) (by omega);refine Am.run (ixr (i:=i) NK (h1.frame (st8.old.mono hS)) he rfl ?_);rintro b6 o6 c6 hS6 hc6 ⟨rfl,hok⟩;refine ldN (cs:=edL e) QU hc6 trivial (Ak _ [.int .i64 0,.int .i64 0,.bool false,.int .u64 0,.int .u64 0,.int .u64 0,.int .u64 0] Lo rfl ?_);intro x H9 hx hs9 hb9 ha9;have st9':=st8.box hx hs9 hb9 ha9;refine AI (cs:=edL e) st9' 4 rfl rfl (AaD _) rfl fun H10 st10=>?_;rw [Ax (show(edL e).length=7 from rfl)]at st10;clear st9' hs9 hb9 ha9;obtain⟨H9,rfl⟩:∃H9,H9=H10:=⟨_,rfl⟩;have st9:=st10;have hX:=st9.blk 4 rfl;have hcells:Bi H9 nb 0 (ntL (.slice (some ⟨sb,0,none⟩) n n) (.slice (some ⟨tb,0,none⟩) n n) (AG a)):=by
     rw [←hn];exact(st9.blk 1 rfl).cells fun j v hv=>by rw [Aa1];exact hv
    refine fa IW ?_;refine ld1 (v:=.int .i64 e.fr) ct3 (by rw [hX.cell];rfl) trivial ?_;refine Ao (Qu hcells) fun H14 ha14=>?_;have st14:=st9.call ha14;cases hf:a.has e.fr with
    | false=>
      have k1:keyS a e=none:=by unfold keyS okE;rw [hf,AaH,AaH];rfl
      have k2:I1 a e=none:=by unfold I1 okE;rw [hf,AaH,AaH];rfl
      have g1:=Dd (n:=n) (l:=a.edges.take i) k1;have g2:=Dd (n:=n) (l:=a.edges.take i) k2;rw [←Ac he]at g1 g2;(conv=>whnf);rw [w64 (x:=(i:Int)+1) (by omega) (by omega)];refine⟨rfl,i+1,by simp,⟨by omega,vs,vt,?_⟩,by omega⟩;rw [g1,g2];exact st14.pick [0,1,2,3] (by decide)
    | true=>
      refine fa Nl ?_;refine ld1 (v:=.int .i64 e.to) ct3 (by rw [(st14.blk 4 rfl).cell];rfl) trivial ?_;refine Ao (Qu (hcells.eq (ha14 nb (st9.in_ 1 rfl rfl).2))) fun Hq ha15=>?_;have stq:=st14.call ha15;cases ht:a.has e.to with
      | false=>
        have k1:keyS a e=none:=by unfold keyS okE;rw [hf,ht,AbM,AaH];rfl
        have k2:I1 a e=none:=by unfold I1 okE;rw [hf,ht,AbM,AaH];rfl
        have g1:=Dd (n:=n) (l:=a.edges.take i) k1;have g2:=Dd (n:=n) (l:=a.edges.take i) k2;rw [←Ac he]at g1 g2;(conv=>whnf);rw [w64 (x:=(i:Int)+1) (by omega) (by omega)];refine⟨rfl,i+1,by simp,⟨by omega,vs,vt,?_⟩,by omega⟩;rw [g1,g2];exact stq.pick [0,1,2,3] (by decide)
      | true=>
        have hfr:=NfM.has_iff.1 hf;have hfn:0≤e.fr∧e.fr<(n:Int):=by
         have:=Hb a e.fr;rw [hf,←hn]at this;simpa using this.symm
        have htn:e.fr.toNat<n:=by omega
        refine fa VY ?_;refine ld1 (v:=.bool e.sil) ct4 (by rw [(stq.blk 4 rfl).cell];rfl) trivial ?_;cases hsl:e.sil with
        | true=>
          (conv=>whnf);obtain⟨row,hrow⟩:=Ad (l:=grp n (keyS a) (a.edges.take i)) (k:=e.fr.toNat) (by rw [CJ];omega);have hrl:row.length≤i:=by
           rw [EN _ _ (show e.fr.toNat<n by omega)]at hrow;injection hrow with hrow
           rw [←hrow];exact AbV (AaT _ _) (Ab3 _ _)
          obtain⟨ra,rc,hvr,-⟩:=stq.row 2 rfl hrow;have hne:=stq.rowNe 2 rfl hvr hrow;have foot:∀k,slB (.slice ra row.length rc) k→(pT tIk 3 41 sb vs (grp n (keyS a) (a.edges.take i))).foot k:=fun k hk=>.inr ⟨e.fr.toNat,_,hvr,hk⟩;have d1:=stq.apart2 (i:=1) (j:=2) rfl rfl (by decide);have d4:=stq.apart2 (i:=4) (j:=2) rfl rfl (by decide);have qn:nb<Hq.size∧¬slB (.slice ra row.length rc) nb:=⟨(stq.in_ 1 rfl rfl).2,fun h=>d1 nb rfl (foot nb h)⟩;have qx:x<Hq.size∧¬slB (.slice ra row.length rc) x:=⟨(stq.in_ 4 rfl rfl).2,fun h=>d4 x rfl (foot x h)⟩;have qt:sb<Hq.size∧¬slB (.slice ra row.length rc) sb:=⟨(stq.in_ 2 rfl (.inl rfl)).2,hne⟩;have hbq:=stq.blk 1 rfl;have hxq:=stq.blk 4 rfl;refine Ar.heldZ (fun k=>k<Hq.size∧¬slB (.slice ra row.length rc) k) [19] (sq [0,1,2,3,4,5,6,7,8,9,10,11,12,13,14,15] (.f 16 (.f 17 (sq [18] (.f 19 .e))))) rfl (by kernel_rfl) (fa KB ?_);refine ld1 (v:=.slice (some ⟨sb,0,none⟩) n n) DZ (by rw [hbq.cell];rfl) qn ?_;refine fa IW ?_;refine ld1 (v:=.int .i64 e.fr) ct3 (by rw [hxq.cell];rfl) qx ?_;refine fa KB ?_;refine ld1 (v:=.slice (some ⟨sb,0,none⟩) n n) DZ (by rw [hbq.cell];rfl) qn ?_;refine fa IW ?_;refine ld1 (v:=.int .i64 e.fr) ct3 (by rw [hxq.cell];rfl) qx ?_;refine ix DH (by omega) (by omega) (ld1 CW (stq.tcell 2 rfl hvr (by rw [Aa1,AaQ])) qt (fa Nl ?_));refine ld1 (v:=.int .i64 e.to) ct3 (by rw [hxq.cell];rfl) qx ?_;refine A2 AL [.int .i64 e.to] rfl rfl (by decide) (by decide) ?_;intro q11 H11 hq11 hs11 hb11 ha11;have st11:=stq.skip hq11 ha11;refine⟨ha11.mono fun k hk=>by have:=hk.1;omega,?_⟩;refine T8 (ds:=[.int .i64 e.to]) (y:=e.to) st11 2 AL rfl hvr hrow (hb11.cells fun j v hv=>by rw [Aa1];exact hv) ⟨rfl,hok.2⟩ rfl (by omega) (by decide) fun wa wc H12 mid ha12=>?_;refine⟨(ha11.mono fun k hk=>by have:=hk.1;omega).trans (ha12.mono fun k hk=>⟨by have:=hk.1;omega,hk.2⟩),?_⟩;refine ix DH (by omega) (by omega) (stT mid CW (by rw [Aa1,AaQ]) fun H13 st13=>?_);have hk1:keyS a e=some (e.fr.toNat,e.to):=by unfold keyS okE;rw [hf,ht,hsl];rfl
          have hk2:I1 a e=none:=by unfold I1 okE;rw [hf,ht,hsl];rfl
          have g1:=Jb hk1 hrow;have g2:=Dd (n:=n) (l:=a.edges.take i) hk2;rw [←Ac he]at g1 g2;(conv=>whnf);rw [w64 (x:=(i:Int)+1) (by omega) (by omega)];refine⟨rfl,i+1,by simp,⟨by omega,vs.set e.fr.toNat (.slice wa (row.length+1) wc),vt,?_⟩,by omega⟩;rw [g1,g2];exact st13.pick [0,1,2,3] (by decide)
        | false=>
          (conv=>whnf);obtain⟨row,hrow⟩:=Ad (l:=grp n (I1 a) (a.edges.take i)) (k:=e.fr.toNat) (by rw [CJ];omega);have hrl:row.length≤i:=by
           rw [EN _ _ (show e.fr.toNat<n by omega)]at hrow;injection hrow with hrow
           rw [←hrow];exact AbV (AaT _ _) (Ab3 _ _)
          obtain⟨ra,rc,hvr,-⟩:=stq.row 3 rfl hrow;have hne:=stq.rowNe 3 rfl hvr hrow;have foot:∀k,slB (.slice ra row.length rc) k→(pT tEd 174 74 tb vt (grp n (I1 a) (a.edges.take i))).foot k:=fun k hk=>.inr ⟨e.fr.toNat,_,hvr,hk⟩;have d1:=stq.apart2 (i:=1) (j:=3) rfl rfl (by decide);have d4:=stq.apart2 (i:=4) (j:=3) rfl rfl (by decide);have qn:nb<Hq.size∧¬slB (.slice ra row.length rc) nb:=⟨(stq.in_ 1 rfl rfl).2,fun h=>d1 nb rfl (foot nb h)⟩;have qx:x<Hq.size∧¬slB (.slice ra row.length rc) x:=⟨(stq.in_ 4 rfl rfl).2,fun h=>d4 x rfl (foot x h)⟩;have qt:tb<Hq.size∧¬slB (.slice ra row.length rc) tb:=⟨(stq.in_ 3 rfl (.inl rfl)).2,hne⟩;have hbq:=stq.blk 1 rfl;have hxq:=stq.blk 4 rfl;refine Ar.heldZ (fun k=>k<Hq.size∧¬slB (.slice ra row.length rc) k) [18] (sq [0,1,2,3,4,5,6,7,8,9,10,11,12,13,14] (.f 15 (.f 16 (sq [17] (.f 18 .e))))) rfl (by kernel_rfl) (fa IV ?_);refine ld1 (v:=.slice (some ⟨tb,0,none⟩) n n) Ov (by rw [hbq.cell];rfl) qn ?_;refine fa IW ?_;refine ld1 (v:=.int .i64 e.fr) ct3 (by rw [hxq.cell];rfl) qx ?_;refine fa IV ?_;refine ld1 (v:=.slice (some ⟨tb,0,none⟩) n n) Ov (by rw [hbq.cell];rfl) qn ?_;refine fa IW ?_;refine ld1 (v:=.int .i64 e.fr) ct3 (by rw [hxq.cell];rfl) qx ?_;refine ix Pp (by omega) (by omega) (ld1 MY (stq.tcell 3 rfl hvr (by rw [Aa1,AaQ])) qt ?_);refine ldN (cs:=edL e) QU (hxq.cells fun j v hv=>by rw [Aa1];exact hv) qx ?_;refine A2 NK (edL e) rfl rfl (by decide) (by decide) ?_;intro q11 H11 hq11 hs11 hb11 ha11;have st11:=stq.skip hq11 ha11;refine⟨ha11.mono fun k hk=>by have:=hk.1;omega,?_⟩;refine T8 (ds:=edL e) (y:=e) st11 3 NK rfl hvr hrow (hb11.cells fun j v hv=>by rw [Aa1];exact hv) ⟨rfl,hok⟩ (Ng e) (by omega) (by decide) fun wa wc H12 mid ha12=>?_;refine⟨(ha11.mono fun k hk=>by have:=hk.1;omega).trans (ha12.mono fun k hk=>⟨by have:=hk.1;omega,hk.2⟩),?_⟩;refine ix Pp (by omega) (by omega) (stT mid MY (by rw [Aa1,AaQ]) fun H13 st13=>?_);have hk1:I1 a e=some (e.fr.toNat,e):=by unfold I1 okE;rw [hf,ht,hsl];rfl
          have hk2:keyS a e=none:=by unfold keyS okE;rw [hf,ht,hsl];rfl
          have g1:=Jb hk1 hrow;have g2:=Dd (n:=n) (l:=a.edges.take i) hk2;rw [←Ac he]at g1 g2;(conv=>whnf);rw [w64 (x:=(i:Int)+1) (by omega) (by omega)];refine⟨rfl,i+1,by simp,⟨by omega,vs,vt.set e.fr.toNat (.slice wa (row.length+1) wc),?_⟩,by omega⟩;rw [g1,g2];exact st13.pick [0,1,2,3] (by decide)
   ·obtain rfl:i=a.edges.length:=by omega
    rw [AaB]at st8;(conv=>whnf);refine⟨st8.old,nb,some ⟨sb,0,none⟩,n,some ⟨tb,0,none⟩,n,rfl,(st8.in_ 1 rfl rfl).2,?_,?_,?_⟩
    ·rw [←hn];exact(st8.blk 1 rfl).cells fun j v hv=>by rw [Aa1];exact hv
    ·have:=st8.tview 2 rfl (by rw [CJ];unfold maxLen;omega);unfold XX;rw [←hn];rw [CJ]at this;exact this
    ·have:=st8.tview 3 rfl (by rw [CJ];unfold maxLen;omega);unfold LU;rw [←hn];rw [CJ]at this;exact this
def He(a:NfM)(e:EdM):Option (Nat×EdM):=if okE a e then some (e.fr.toNat,e)else none
abbrev tTb:TypeId:=193
def tbL(n:Nat)(ov mv:Value):List Value:=[.int .i64 (n:Int),ov,mv]
theorem tb_z:(Tryz.prog.info? 193).bind (·.zero)=some (.agg #[.int .i64 0,.slice none 0 0,.slice none 0 0]):=rfl
def Zm(nb tb:Nat)(n:Nat)(ma:Option Addr)(mc:Nat)(vt:List Value)(rows:List (List EdM))(OM:List Bool):List Pc:=
 [pB tTb nb (tbL n (.slice (some ⟨tb,0,none⟩) n n) (.slice ma n mc)),pT Cz 185 79 tb vt rows,pS A1 4 ma n mc OM]
theorem Ml{S:Nat→Prop}{H:Aa}:∀xs:List Bool,A1.reps S H (xs.map Value.bool) xs
 | []=>rfl
 | x::xs=>⟨[.bool x],xs.map Value.bool,rfl,rfl,Ml xs⟩
theorem Vl{S:Nat→Prop}{H:Aa}{v:Value}{a:NfM}(hS:∀k,S k→k<H.size)(h:NdV S H v a):
  Al Tryz.prog 97 #[v] H fun r H'=>∃nb tb ma mc vt,r= .pointer (some ⟨nb,0,none⟩)∧St H H' (Zm nb tb (AG a) ma mc vt (grp (AG a) (He a) a.edges) (Aa6 (AG a) false)):=by
 have hr:=h.1;have hl:=h.2.1;refine Al.of_vc Tryz.func97 rfl (Tryz.call97 _) (Qr h fun ea ec he0 h1=>?_);subst he0;intro p H1 hp hs1 hb1 ha1;have st1:=(St.nil H).box hp hs1 hb1 ha1;refine A6 Tryz.underlying193 rfl _ tb_z (tbL 0 (.slice none 0 0) (.slice none 0 0)) rfl (B0 (tbL 0 (.slice none 0 0) (.slice none 0 0)) rfl ?_);intro nb H2 hnb hs2 hb2 ha2;have st2:=st1.box hnb hs2 hb2 ha2;have hnle:=HK a;obtain⟨n,hn⟩:∃n,n=AG a:=⟨_,rfl⟩;rw [←hn]at hnle;have hp2:=st2.blk 0 rfl;have cond:∀c:Bool,c=(decide ((0:Int)<a.st)&&decide (a.st≤65536))→(c=true→(n:Int)=a.st)∧(c=false→n=0):=by
  intro c hc;rw [hc,hn];unfold AG;constructor
  ·intro h;simp only [AbE,decide_eq_true_eq]at h;rw [if_pos ⟨by omega,h.2⟩];omega
  ·intro h;by_cases h0:0<a.st
   ·rw [if_neg fun h2=>by simp [h0,h2.2]at h]
   ·split<;>omega
 (conv=>whnf);refine Am.cut (α:=Unit) [] (fun _=>[]) (fun _ H3=>St H H3 [pB 81 p (nfL a (.slice ea a.edges.length ec)),pB tTb nb (tbL n (.slice none 0 0) (.slice none 0 0))]) ?_ ?_
 ·refine fa Ck ?_;refine ld1 (v:=.int .i64 a.st) ct3 (by rw [hp2.cell];rfl) trivial ?_;by_cases h0:0<a.st
  ·have d0:decide ((0:Int)<a.st)=true:=decide_eq_true h0;(conv=>whnf);rw [d0];refine fa Ck ?_;refine ld1 (v:=.int .i64 a.st) ct3 (by rw [hp2.cell];rfl) trivial ?_;by_cases h6:a.st≤65536
   ·have d6:decide (a.st≤(65536:Int))=true:=decide_eq_true h6;have hns:(n:Int)=a.st:=(cond true (by rw [d0,d6];rfl)).1 rfl;(conv=>whnf);rw [d6];refine fa Ck ?_;refine ld1 (v:=.int .i64 a.st) ct3 (by rw [hp2.cell];rfl) trivial ?_;refine fa Gp (AT st2 1 ct3 rfl (show 0<3 by decide) rfl fun H3 st3=>(⟨rfl,(),rfl,?_⟩));unfold tbL;rw [hns];exact st3
   ·have d6:decide (a.st≤(65536:Int))=false:=decide_eq_false h6;obtain rfl:n=0:=(cond false (by rw [d0,d6];rfl)).2 rfl;(conv=>whnf);rw [d6];(conv=>whnf);exact⟨rfl,(),rfl,st2⟩
  ·have d0:decide ((0:Int)<a.st)=false:=decide_eq_false h0;obtain rfl:n=0:=(cond false (by rw [d0];rfl)).2 rfl;(conv=>whnf);rw [d0];(conv=>whnf);exact⟨rfl,(),rfl,st2⟩
 ·rintro⟨⟩ H3 junk3 st3;refine fa Gp ?_;refine ld1 (v:=.int .i64 (n:Int)) ct3 (by rw [(st3.blk 1 rfl).cell];rfl) trivial ?_;refine Eo Pq rfl (by omega) (by omega) (by omega) (by omega) ?_;intro tb H4 htb hs4 hb4 ha4;rw [Aa7]at hb4 ⊢;have st4:=st3.tabNew Cz 185 htb hs4 hb4 ha4;refine fa IY (AT st4 1 Ow rfl (show 1<3 by decide) rfl fun H5 st5=>(fa Gp ?_));refine ld1 (v:=.int .i64 (n:Int)) ct3 (by rw [(st5.blk 1 rfl).cell];rfl) trivial ?_;refine Eo Cs rfl (by omega) (by omega) (by omega) (by omega) ?_;intro mb H6 hmb hs6 hb6 ha6;rw [Aa7]at hb6 ⊢;have hreps:A1.reps none_ H6 (Aa6 n (Value.bool false)) (Aa6 n false):=by
   have:=Ml (S:=none_) (H:=H6) (Aa6 n false);rwa [List.map_replicate]at this
  have st6:=st5.new (T:=A1) (n:=n) (xs:=Aa6 n false) hmb hs6 hb6 ha6 hreps (by simp) (by unfold maxLen;omega);refine fa Gq (AT st6 1 FM rfl (show 2<3 by decide) rfl fun H7 st7=>?_);(conv=>whnf);refine A3.mk [4] (fun i:Nat=>[.int .i64 (i:Int)]) (fun i H8=>i≤a.edges.length∧∃vt,St H H8 [pB 81 p (nfL a (.slice ea a.edges.length ec)),pB tTb nb (tbL n (.slice (some ⟨tb,0,none⟩) n n) (.slice (some ⟨mb,0,none⟩) n n)),pT Cz 185 79 tb vt (grp n (He a) (a.edges.take i)),pS A1 4 (some ⟨mb,0,none⟩) n n (Aa6 n false)]) (fun i _=>a.edges.length - i) ?_ ?_
  ·(conv=>whnf);refine⟨0,rfl,Ab5 _,Aa6 n (.slice none 0 0),?_⟩;rw [Ab4,KG];exact st7
  ·rintro i H8 junk8 ⟨hi,vt,st8⟩;have hp8:=st8.blk 0 rfl;refine fa Gs ?_;refine ld1 (v:=.slice ea a.edges.length ec) J6 (by rw [hp8.cell];rfl) trivial ?_;refine AB.mk (fun hz=>?_) (fun hz=>?_)<;>simp only [decide_eq_true_eq,decide_eq_false_iff_not]at hz
   ·obtain⟨e,he⟩:=Ad (l:=a.edges) (k:=i) (by omega);refine Am.run (fa Gs ?_);refine ld1 (v:=.slice ea a.edges.length ec) J6 (by rw [hp8.cell];rfl) trivial ?_;refine ixr (i:=i) HS (h1.frame (st8.old.mono hS)) he rfl ?_;rintro b6 o6 c6 hS6 hc6 ⟨rfl,hok⟩;refine ldN (cs:=EL e) (by rw [DL];exact WS) hc6 trivial ?_;refine Ak _ VM Nh rfl ?_;intro x H9 hx hs9 hb9 ha9;have st9:=st8.box hx hs9 hb9 ha9;refine AI (cs:=EL e) st9 4 (by rw [DL];rfl) rfl (by rw [DL];decide) (IS e) fun Hq stq=>?_;rw [Ax (show(EL e).length=VM.length by rw [DL,TW])]at stq;have hbq:=stq.blk 1 rfl;have hxq:=stq.blk 4 rfl;have hfn:a.has e.fr=(decide (0≤e.fr)&&decide (e.fr<(n:Int))):=by rw [Hb,hn]
    have htn:a.has e.to=(decide (0≤e.to)&&decide (e.to<(n:Int))):=by rw [Hb,hn]
    refine Ar.lex rfl (by kernel_rfl) (fa KE ?_);refine ld1 (v:=.int .i64 e.fr) ct3 (by rw [hxq.cell];rfl) trivial ?_;by_cases c1:0≤e.fr
    ·have q1:decide (0≤e.fr)=true:=decide_eq_true c1;(conv=>whnf);rw [q1];refine fa KE ?_;refine ld1 (v:=.int .i64 e.fr) ct3 (by rw [hxq.cell];rfl) trivial ?_;refine fa Gp ?_;refine ld1 (v:=.int .i64 (n:Int)) ct3 (by rw [hbq.cell];rfl) trivial ?_;by_cases c2:e.fr<(n:Int)
     ·have q2:decide (e.fr<(n:Int))=true:=decide_eq_true c2;(conv=>whnf);rw [q2];refine fa HD ?_;refine ld1 (v:=.int .i64 e.to) ct3 (by rw [hxq.cell];rfl) trivial ?_;by_cases c3:0≤e.to
      ·have q3:decide (0≤e.to)=true:=decide_eq_true c3;(conv=>whnf);rw [q3];refine fa HD ?_;refine ld1 (v:=.int .i64 e.to) ct3 (by rw [hxq.cell];rfl) trivial ?_;refine fa Gp ?_;refine ld1 (v:=.int .i64 (n:Int)) ct3 (by rw [hbq.cell];rfl) trivial ?_;by_cases c4:e.to<(n:Int)
       ·have q4:decide (e.to<(n:Int))=true:=decide_eq_true c4;have hk1:He a e=some (e.fr.toNat,e):=by unfold He okE;rw [hfn,htn,q1,q2,q3,q4];rfl
        obtain⟨row,hrow⟩:=Ad (l:=grp n (He a) (a.edges.take i)) (k:=e.fr.toNat) (by rw [CJ];omega);have hrl:row.length≤i:=by
         rw [EN _ _ (show e.fr.toNat<n by omega)]at hrow;injection hrow with hrow
         rw [←hrow];exact AbV (AaT _ _) (Ab3 _ _)
        obtain⟨ra,rc,hvr,-⟩:=stq.row 2 rfl hrow;have hne:=stq.rowNe 2 rfl hvr hrow;have foot:∀k,slB (.slice ra row.length rc) k→(pT Cz 185 79 tb vt (grp n (He a) (a.edges.take i))).foot k:=fun k hk=>.inr ⟨e.fr.toNat,_,hvr,hk⟩;have d1:=stq.apart2 (i:=1) (j:=2) rfl rfl (by decide);have d4:=stq.apart2 (i:=4) (j:=2) rfl rfl (by decide);have qn:nb<Hq.size∧¬slB (.slice ra row.length rc) nb:=⟨(stq.in_ 1 rfl rfl).2,fun h=>d1 nb rfl (foot nb h)⟩;have qx:x<Hq.size∧¬slB (.slice ra row.length rc) x:=⟨(stq.in_ 4 rfl rfl).2,fun h=>d4 x rfl (foot x h)⟩;have qt:tb<Hq.size∧¬slB (.slice ra row.length rc) tb:=⟨(stq.in_ 2 rfl (.inl rfl)).2,hne⟩;(conv=>whnf);rw [q4];refine Ar.heldZ (fun k=>k<Hq.size∧¬slB (.slice ra row.length rc) k) [18] (sq [0,1,2,3,4,5,6,7,8,9,10,11,12,13,14] (.f 15 (.f 16 (sq [17] (.f 18 .e))))) rfl (by kernel_rfl) (fa IY ?_);refine ld1 (v:=.slice (some ⟨tb,0,none⟩) n n) Ow (by rw [hbq.cell];rfl) qn ?_;refine fa KE ?_;refine ld1 (v:=.int .i64 e.fr) ct3 (by rw [hxq.cell];rfl) qx ?_;refine fa IY ?_;refine ld1 (v:=.slice (some ⟨tb,0,none⟩) n n) Ow (by rw [hbq.cell];rfl) qn ?_;refine fa KE ?_;refine ld1 (v:=.int .i64 e.fr) ct3 (by rw [hxq.cell];rfl) qx ?_;refine ix Pq (by omega) (by omega) (ld1 J6 (stq.tcell 2 rfl hvr (by rw [Aa1,AaQ])) qt ?_);refine ldN (cs:=EL e) (by rw [DL];exact WS) (hxq.cells fun j v hv=>by rw [Aa1];exact hv) qx ?_;refine A2 HS (EL e) rfl (DL e) (by decide) (by decide) ?_;intro q11 H11 hq11 hs11 hb11 ha11;have st11:=stq.skip hq11 ha11;refine⟨ha11.mono fun k hk=>by have:=hk.1;omega,?_⟩;refine T8 (ds:=EL e) (y:=e) st11 2 HS rfl hvr hrow (hb11.cells fun j v hv=>by rw [Aa1];exact hv) ⟨rfl,hok⟩ (IS e) (by omega) (by decide) fun wa wc H12 mid ha12=>?_;refine⟨(ha11.mono fun k hk=>by have:=hk.1;omega).trans (ha12.mono fun k hk=>⟨by have:=hk.1;omega,hk.2⟩),?_⟩;refine ix Pq (by omega) (by omega) (stT mid J6 (by rw [Aa1,AaQ]) fun H13 st13=>?_);have g1:=Jb hk1 hrow;rw [←Ac he]at g1;(conv=>whnf);rw [w64 (x:=(i:Int)+1) (by omega) (by omega)];refine⟨rfl,i+1,by simp,⟨by omega,vt.set e.fr.toNat (.slice wa (row.length+1) wc),?_⟩,by omega⟩;rw [g1];exact st13.pick [0,1,2,3] (by decide)
       ·have q4:decide (e.to<(n:Int))=false:=decide_eq_false c4;(conv=>whnf);rw [q4];have hk:He a e=none:=by unfold He okE;rw [hfn,htn,q1,q2,q3,q4];simp
        have g1:=Dd (n:=n) (l:=a.edges.take i) hk;rw [←Ac he]at g1;(conv=>whnf);rw [w64 (x:=(i:Int)+1) (by omega) (by omega)];refine⟨rfl,i+1,by simp,⟨by omega,vt,?_⟩,by omega⟩;rw [g1];exact stq.pick [0,1,2,3] (by decide)
      ·have q3:decide (0≤e.to)=false:=decide_eq_false c3;(conv=>whnf);rw [q3];have hk:He a e=none:=by unfold He okE;rw [hfn,htn,q1,q2,q3];simp
       have g1:=Dd (n:=n) (l:=a.edges.take i) hk;rw [←Ac he]at g1;(conv=>whnf);rw [w64 (x:=(i:Int)+1) (by omega) (by omega)];refine⟨rfl,i+1,by simp,⟨by omega,vt,?_⟩,by omega⟩;rw [g1];exact stq.pick [0,1,2,3] (by decide)
     ·have q2:decide (e.fr<(n:Int))=false:=decide_eq_false c2;(conv=>whnf);rw [q2];have hk:He a e=none:=by unfold He okE;rw [hfn,htn,q1,q2];simp
      have g1:=Dd (n:=n) (l:=a.edges.take i) hk;rw [←Ac he]at g1;(conv=>whnf);rw [w64 (x:=(i:Int)+1) (by omega) (by omega)];refine⟨rfl,i+1,by simp,⟨by omega,vt,?_⟩,by omega⟩;rw [g1];exact stq.pick [0,1,2,3] (by decide)
    ·have q1:decide (0≤e.fr)=false:=decide_eq_false c1;(conv=>whnf);rw [q1];have hk:He a e=none:=by unfold He okE;rw [hfn,htn,q1];simp
     have g1:=Dd (n:=n) (l:=a.edges.take i) hk;rw [←Ac he]at g1;(conv=>whnf);rw [w64 (x:=(i:Int)+1) (by omega) (by omega)];refine⟨rfl,i+1,by simp,⟨by omega,vt,?_⟩,by omega⟩;rw [g1];exact stq.pick [0,1,2,3] (by decide)
   ·obtain rfl:i=a.edges.length:=by omega
    rw [AaB]at st8;(conv=>whnf);refine⟨nb,tb,some ⟨mb,0,none⟩,n,vt,rfl,?_⟩;unfold Zm;rw [←hn];exact st8.pick [1,2,3] (by decide)
def JD(l:List Int):Nat:=l.foldl (fun h x=>(h*31+x.toNat+1) % 1000003) 7
def BU(l:List Int):Nat:=JD l % 1024
theorem Wk(l:List Int):JD l<1000003:=by
 have key:∀(l:List Int) (h:Nat),h<1000003→l.foldl (fun h x=>(h*31+x.toNat+1) % 1000003) h<1000003:=by
  intro l
  induction l with
  | nil=>exact fun h hh=>hh
  | cons x l ih=>exact fun h hh=>ih _ (Nat.mod_lt _ (by decide))
 exact key l 7 (by decide)
theorem SC(l:List Int)(x:Int):JD (l++[x])=(JD l*31+x.toNat+1) % 1000003:=by
 unfold JD;rw [AaE];rfl
theorem Ut{S:Nat→Prop}{H:Aa}{a:Option Addr}{c:Nat}{xs:List Int}(hS:∀k,S k→k<H.size)(h:SlD tIk S H a c xs)(hr:∀q∈xs,0≤q∧q<65536):
  B8 Tryz.prog 146 #[.slice a xs.length c] H (.int .i64 (BU xs:Int)):=by
 have hle:=h.le;unfold maxLen at hle;refine Al.of_vc Tryz.func146 rfl (Tryz.call146 _) ?_;(conv=>whnf);refine A3.mk [3,4] (fun i:Nat=>[.int .i64 (JD (xs.take i):Int),.int .i64 (i:Int)]) (fun i H2=>i≤xs.length∧Agr (Old H) H H2) (fun i _=>xs.length - i) ?_ ?_
 ·(conv=>whnf);exact⟨0,rfl,Ab5 _,Agr.refl _ _⟩
 ·rintro i H2 junk ⟨hi,ha⟩;have hlt:=Wk (xs.take i);refine AB.mk (fun hz=>?_) (fun hz=>?_)<;>simp only [decide_eq_true_eq,decide_eq_false_iff_not]at hz
  ·obtain⟨x,hx⟩:=Ad (l:=xs) (k:=i) (by omega);have hxr:=hr x (Aa4 hx);have hsn:=SC (xs.take i) x;rw [←Ac hx]at hsn;(conv=>whnf);rw [w64 (x:=(JD (xs.take i):Int)*31) (by omega) (by omega)];refine ixr (i:=i) AL (h.frame (ha.mono hS)) hx rfl ?_;rintro b3 o3 c3 hS3 hc3 ⟨rfl,-⟩;refine ld1 ct3 hc3.one trivial ?_;(conv=>whnf);rw [w64 (x:=(JD (xs.take i):Int)*31+x) (by omega) (by omega)];(conv=>whnf);rw [w64 (x:=(JD (xs.take i):Int)*31+x+1) (by omega) (by omega)];rw [show(JD (xs.take i):Int)*31+x+1=((JD (xs.take i)*31+x.toNat+1:Nat):Int) by omega];refine WO (a:=JD (xs.take i)*31+x.toNat+1) (b:=1000003) (by decide) ?_;rw [←hsn];(conv=>whnf);rw [w64 (x:=(i:Int)+1) (by omega) (by omega)];exact⟨rfl,i+1,by simp,⟨by omega,ha⟩,by omega⟩
  ·obtain rfl:i=xs.length:=by omega
   rw [AaB]at hlt ⊢;refine WO (a:=JD xs) (b:=1024) (by decide) ?_;(conv=>whnf);exact⟨rfl,ha⟩
abbrev tI:Ty Int:=HT .i64
abbrev GP:Ty (List Int):=tSl tI
theorem WB(ca na fa:Option Addr)(cc nc fc fl:Nat)(cells:List (BitVec 256))(next:List (List Int))(S:Nat→Prop)(H:Aa)(hS:∀k,S k→k<H.size)
  (hc:SlD Dz S H ca cc cells) (hn:SlD GP S H na nc next) (hfl:fl≤9223372036854775807):
  B8 Tryz.prog 115 #[.slice ca cells.length cc,.slice na next.length nc,.slice fa fl fc] H (.bool (BK cells next fl)):=by
 have lc:=hc.le;have ln:=hn.le;unfold maxLen at lc ln;refine Al.of_vc Tryz.func115 rfl (Tryz.call115 _) (Ak (Bm 0) (Af 0) rfl rfl ?_);intro p H1 hp hs1 hb1 ha1;(conv=>whnf);refine A3.mk [16] (fun k:Nat=>[.int .i64 k]) (fun k H2=>k≤cells.length∧Agr (Old H) H H2∧p<H2.size∧∃all,Du 0#256 (cells.take k)=some all∧Blk H2 p 101 (Af all)) (fun k _=>cells.length - k) ?_ ?_
 ·(conv=>whnf);exact⟨0,rfl,by omega,ha1.mono (fun k hk=>by unfold Old at hk;omega),by omega,0,rfl,hb1⟩
 ·rintro k H2 junk ⟨hk,ha2,hp2,all,hall,hb2⟩;(conv=>whnf);refine AB.mk (fun h=>?_) (fun h=>?_)<;>simp only [decide_eq_true_eq,decide_eq_false_iff_not]at h
  ·obtain⟨c,hck⟩:=Ad (l:=cells) (k:=k) (by omega);refine ixr DU (hc.frame (ha2.mono hS)) hck rfl ?_;rintro b o cs hSb hcells rfl;refine ldN (cs:=Af c) AU hcells trivial (Ak (Bm 0) (Af 0) rfl rfl ?_);intro q H3 hq hs3 hb3 ha3;refine stN rfl hb3 (show 0+4≤4 by decide) rfl ?_;intro H4 hb4 ha4 hs4;have hb4':Blk H4 q 101 (Af c):=hb4;have hb2':Blk H4 p 101 (Af all):=(hb2.agr ha3 (show p<q by omega)).agr ha4 (show p≠q by omega);refine ldN (cs:=Af all) AU (hb2'.cells (fun j v hv=>by simpa using hv)) trivial (ldN (cs:=Af c) AU (hb4'.cells (fun j v hv=>by simpa using hv)) trivial (Ao (Qp all c H4) ?_));intro H5 ha5;refine Cv BW (Bm 0) rfl (Af 0) rfl (NI (all &&& c) 0#256 ?_);have hA:Agr (Old H) H H5:=(ha2.trans ((ha3.mono (fun k hk=>by unfold Old at hk;omega)).trans (ha4.mono (fun k hk=>by unfold Old at hk;omega)))).trans (ha5.mono (fun k hk=>by unfold Old at*;omega));by_cases hm:all &&& c=0#256
   ·rw [show decide (all &&& c=0#256)=true by simpa using hm];have hb5:=hb2'.agr ha5 (show p<H4.size by omega);have hb5':=hb4'.agr ha5 (show q<H4.size by omega);refine ldN (cs:=Af all) AU (hb5.cells (fun j v hv=>by simpa using hv)) trivial (ldN (cs:=Af c) AU (hb5'.cells (fun j v hv=>by simpa using hv)) trivial (Ao (FG all c H5) ?_));intro H6 ha6;refine stN rfl (hb5.agr ha6 hb5.lt) (show 0+4≤4 by decide) rfl ?_;intro H7 hb7 ha7 hs7;(conv=>whnf);rw [w64 (x:=(k:Int)+1) (by omega) (by omega)];have h56:=Bx ha6;have h45:=Bx ha5;refine⟨rfl,k+1,by simp,⟨by omega,?_,by omega,all ||| c,?_,hb7⟩,by omega⟩
    ·exact(hA.trans (ha6.mono (fun k hk=>by unfold Old at*;omega))).trans (ha7.mono (fun k hk=>by unfold Old at hk;omega))
    ·rw [Ac hck,JW hall,if_pos hm]
   ·rw [show decide (all &&& c=0#256)=false by simpa using hm];(conv=>whnf);refine⟨?_,hA⟩;have:Du 0#256 cells=none:=by
     rw [←Ab0 (k+1) cells,HU,Ac hck,JW hall,if_neg hm];rfl
    simp [BK,this]
  ·have hkc:k=cells.length:=by omega
   subst hkc;rw [AaB]at hall;(conv=>whnf);refine Ar.quiet (Old H2) rfl (by kernel_rfl) ?_;have hOld:∀{H':Aa},Agr (Old H2) H2 H'→Agr (fun k=>k<H.size) H H':=fun h=>ha2.trans (h.mono (fun k hk=>by unfold Old at*;omega));refine ldN (cs:=Af all) AU (hb2.cells (fun j v hv=>by simpa using hv)) hp2 (RS (fun H' _=>Fu 0 255 (by decide) (by decide) H') (NI all (AE 0 255) ?_));rw [IA];refine AB.mk (fun h1=>?_) (fun h1=>?_)<;>simp only [Bool.not_eq_true',Bool.not_eq_false',decide_eq_true_eq,decide_eq_false_iff_not]at h1
   ·(conv=>whnf);intro H5 ha5;(conv=>whnf);exact⟨by
     have e:(all==AaI 256)=false:=beq_eq_false_iff_ne.2 h1;rw [BK,hall];simp only [e,AaH],hOld ha5⟩
   refine AB.mk (fun h2=>?_) (fun h2=>?_)<;>simp only [decide_eq_true_eq,decide_eq_false_iff_not]at h2
   ·(conv=>whnf);intro H5 ha5;(conv=>whnf);exact⟨by simp [BK,hall,show¬1≤next.length by omega],hOld ha5⟩
   refine AB.mk (fun h3=>?_) (fun h3=>?_)<;>simp only [decide_eq_true_eq,decide_eq_false_iff_not]at h3
   ·(conv=>whnf);intro H5 ha5;(conv=>whnf);exact⟨by simp [BK,hall,show¬next.length≤65536 by omega],hOld ha5⟩
   (conv=>whnf);intro H5 ha5;refine AB.mk (fun h4=>?_) (fun h4=>?_)<;>simp only [bne_iff_ne,ne_eq,bne_eq_false_iff_eq]at h4
   ·(conv=>whnf);exact⟨by simp [BK,hall,show¬next.length=fl by omega],hOld ha5⟩
   have h4':next.length=fl:=by omega
   have hsound:BK cells next fl=next.all (GL next.length cells.length):=by
    have e:(all==AaI 256)=true:=beq_iff_eq.2 h1;rw [BK,hall];simp only [e,decide_eq_true (show 1≤next.length by omega),decide_eq_true (show next.length≤65536 by omega),beq_iff_eq.2 h4',Bool.and_self,AbQ]
   rw [hsound];have bad:∀{k:Nat} {row:List Int},next[k]? =some row→GL next.length cells.length row=false→next.all (GL next.length cells.length)=false:=by
    intro k row h1 h2;rw [AbA];exact⟨row,Aa4 h1,by simp [h2]⟩
   have hn5:=hn.frame ((hOld ha5).mono hS);(conv=>whnf);refine A3.mk [51] (fun k:Nat=>[.int .i64 k]) (fun k H'=>H'=H5∧k≤next.length∧(next.take k).all (GL next.length cells.length)=true) (fun k _=>next.length - k) ?_ ?_
   ·(conv=>whnf);exact⟨0,rfl,rfl,by omega,rfl⟩
   ·rintro k H6 junk2 ⟨rfl,hk2,hall2⟩;(conv=>whnf);refine AB.mk (fun h=>?_) (fun h=>?_)<;>simp only [decide_eq_true_eq,decide_eq_false_iff_not]at h
    ·obtain⟨row,hrow⟩:=Ad (l:=next) (k:=k) (by omega);refine ixr DH hn5 hrow rfl ?_;rintro b o cs hSb hcells ⟨ra,rc,rfl,hr⟩;have lr:=hr.le;unfold maxLen at lr;refine ld1 CW hcells.one trivial ?_;refine AB.mk (fun h5=>?_) (fun h5=>?_)<;>simp only [bne_iff_ne,ne_eq,bne_eq_false_iff_eq]at h5
     ·(conv=>whnf);exact⟨by rw [bad hrow (by simp [GL];intro h;omega)],hOld ha5⟩
     (conv=>whnf);refine A3.mk [62] (fun j:Nat=>[.int .i64 j]) (fun j H'=>H'=H6∧j≤row.length∧(row.take j).all (fun q=>decide (0≤q)&&decide (q<(next.length:Int)))=true) (fun j _=>row.length - j) ?_ ?_
     ·(conv=>whnf);exact⟨0,rfl,rfl,by omega,rfl⟩
     ·rintro j H7 junk3 ⟨rfl,hj,hall3⟩;(conv=>whnf);refine AB.mk (fun h=>?_) (fun h=>?_)<;>simp only [decide_eq_true_eq,decide_eq_false_iff_not]at h
      ·obtain⟨q,hq⟩:=Ad (l:=row) (k:=j) (by omega);have badq:¬(0≤q∧q<(next.length:Int))→GL next.length cells.length row=false:=by
        intro hb;have:(row.all fun q=>decide (0≤q)&&decide (q<(next.length:Int)))=false:=by
         rw [AbA];exact⟨q,Aa4 hq,by simpa using hb⟩
        simp only [GL,this,AbM]
       refine ixr AL hr hq rfl ?_;rintro b2 o2 cs2 hSb2 hcells2 ⟨rfl,hqk⟩;refine ld1 ct3 hcells2.one trivial ?_;refine AB.mk (fun h6=>?_) (fun h6=>?_)<;>simp only [decide_eq_true_eq,decide_eq_false_iff_not]at h6
       ·(conv=>whnf);exact⟨by rw [bad hrow (badq (by omega))],hOld ha5⟩
       refine AB.mk (fun h7=>?_) (fun h7=>?_)<;>simp only [decide_eq_true_eq,decide_eq_false_iff_not]at h7
       ·(conv=>whnf);exact⟨by rw [bad hrow (badq (by omega))],hOld ha5⟩
       (conv=>whnf);rw [w64 (x:=(j:Int)+1) (by omega) (by omega)];refine⟨rfl,j+1,by simp,⟨rfl,by omega,?_⟩,by omega⟩;rw [Ac hq,AbJ,hall3];simp;omega
      ·have hj':j=row.length:=by omega
       subst hj';rw [AaB]at hall3;(conv=>whnf);rw [w64 (x:=(k:Int)+1) (by omega) (by omega)];refine⟨rfl,k+1,by simp,⟨rfl,by omega,?_⟩,by omega⟩;rw [Ac hrow,AbJ,hall2];simp only [List.all_cons,List.all_nil,Bool.and_true,AbQ,GL,hall3,beq_iff_eq];omega
    ·have hk':k=next.length:=by omega
     subst hk';rw [AaB]at hall2;(conv=>whnf);exact⟨by rw [hall2],hOld ha5⟩
theorem V7(na:Option Addr)(nc c d m:Nat)(next:List (List Int))(S:Nat→Prop)(H:Aa)(hn:SlD GP S H na nc next)(hm:∀row∈next,row.length=m)(hc:c<m)(hd:d<m)(hm64:m≤9223372036854775807):
  B8 Tryz.prog 163 #[.slice na next.length nc,.int .i64 c,.int .i64 d] H (.bool (Fc next c d)):=by
 have ln:=hn.le;unfold maxLen at ln;refine Al.of_vc Tryz.func163 rfl (Tryz.call163 _) ?_;refine AB.mk (fun h=>?_) (fun h=>?_)<;>simp only [beq_iff_eq,beq_eq_false_iff_ne,Int.natCast_inj,ne_eq]at h
 ·(conv=>whnf);exact⟨by simp [Fc,h],Agr.refl _ _⟩
 have hcd:(c==d)=false:=by simpa using h
 (conv=>whnf);refine A3.mk [14] (fun k:Nat=>[.int .i64 k]) (fun k H'=>H'=H∧k≤next.length∧(next.take k).all (fun row=>row[c]? ==row[d]?)=true) (fun k _=>next.length - k) ?_ ?_
 ·(conv=>whnf);exact⟨0,rfl,rfl,by omega,rfl⟩
 ·rintro k H1 junk ⟨rfl,hk,hall⟩;refine AB.mk (fun h=>?_) (fun h=>?_)<;>simp only [decide_eq_true_eq,decide_eq_false_iff_not]at h
  ·obtain⟨row,hrow⟩:=Ad (l:=next) (k:=k) (by omega);have hlen:=hm row (Aa4 hrow);refine ixr DH hn hrow rfl ?_;rintro b o cs hSb hcells ⟨ra,rc,rfl,hr⟩;refine ld1 CW hcells.one trivial (Ar.lex rfl (by kernel_rfl) ?_);obtain⟨x,hx⟩:=Ad (l:=row) (k:=c) (by omega);obtain⟨y,hy⟩:=Ad (l:=row) (k:=d) (by omega);refine ixr AL hr hx rfl ?_;rintro b2 o2 cs2 hSb2 hcells2 ⟨rfl,hxk⟩;refine ld1 ct3 hcells2.one trivial (ixr AL hr hy rfl ?_);rintro b3 o3 cs3 hSb3 hcells3 ⟨rfl,hyk⟩;refine ld1 ct3 hcells3.one trivial ?_;refine AB.mk (fun h=>?_) (fun h=>?_)<;>simp only [bne_iff_ne,ne_eq,bne_eq_false_iff_eq]at h
   ·(conv=>whnf);refine⟨?_,Agr.refl _ _⟩;have:(next.all fun row=>row[c]? ==row[d]?)=false:=by
     rw [AbA];exact⟨row,Aa4 hrow,by simp [hx,hy,h]⟩
    simp only [Fc,hcd,this,Bool.or_false]
   ·(conv=>whnf);rw [w64 (x:=(k:Int)+1) (by omega) (by omega)];refine⟨rfl,k+1,by simp,⟨rfl,by omega,?_⟩,by omega⟩;rw [Ac hrow,AbJ,hall];simp [hx,hy,h]
  ·have hk':k=next.length:=by omega
   subst hk';rw [AaB]at hall;(conv=>whnf);exact⟨by simp only [Fc,hcd,hall,Bool.false_or],Agr.refl _ _⟩
def BM(cv:Value)(cell:List Nat)(nv fv av:Value):List Value:=
 cv::(cell.map (fun n:Nat=>Value.int .u8 (n:Int))++Aa6 (256 - cell.length) (.int .u8 0))++[nv,fv,av]
section
variable{cv nv fv av x:Value}{cell:List Nat}
theorem HA(h:cell.length≤256):(BM cv cell nv fv av).length=260:=by simp [BM];omega
theorem MP:(BM cv cell nv fv av)[0]? =some cv:=by simp [BM]
theorem PF:(BM cv cell nv fv av).set 0 x=BM x cell nv fv av:=by simp [BM]
theorem Jy(h:cell.length≤256)(j:Nat):(BM cv cell nv fv av)[257+j]? =[nv,fv,av][j]? :=by
 unfold BM;rw [AaY,show 257+j=(256+j)+1 by omega,AbH,AaP (by simp;omega)]
 congr 1
 simp;omega
theorem EW(h:cell.length≤256):(BM cv cell nv fv av)[257]? =some nv:=Jy h 0
theorem Jx(h:cell.length≤256):(BM cv cell nv fv av)[258]? =some fv:=Jy h 1
theorem Hz(h:cell.length≤256):(BM cv cell nv fv av)[259]? =some av:=Jy h 2
theorem Lc(h:cell.length≤256)(j:Nat):(BM cv cell nv fv av).set (257+j) x=cv::(cell.map (fun n:Nat=>Value.int .u8 (n:Int))++Aa6 (256 - cell.length) (.int .u8 0))++[nv,fv,av].set j x:=by
 unfold BM;rw [AaY,show 257+j=(256+j)+1 by omega,Ab6,AbN (h:=by simp;omega)];have e:256+j - (List.map (fun n:Nat=>Value.int .u8 (n:Int)) cell++Aa6 (256 - cell.length) (Value.int .u8 0)).length=j:=by simp;omega
 rw [e];rfl
theorem MQ(h:cell.length≤256):(BM cv cell nv fv av).set 257 x=BM cv cell x fv av:=Lc h 0
theorem MR(h:cell.length≤256):(BM cv cell nv fv av).set 259 x=BM cv cell nv fv x:=Lc h 2
theorem PE(h:cell.length<256)(p:Nat):(BM cv cell nv fv av).set (1+cell.length) (.int .u8 (p:Int))=BM cv (cell++[p]) nv fv av:=by
 unfold BM;rw [AaY,show 1+cell.length=cell.length+1 by omega,Ab6,Ab9,AbN (h:=by simp)];have e:cell.length - (List.map (fun n:Nat=>Value.int .u8 (n:Int)) cell).length=0:=by simp
 rw [e,show 256 - cell.length=(256 - (cell.length+1))+1 by omega,List.replicate_succ];simp
end
def Fq(cols:List Nat)(row:List Int):List Int:=cols.map fun c=>row.getD c 0
theorem Wo(pb:Nat)(fv av:Value)(ca na:Option Addr)(cc nc:Nat)(cells:List (BitVec 256))(next:List (List Int))(fl:Nat)(S:Nat→Prop)(H:Aa)(hS:∀k,S k→k<H.size∧k≠pb)
  (hb:Blk H pb 109 (BM (.slice none 0 0) [] (.slice none 0 0) fv av)) (hc:SlD Dz S H ca cc cells) (hn:SlD GP S H na nc next) (hs:BK cells next fl=true):
  Al Tryz.prog 116 #[.pointer (some ⟨pb,0,none⟩),.slice ca cells.length cc,.slice na next.length nc] H fun v H'=>
   let st:=Cp next cells (fun b=>AE b b) 256
   Agr (fun k=>k<H.size∧k≠pb) H H'∧H.size≤H'.size∧∃ac capc an capn,Blk H' pb 109 (BM (.slice ac st.sets.length capc) st.cell (.slice an next.length capn) fv av)∧
    SlD Dz (fun k=>H.size≤k∧k<H'.size) H' ac capc st.sets∧SlD GP (fun k=>H.size≤k∧k<H'.size) H' an capn (next.map (Fq st.cols)):=by
 have lc:=hc.le;have ln:=hn.le;unfold maxLen at lc ln;obtain⟨n1,n2,n3,hrows⟩:=FF hs;refine Al.of_vc Tryz.func116 rfl (Tryz.call116 _) ?_;have hpb:=hb.lt;generalize hsp:(fun b=>AE b b)=sp;have hcell:∀b,b<256→CU cells b<cells.length:=fun b hb=>(DV hs hb).1;refine Eo DH rfl (by omega) (by omega) (by omega) (by omega) ?_;intro nb H1 hnb hs1 hb1 ha1;refine fa F5 ?_;refine st1 DZ (hb.agr ha1 (show pb<nb by omega)) (by rw [HA (by simp)];omega) rfl ?_;intro H2 hb2 ha2 hs2;rw [Aa1,MQ (by simp)]at hb2;replace hb1:=hb1.agr ha2 (show nb≠pb by omega);rw [Aa7]at hb1;have hA2:Agr (fun k=>k<H.size∧k≠pb) H H2:=(ha1.mono fun k hk=>by omega).trans (ha2.mono fun k hk=>hk.2);(conv=>whnf);refine A3.mk [6,22] (fun x:Nat×Value=>[x.2,.int .i64 x.1]) (fun x H3=>x.1≤256∧Agr (fun k=>k<H.size∧k≠pb) H H3∧H2.size≤H3.size∧
  SlO tI (fun _=>False) H3 (nb+1) 3 x.2 ((Cp next cells sp x.1).cols.map AbF)∧Blk H3 nb 41 (Aa6 next.length (.slice none 0 0))∧
  ∃cv,SlO Dz (fun _=>False) H3 (nb+1) 101 cv (Cp next cells sp x.1).sets∧(∀k,slB x.2 k→¬slB cv k)∧
   Blk H3 pb 109 (BM cv (Cp next cells sp x.1).cell (.slice (some ⟨nb,0,none⟩) next.length next.length) fv av)) (fun x _=>256 - x.1) ?_ ?_
 ·(conv=>whnf);exact⟨(0,_),rfl,by omega,hA2,AaD _,SlO.nil,hb1,_,SlO.nil,(by rintro k ⟨o,n,c,h⟩;cases h),hb2⟩
 ·rintro⟨b,v6⟩ H3 junk ⟨hb256,hA3,hs3,hcols,hb3n,cv,hsets,hdis,hb3⟩;dsimp only at hb256 hcols hsets hdis hb3;obtain⟨ac,capc,rfl,-,-⟩:=hcols.view (S':=fun k=>slB v6 k) (fun k hk=>hk) (fun k hk=>hk.elim);refine AB.mk (fun h=>?_) (fun h=>?_)<;>simp only [decide_eq_true_eq,decide_eq_false_iff_not]at h
  ·have hok:=HH (next:=next) (sp:=sp) hcell b (by omega);generalize hst:Cp next cells sp b=st at*
   obtain⟨hfb,hfhas⟩:=DV hs (b:=b) (by omega);(conv=>whnf);refine A3.mk [8] (fun f:Nat=>[.int .i64 f]) (fun f H4=>Agr (Old H3) H3 H4∧f≤CU cells b) (fun f _=>cells.length - f) ?_ ?_
   ·(conv=>whnf);exact⟨0,rfl,Agr.refl _ _,by omega⟩
   ·rintro f H4 junk2 ⟨ha4,hf⟩;have hA4:Agr (fun k=>k<H.size∧k≠pb) H H4:=hA3.trans (ha4.mono fun k hk=>by unfold Old;omega);obtain⟨c,hcf⟩:=Ad (l:=cells) (k:=f) (by omega);refine ixr DU (hc.frame (hA4.mono fun k hk=>hS k hk)) hcf rfl ?_;rintro b' o cs hSb hcells rfl;refine ldN (cs:=Af c) AU hcells trivial ?_;(conv=>whnf);rw [w8 (x:=(b:Int)) (by omega) (by omega)];refine Ao (Us c b (by omega) H4) ?_;intro H5 ha5;have hs34:=Bx ha4;have ha35:Agr (Old H3) H3 H5:=ha4.trans (ha5.mono fun k hk=>by unfold Old at*;omega);by_cases hfeq:f=CU cells b
    ·have hbit:c.getLsbD b=true:=hfhas c (hfeq ▸ hcf);rw [hbit];(conv=>whnf);subst hfeq;generalize hfr:CU cells b=fr at*;have hcols5:=hcols.agr ha35 (fun k hk=>(hcols.lt hk).2) (fun k hk=>hk.elim);have hs35:=Bx ha35;refine Am.cut [9] (fun pl:Option Nat=>[.int .i64 (match pl with | none=> -1 | some i=>(i:Int))]) (fun pl H6=>pl=My next st.cols fr∧Agr (Old H5) H5 H6) ?_ ?_
     ·obtain⟨ac',capc',he,hview,hblk⟩:=hcols5.view (S':=Old H5) (fun k hk=>(hcols5.lt hk).2) (fun k hk=>hk.elim);cases he;have hrl:∀row∈next,row.length=cells.length:=fun row hr=>(hrows row hr).1
      (conv=>whnf);refine A3.mk [9,37] (fun k:Nat=>[.int .i64 (-1),.int .i64 k]) (fun k H6=>Agr (Old H5) H5 H6∧k≤st.cols.length∧(st.cols.take k).findIdx? (fun c=>Fc next c fr)=none) (fun k _=>st.cols.length - k) ?_ ?_
      ·(conv=>whnf);exact⟨0,rfl,Agr.refl _ _,by omega,rfl⟩
      ·rintro k H6 junk3 ⟨ha6,hk,hnone⟩;have hle:=hok.le;(conv=>whnf);rw [AaC];refine AB.mk (fun h=>?_) (fun h=>?_)<;>simp only [decide_eq_true_eq,decide_eq_false_iff_not]at h
       ·obtain⟨c0,hc0⟩:=Ad (l:=st.cols) (k:=k) (by omega);have hc0m:=hok.cols c0 (Aa4 hc0);refine JE (x:=(c0:Int)) AL (hview.frame ha6) (by simp) (by simp [hc0]) rfl ?_;rintro b2 o2 cs2 hSb2 hcells2 ⟨rfl,-⟩;refine ld1 ct3 hcells2.one trivial ?_;have hn6:SlD GP S H6 na nc next:=hn.frame ((hA3.trans ((ha35.trans (ha6.mono fun k hk=>by unfold Old at*;omega)).mono fun k hk=>by unfold Old;omega)).mono fun k hk=>hS k hk)
        refine Ao (V7 na nc c0 fr cells.length next S H6 hn6 hrl hc0m hfb (by omega)) ?_;intro H7 ha7;have hs56:=Bx ha6;have ha57:Agr (Old H5) H5 H7:=ha6.trans (ha7.mono fun k hk=>by unfold Old at*;omega);refine AB.mk (fun h7=>?_) (fun h7=>?_)
        ·(conv=>whnf);refine⟨rfl,some k,rfl,?_,ha57⟩;unfold My;rw [←Ab0 k st.cols,AbP,hnone];have:st.cols.drop k=c0::st.cols.drop (k+1):=by
          rw [Aa2]at hc0;obtain⟨h1,h2⟩:=hc0;rw [List.drop_eq_getElem_cons h1,h2]
         rw [this,List.findIdx?_cons,h7];simp;omega
        ·(conv=>whnf);rw [w64 (x:=(k:Int)+1) (by omega) (by omega)];refine⟨rfl,k+1,by simp,⟨ha57,by omega,?_⟩,by omega⟩;rw [Ac hc0,AbP,hnone];simp [h7]
       ·(conv=>whnf);refine⟨rfl,none,rfl,?_,ha6⟩;have:k=st.cols.length:=by omega
        subst this;rw [AaB]at hnone;exact hnone.symm
     ·rintro pl H6 junk3 ⟨hpl,ha6⟩;have ha36:Agr (Old H3) H3 H6:=ha35.trans (ha6.mono fun k hk=>by unfold Old at*;omega);have hs36:=Bx ha36;have hcols6:=hcols.agr ha36 (fun k hk=>(hcols.lt hk).2) (fun k hk=>hk.elim);have hsets6:=hsets.agr ha36 (fun k hk=>(hsets.lt hk).2) (fun k hk=>hk.elim);have hb6n:=hb3n.agr ha36 hb3n.lt;have hb6:=hb3.agr ha36 hb3.lt;have hA6:Agr (fun k=>k<H.size∧k≠pb) H H6:=hA3.trans (ha36.mono fun k hk=>by unfold Old;omega);have hcl:st.cell.length≤256:=by rw [hok.cell];omega
      (conv=>whnf);refine Am.cut [6,9] (fun x:Value×Nat=>[x.1,.int .i64 x.2]) (fun x H7=>Agr (fun k=>k<H.size∧k≠pb) H H7∧H2.size≤H7.size∧x.2=(GQ next st.cols st.sets fr).2.2∧
       SlO tI (fun _=>False) H7 (nb+1) 3 x.1 ((GQ next st.cols st.sets fr).1.map AbF)∧Blk H7 nb 41 (Aa6 next.length (.slice none 0 0))∧
       ∃cv,SlO Dz (fun _=>False) H7 (nb+1) 101 cv (GQ next st.cols st.sets fr).2.1∧(∀k,slB x.1 k→¬slB cv k)∧
        Blk H7 pb 109 (BM cv st.cell (.slice (some ⟨nb,0,none⟩) next.length next.length) fv av)) ?_ ?_
      ·cases hf:My next st.cols fr with
       | some i=>
         rw [hpl,hf];have hm:GQ next st.cols st.sets fr=(st.cols,st.sets,i):=by unfold GQ;rw [hf]
         rw [hm];(conv=>whnf);exact⟨rfl,(_,i),rfl,hA6,by omega,rfl,hcols6,hb6n,cv,hsets6,hdis,hb6⟩
       | none=>
         rw [hpl,hf];have hm:GQ next st.cols st.sets fr=(st.cols++[fr],st.sets++[0#256],st.cols.length):=by unfold GQ;rw [hf]
         rw [hm];(conv=>whnf);rw [AaC];refine A2 AL [.int .i64 (fr:Int)] rfl rfl (by decide) (by decide) ?_;intro q H7 hq hs7 hb7 ha7;have hle:=hok.le;have hcols7:=hcols6.agr ha7 (fun k hk=>by have:=(hcols6.lt hk).2;omega) (fun k hk=>hk.elim);refine BZ (T:=tI) (S:=fun _=>False) (ys:=[(fr:Int)]) (ds:=[.int .i64 (fr:Int)]) (lo:=nb+1) (xs:=st.cols.map AbF) AL (by simpa using hcols7) (by omega) (fun k hk=>hk.elim)
          (hb7.cells (fun j v hv=>by simpa using hv)) (Ty.reps_one ⟨rfl,Bs (by omega)⟩) rfl (by intro u hu;cases Aa3.1 hu;rfl) (by simp only [maxLen,AaC,Aa0];omega) (by simp only [AaC,Aa0];omega) ?_
         intro v8 H8 hcols8 ha8 hs8 hfresh8;have hold8:∀k,k<H6.size→¬slB (.slice ac (st.cols.map (AbF:Nat→Int)).length capc) k→H8[k]? =H6[k]? :=fun k h1 h2=>by
          rw [ha8 k ⟨by omega,by simpa using h2⟩,ha7 k (by omega)]
         have hsets8:SlO Dz (fun _=>False) H8 (nb+1) 101 cv st.sets:=hsets6.agr (S':=fun k=>k<H6.size∧¬slB (.slice ac (st.cols.map (AbF:Nat→Int)).length capc) k) (fun k hk=>hold8 k hk.1 hk.2)
          (fun k hk=>⟨(hsets6.lt hk).2,fun h=>hdis k h hk⟩) (fun k hk=>hk.elim)
         have hnlt:∀k,k≤nb→¬slB (.slice ac (st.cols.map (AbF:Nat→Int)).length capc) k:=fun k hk h=>by have:=(hcols6.lt h).1;omega
         have hb8n:=hb6n.eq (hold8 nb hb6n.lt (hnlt nb (by omega)));have hb8:=hb6.eq (hold8 pb hb6.lt (hnlt pb (by omega)));refine fa K5 ?_;refine ld1 (v:=cv) Rd (by rw [hb8.cell];exact MP) trivial ?_;refine Cv BW (Bm 0) rfl (Af 0) rfl (A2 DU (Af 0) rfl rfl (by decide) (by decide) ?_);intro q2 H9 hq2 hs9 hb9 ha9;have hlt8:=hb8.lt;have hlt8n:=hb8n.lt;refine BZ (T:=Dz) (S:=fun _=>False) (ys:=[0#256]) (ds:=Af 0) (lo:=nb+1) (xs:=st.sets) DU (hsets8.agr ha9 (fun k hk=>by have:=(hsets8.lt hk).2;omega) (fun k hk=>hk.elim)) (by omega) (fun k hk=>hk.elim)
          (hb9.cells (fun j v hv=>by simpa using hv)) (Ty.reps_one rfl) rfl (by intro u hu;simp only [Af,Ac0,List.not_mem_nil,or_false]at hu;rcases hu with rfl | rfl | rfl | rfl<;>rfl)
          (by have:=hok.len;simp only [maxLen,Aa0];omega) (by have:=hok.len;simp only [Aa0];omega) ?_
         intro v9 H10 hsets10 ha10 hs10 hfresh10;have hdcv:∀k,k≤nb→¬slB cv k:=fun k hk h=>by have:=(hsets6.lt h).1;omega
         have hb10:=(hb8.agr ha9 (by omega)).agr ha10 ⟨by omega,hdcv pb (by omega)⟩;refine fa K5 ?_;refine st1 Rd hb10 (by rw [HA hcl];omega) hsets10.one ?_;intro H11 hb11 ha11 hs11;(conv=>whnf);have hcols8lt:∀k,slB v8 k→k<H8.size∧nb+1≤k:=fun k hk=>⟨(hcols8.lt hk).2,(hcols8.lt hk).1⟩;have hdis8:∀k,slB v8 k→¬slB cv k:=fun k hk hc=>by
          rcases hfresh8 k hk with h | h
          ·exact hdis k (by simpa using h) hc
          ·have:=(hsets6.lt hc).2;omega
         have hcols10:=(hcols8.agr ha9 (fun k hk=>by have:=hcols8lt k hk;omega) (fun k hk=>hk.elim)).agr ha10 (fun k hk=>⟨by have:=hcols8lt k hk;omega,hdis8 k hk⟩) (fun k hk=>hk.elim);have hb10n:=(hb8n.agr ha9 (by omega)).agr ha10 ⟨by omega,hdcv nb (by omega)⟩;refine⟨rfl,(v8,st.cols.length),rfl,?_,by omega,rfl,?_,hb10n.agr ha11 (by omega),v9,hsets10.agr ha11 (fun k hk=>by have:=(hsets10.lt hk).1;omega) (fun k hk=>hk.elim),?_,?_⟩
         ·intro k hk;rw [ha11 k hk.2,ha10 k ⟨by omega,hdcv k (by omega)⟩,ha9 k (by omega),hold8 k (by omega) (hnlt k (by omega)),hA6 k hk]
         ·have:=hcols10.agr ha11 (fun k hk=>by have:=hcols8lt k hk;omega) (fun k hk=>hk.elim);simpa using this
         ·intro k hk hk9;rcases hfresh10 k hk9 with h | h
          ·exact hdis8 k hk h
          ·have:=hcols8lt k hk;omega
         ·rw [Nat.add_zero,PF]at hb11;exact hb11
      ·rintro⟨v7,p⟩ H7 junk4 ⟨hA7,hs7,hp,hcols7,hb7n,cv7,hsets7,hdis7,hb7⟩;dsimp only at hp hcols7 hdis7;have hok2:=RC (next:=next) hok.len hok.le hok.cols hfb;have hmr:Cp next cells sp (b+1)=OK next cells st b (sp b):=by rw [←hst];rfl
       generalize hr:GQ next st.cols st.sets fr=r at*
       obtain⟨cols',sets',p'⟩:=r;dsimp only at hp hcols7 hsets7 hok2;subst hp;obtain⟨h21,h22,h23,h24,h25⟩:=hok2;have hmr2:Cp next cells sp (b+1)=⟨cols',sets'.set p (sets'.getD p 0#256 ||| sp b),st.cell++[p]⟩:=by
        rw [hmr];unfold OK;rw [hfr,hr]
       obtain⟨bq,capq,lq,csq,rfl,hloq,hblkq,hlenq,hgetq,hrepsq,hputq⟩:=hsets7.place (i:=p) (by omega);have hpb7:=hb7.lt;refine fa Rv (ixa WV (by omega) (by omega) ?_);rw [w8 (x:=(p:Int)) (by omega) (by omega)];refine st1 ct5 hb7 (by rw [HA hcl];omega) rfl ?_;intro H8 hb8 ha8 hs8;rw [show 0+1+(b:Int).toNat*1=1+st.cell.length by rw [hok.cell];omega,PE (by rw [hok.cell];omega)]at hb8;(conv=>whnf);refine Ar.held (Old H8) 19 (sq [0,1,2,3,4,5,6,7,8,9,10,11,12,13,14,15] (.f 16 (.f 17 (sq [18] (.f 19 .e))))) rfl (by kernel_rfl) (fa K5 ?_);refine ld1 (v:=.slice (some ⟨bq,0,none⟩) sets'.length capq) Rd (by rw [hb8.cell];exact MP) (show pb<H8.size by omega) ?_;refine fa K5 ?_;refine ld1 (v:=.slice (some ⟨bq,0,none⟩) sets'.length capq) Rd (by rw [hb8.cell];exact MP) (show pb<H8.size by omega) ?_;refine ix DU (by omega) (by omega) ?_;obtain⟨x0,hx0⟩:=Ad (l:=sets') (k:=p) (by omega);obtain⟨c0,hc0,rfl⟩:=hgetq x0 hx0;have hbqb:bq≠pb:=by omega
       refine ldN (cs:=Af x0) AU (by rw [Aa1,Aa7];exact hc0.eq (ha8 bq hbqb)) (show bq<H8.size by have:=hblkq.lt;omega) ?_;(conv=>whnf);rw [w8 (x:=(b:Int)) (by omega) (by omega)];refine Ao (Fu b b (by omega) (by omega) H8) ?_;intro H9 ha9;refine⟨ha9,?_⟩;refine Ao (FG x0 (AE b b) H9) ?_;intro H10 ha10;have hs89:=Bx ha9;have ha810:Agr (Old H8) H8 H10:=ha9.trans (ha10.mono fun k hk=>by unfold Old at*;omega);refine⟨ha810,?_⟩;refine ix DU (by omega) (by omega) ?_;have hs810:=Bx ha810;have hblk10:=(hblkq.agr ha8 hbqb).agr ha810 (show bq<H8.size by have:=hblkq.lt;omega);refine stN rfl hblk10 (by rw [Aa1,Aa7];exact hlenq) rfl ?_;intro H11 hb11 ha11 hs11;(conv=>whnf);rw [w64 (x:=(b:Int)+1) (by omega) (by omega)];have hlt7:∀k,slB v7 k→nb+1≤k∧k<H7.size:=fun k hk=>hcols7.lt hk;have hcols11:=((hcols7.agr ha8 (fun k hk=>by have:=hlt7 k hk;omega) (fun k hk=>hk.elim)).agr ha810 (fun k hk=>by have:=hlt7 k hk;unfold Old;omega) (fun k hk=>hk.elim)).agr ha11
        (fun k hk hkb=>by subst hkb;exact hdis7 _ hk ⟨0,_,_,rfl⟩) (fun k hk=>hk.elim)
       have hb11n:=(((hb7n.agr ha8 (show nb≠pb by omega)).agr ha810 (show nb<H8.size by have:=hb7n.lt;omega)).agr ha11 (show nb≠bq by omega));have hb11p:=(hb8.agr ha810 (show pb<H8.size by omega)).agr ha11 (show pb≠bq from Ne.symm hbqb);refine⟨rfl,(b+1,v7),by simp,⟨by omega,?_,by omega,?_,hb11n,.slice (some ⟨bq,0,none⟩) sets'.length capq,?_,hdis7,?_⟩,by omega⟩
       ·intro k hk;rw [ha11 k (by omega),ha810 k (by unfold Old;omega),ha8 k hk.2,hA7 k hk]
       ·rw [hmr2];exact hcols11
       ·rw [hmr2];have hg:sets'.getD p 0#256=x0:=by rw [AaJ,hx0];rfl
        rw [hg,←hsp];rw [Aa1,Aa7]at hb11;have:=hputq H11 (Af (x0 ||| AE b b)) (x0 ||| AE b b) hb11 (fun k hk=>hk.elim) rfl;exact this
       ·rw [hmr2];exact hb11p
    ·have hbit:c.getLsbD b=false:=LZ (by omega) hcf;rw [hbit];(conv=>whnf);rw [w64 (x:=(f:Int)+1) (by omega) (by omega)];exact⟨rfl,f+1,by simp,⟨ha35,by omega⟩,by omega⟩
  ·have hb':b=256:=by omega
   subst hb';have hok:=HH (next:=next) (sp:=sp) hcell 256 (by omega);generalize hst:Cp next cells sp 256=st at*
   have hlec:=hok.le;have hlen:=hok.len;(conv=>whnf);refine A3.mk [95] (fun q:Nat=>[.int .i64 q]) (fun q H4=>q≤next.length∧Agr (fun k=>k<H3.size∧k≠nb) H3 H4∧H3.size≤H4.size∧∃vs:List Value,vs.length=next.length∧Blk H4 nb 41 vs∧
    (∀i,q≤i→i<next.length→vs[i]? =some (.slice none 0 0))∧∀i v row,i<q→vs[i]? =some v→next[i]? =some row→SlO tI (fun _=>False) H4 H3.size 3 v (Fq st.cols row)) (fun q _=>next.length - q) ?_ ?_
   ·(conv=>whnf);refine⟨0,rfl,by omega,Agr.refl _ _,AaD _,_,by simp,hb3n,fun i _ hi=>by simp [hi],fun i v row hi=>by omega⟩
   ·rintro q H4 junk2 ⟨hq,ha4,hs4,vs,hvl,hb4n,hnil,hdone⟩;have hnb3:=hb3n.lt;have hpb3:=hb3.lt;have hA4:Agr (fun k=>k<H.size∧k≠pb) H H4:=hA3.trans (ha4.mono fun k hk=>by omega);refine AB.mk (fun h=>?_) (fun h=>?_)<;>simp only [decide_eq_true_eq,decide_eq_false_iff_not]at h
    ·obtain⟨row,hrow⟩:=Ad (l:=next) (k:=q) (by omega);obtain⟨hrl,hrq⟩:=hrows row (Aa4 hrow);have hn4:=hn.frame (hA4.mono fun k hk=>hS k hk);refine ixr DH hn4 hrow rfl ?_;rintro b2 o2 cs2 hSb2 hcells2 ⟨ra,rc,rfl,hr⟩;refine ld1 CW hcells2.one trivial ?_;(conv=>whnf);rw [AaC];refine A3.mk [102] (fun j:Nat=>[.int .i64 j]) (fun j H5=>j≤st.cols.length∧Agr (fun k=>k<H4.size∧k≠nb) H4 H5∧H4.size≤H5.size∧∃vcur,Blk H5 nb 41 (vs.set q vcur)∧
      SlO tI (fun _=>False) H5 H4.size 3 vcur (Fq (st.cols.take j) row)) (fun j _=>st.cols.length - j) ?_ ?_
     ·(conv=>whnf);refine⟨0,rfl,by omega,Agr.refl _ _,AaD _,.slice none 0 0,?_,SlO.nil⟩;have:vs.set q (.slice none 0 0)=vs:=by
       have h1:=hnil q (AaD _) (by omega);rw [Aa2]at h1;obtain⟨h2,h3⟩:=h1;rw [←h3];exact List.set_getElem_self h2
      rw [this];exact hb4n
     ·rintro j H5 junk3 ⟨hj,ha5,hs5,vcur,hb5n,hcur⟩;have hA35:Agr (fun k=>k<H3.size∧k≠nb) H3 H5:=ha4.trans (ha5.mono fun k hk=>by omega);have hb5:=hb3.agr hA35 ⟨hpb3,by omega⟩;have hcols5:=hcols.agr hA35 (fun k hk=>by have:=hcols.lt hk;omega) (fun k hk=>hk.elim);obtain⟨av5,capv5,he5,hview,hblk⟩:=hcols5.view (S':=fun k=>k<H3.size) (fun k hk=>(hcols.lt hk).2) (fun k hk=>hk.elim);cases he5;refine AB.mk (fun h=>?_) (fun h=>?_)<;>simp only [decide_eq_true_eq,decide_eq_false_iff_not]at h
      ·obtain⟨c0,hc0⟩:=Ad (l:=st.cols) (k:=j) (by omega);have hc0m:=hok.cols c0 (Aa4 hc0);refine JE (x:=(c0:Int)) AL hview (by simp) (by simp [hc0]) rfl ?_;rintro b3 o3 cs3 hSb3 hcells3 ⟨rfl,-⟩;refine ld1 ct3 hcells3.one trivial ?_;obtain⟨acu,capcu,rfl,-,-⟩:=hcur.view (S':=fun k=>slB vcur k) (fun k hk=>hk) (fun k hk=>hk.elim);(conv=>whnf);refine Ar.held (fun k=>k<H4.size) 19 (sq [0,1,2,3,4,5,6,7,8,9,10,11,12,13,14,15] (.f 16 (.f 17 (sq [18] (.f 19 .e))))) rfl (by kernel_rfl) ?_;have hb5nq:cell H5 nb (0+(q:Int).toNat*1)=some (.slice acu (Fq (st.cols.take j) row).length capcu):=by
        rw [hb5n.cell,show 0+(q:Int).toNat*1=q by omega,Aa8 (by omega)]
       have hr5:=hr.frame (ha5.mono fun k hk=>by have:=hS k hk;omega);have hv257:cell H5 pb (0+257)=some (.slice (some ⟨nb,0,none⟩) next.length next.length):=by
        rw [hb5.cell,Aa1];exact EW (by rw [hok.cell];omega)
       refine fa F5 (ld1 DZ hv257 (show pb<H4.size by omega) (fa F5 (ld1 DZ hv257 (show pb<H4.size by omega) (ix DH (by omega) (by omega) (ld1 CW hb5nq (show nb<H4.size by omega) ?_)))));obtain⟨x0,hx0⟩:=Ad (l:=row) (k:=c0) (by omega);refine ixr AL hr5 hx0 rfl ?_;rintro b4 o4 cs4 hSb4 hcells4 ⟨rfl,hx0k⟩;refine ld1 ct3 hcells4.one (show b4<H4.size by have:=hS b4 hSb4;omega) ?_;refine A2 AL [.int .i64 x0] rfl rfl (by decide) (by decide) ?_;intro q6 H6 hq6 hs6 hb6 ha6;refine⟨ha6.mono fun k hk=>by omega,?_⟩;have hcur6:=hcur.agr ha6 (fun k hk=>by have:=(hcur.lt hk).2;omega) (fun k hk=>hk.elim);have hrl2:(Fq (st.cols.take j) row).length≤256:=by simp [Fq];omega
       refine BZ (T:=tI) (S:=fun _=>False) (ys:=[x0]) (ds:=[.int .i64 x0]) (lo:=H4.size) (xs:=Fq (st.cols.take j) row) AL hcur6 (by omega) (fun k hk=>hk.elim)
         (hb6.cells (fun j v hv=>by simpa using hv)) (Ty.reps_one ⟨rfl,hx0k⟩) rfl (by intro u hu;cases Aa3.1 hu;rfl) (by simp only [maxLen,Aa0];omega) (by simp only [Aa0];omega) ?_
       intro v7 H7 hcur7 ha7 hs7 hfresh7;refine⟨fun k hk=>?_,?_⟩
       ·rw [ha7 k ⟨by omega,fun h=>by have:=(hcur.lt h).1;omega⟩,ha6 k (by omega)]
       have hb7n:=(hb5n.agr ha6 (by omega)).agr ha7 ⟨by omega,fun h=>by have:=(hcur.lt h).1;omega⟩;refine ix DH (by omega) (by omega) ?_;refine st1 CW hb7n (by simp;omega) hcur7.one ?_;intro H8 hb8 ha8 hs8;(conv=>whnf);rw [w64 (x:=(j:Int)+1) (by omega) (by omega)];refine⟨rfl,j+1,by simp,⟨by omega,?_,by omega,v7,?_,?_⟩,by omega⟩
       ·intro k hk;rw [ha8 k hk.2,ha7 k ⟨by omega,fun h=>by have:=(hcur.lt h).1;omega⟩,ha6 k (by omega),ha5 k hk]
       ·rw [show 0+(q:Int).toNat*1=q by omega,List.set_set]at hb8;exact hb8
       ·have:=hcur7.agr ha8 (fun k hk=>by have:=(hcur7.lt hk).1;omega) (fun k hk=>hk.elim);have e1:Fq (st.cols.take (j+1)) row=Fq (st.cols.take j) row++[x0]:=by
         unfold Fq;rw [Ac hc0,Ab1];simp [hx0]
        rw [e1];exact this
      ·have hj':j=st.cols.length:=by omega
       subst hj';rw [AaB]at hcur;(conv=>whnf);rw [w64 (x:=(q:Int)+1) (by omega) (by omega)];refine⟨rfl,q+1,by simp,⟨by omega,hA35,by omega,vs.set q vcur,by simp [hvl],hb5n,?_,?_⟩,by omega⟩
       ·intro i h1 h2;rw [Aa9 (by omega)];exact hnil i (by omega) h2
       ·intro i v row' hi hv hrow';by_cases hiq:i=q
        ·subst hiq;rw [Aa8 (by omega)]at hv;rw [hrow]at hrow';cases hv;cases hrow';exact hcur.lower (by omega)
        ·rw [Aa9 (by omega)]at hv;have hd:=hdone i v row' (by omega) hv hrow';exact hd.agr ha5 (fun k hk=>by have:=hd.lt hk;omega) (fun k hk=>hk.elim)
    ·have hq':q=next.length:=by omega
     subst hq';(conv=>whnf);have hs23:H2.size≤H3.size:=hs3;obtain⟨ac9,capc9,he9,hview9,-⟩:=(hsets.agr ha4 (fun k hk=>by have:=hsets.lt hk;omega) (fun k hk=>hk.elim)).view (S':=fun k=>H.size≤k∧k<H4.size)
      (fun k hk=>by have:=hsets.lt hk;omega) (fun k hk=>hk.elim)
     subst he9;refine⟨hA4,by omega,ac9,capc9,some ⟨nb,0,none⟩,next.length,hb3.agr ha4 ⟨hpb3,by omega⟩,hview9,SlD.intro (show H.size≤nb∧nb<H4.size by omega) (by simp) (by simp [maxLen];omega) (hb4n.cells (cs:=vs) (fun j v hv=>by simpa using hv)) ?_⟩;refine ES (by simp [hvl]) fun i v x hv hx=>?_;rw [AaN]at hx;obtain⟨row,hrow,rfl⟩:=Option.map_eq_some_iff.1 hx;have hd:=hdone i v row (Aa2.1 hrow).1 hv hrow;obtain⟨a0,cap0,rfl,hv0,-⟩:=hd.view (S':=fun k=>H.size≤k∧k<H4.size) (fun k hk=>by have:=hd.lt hk;omega) (fun k hk=>hk.elim);exact⟨a0,cap0,rfl,hv0⟩
inductive GK(rows:List (List Int))(fin:List Bool):Nat→Prop
 | fin {q:Nat}:fin[q]? =some true→GK rows fin q
 | step {q t:Nat} {row:List Int}:rows[q]? =some row→(t:Int)∈row→GK rows fin t→GK rows fin q
def KT(rows:List (List Int))(q j t:Nat)(p:Int):Prop:=∃(q':Nat) (row:List Int),p=(q':Int)∧rows[q']? =some row∧(q'<q∧(t:Int)∈row∨q'=q∧(t:Int)∈row.take j)
def nF(al:List Bool):Nat:=al.count false
theorem Qq{al:List Bool}{p:Nat}(h:al[p]? =some false):nF (al.set p true)+1=nF al:=by
 unfold nF
 induction al generalizing p with
 | nil=>simp at h
 | cons a al ih=>
   cases p with
   | zero=>simp at h;subst h;simp [AbZ]
   | succ p=>simp at h;simp only [Ab6,AbZ];have:=ih h;omega
structure WI(rows:List (List Int))(final:List Bool)(bk:List (List Int))(al:List Bool)(td:List Int)(ex:Option (Nat×Nat)):Prop where
 len:al.length=rows.length
 sound:∀q:Nat,al[q]? =some true→GK rows final q
 fin:∀q:Nat,final[q]? =some true→al[q]? =some true
 tdok:∀x∈td,∃q:Nat,x=(q:Int)∧al[q]? =some true
 cnt:td.length+nF al≤rows.length
 closed:∀(q:Nat) (x:List Int),al[q]? =some true→bk[q]? =some x→(q:Int)∈td∨(∀p∈x,al[p.toNat]? =some true)∨∃j,ex=some (q,j)∧∀p∈x.take j,al[p.toNat]? =some true
def Xn(rows:List (List Int))(bk:List (List Int)):Prop:=bk.length=rows.length∧∀(t:Nat) (x:List Int),bk[t]? =some x→∀p,p∈x↔∃(q':Nat) (row:List Int),p=(q':Int)∧rows[q']? =some row∧(t:Int)∈row
section
variable{rows:List (List Int)}{final:List Bool}{bk:List (List Int)}{al:List Bool}{td:List Int}
theorem WI.pop{q:Nat}(h:WI rows final bk al (td++[(q:Int)]) none):WI rows final bk al td (some (q,0)):=by
 refine⟨h.len,h.sound,h.fin,fun x hx=>h.tdok x (Ab2 _ hx),by have:=h.cnt;simp at this;omega,fun q' x hq' hx=>?_⟩;rcases h.closed q' x hq' hx with h1 | h1 | ⟨j,h1,_⟩
 ·rcases AaA.1 h1 with h1 | h1
  ·exact .inl h1
  ·rw [Aa3]at h1;have:q'=q:=by omega
   subst this;exact .inr (.inr ⟨0,rfl,by simp⟩)
 ·exact .inr (.inl h1)
 ·cases h1
theorem WI.skip{q j pn:Nat}{x:List Int}(h:WI rows final bk al td (some (q,j)))(hx:bk[q]? =some x)(hj:x[j]? =some (pn:Int))(hp:al[pn]? =some true):WI rows final bk al td (some (q,j+1)):=by
 refine⟨h.len,h.sound,h.fin,h.tdok,h.cnt,fun q' x' hq' hx'=>?_⟩;rcases h.closed q' x' hq' hx' with h1 | h1 | ⟨j',h1,h2⟩
 ·exact .inl h1
 ·exact .inr (.inl h1)
 ·cases h1;rw [hx]at hx';cases hx';refine .inr (.inr ⟨j+1,rfl,fun p hp'=>?_⟩);rw [Ac hj,AaA,Aa3]at hp';rcases hp' with hp' | rfl
  ·exact h2 p hp'
  ·simpa using hp
theorem WI.mark{q j pn:Nat}{x:List Int}(hbk:Xn rows bk)(h:WI rows final bk al td (some (q,j)))(hq:al[q]? =some true)(hx:bk[q]? =some x)(hj:x[j]? =some (pn:Int))(hp:al[pn]? =some false):
  WI rows final bk (al.set pn true) (td++[(pn:Int)]) (some (q,j+1)):=by
 have hlt:pn<al.length:=(Aa2.1 hp).1;have keep:∀i,al[i]? =some true→(al.set pn true)[i]? =some true:=fun i hi=>by
  by_cases h1:pn=i
  ·subst h1;rw [Aa8 hlt]
  ·rw [Aa9 h1];exact hi
 have live:GK rows final pn:=by
  obtain⟨q',row,h1,h2,h3⟩:=(hbk.2 q x hx (pn:Int)).1 (Aa4 hj);have:pn=q':=by omega
  subst this;exact .step h2 h3 (h.sound q hq)
 refine⟨by simp [h.len],fun i hi=>?_,fun i hi=>keep i (h.fin i hi),fun y hy=>?_,?_,fun q' x' hq' hx'=>?_⟩
 ·by_cases h1:pn=i
  ·subst h1;exact live
  ·rw [Aa9 h1]at hi;exact h.sound i hi
 ·rcases AaA.1 hy with hy | hy
  ·obtain⟨i,h1,h2⟩:=h.tdok y hy;exact⟨i,h1,keep i h2⟩
  ·rw [Aa3]at hy;exact⟨pn,hy,by rw [Aa8 hlt]⟩
 ·have h1:=Qq hp;have h2:=h.cnt;simp only [Aa5,Aa0];omega
 ·by_cases h1:pn=q'
  ·subst h1;exact .inl (AaZ _ (Aa3.2 rfl))
  ·rw [Aa9 h1]at hq';rcases h.closed q' x' hq' hx' with h2 | h2 | ⟨j',h2,h3⟩
   ·exact .inl (Ab2 _ h2)
   ·exact .inr (.inl fun p hp'=>keep _ (h2 p hp'))
   ·cases h2;rw [hx]at hx';cases hx';refine .inr (.inr ⟨j+1,rfl,fun p hp'=>?_⟩);rw [Ac hj,AaA,Aa3]at hp';rcases hp' with hp' | rfl
    ·exact keep _ (h3 p hp')
    ·rw [Aa7,Aa8 hlt]
theorem WI.done{q:Nat}{x:List Int}(h:WI rows final bk al td (some (q,x.length)))(hx:bk[q]? =some x):WI rows final bk al td none:=by
 refine⟨h.len,h.sound,h.fin,h.tdok,h.cnt,fun q' x' hq' hx'=>?_⟩;rcases h.closed q' x' hq' hx' with h1 | h1 | ⟨j',h1,h2⟩
 ·exact .inl h1
 ·exact .inr (.inl h1)
 ·cases h1;rw [hx]at hx';cases hx';rw [AaB]at h2;exact .inr (.inl h2)
theorem WI.finish(hbk:Xn rows bk)(hr:∀row∈rows,∀t∈row,0≤t∧t<(rows.length:Int))(h:WI rows final bk al [] none)(q:Nat):al[q]? =some true↔GK rows final q:=by
 refine⟨h.sound q,fun hl=>?_⟩
 induction hl with
 | fin hf=>exact h.fin _ hf
 | @step q t row h1 h2 _ ih=>
   have ht:=hr row (Aa4 h1) _ h2;obtain⟨x,hx⟩:=Ad (l:=bk) (k:=t) (by rw [hbk.1];omega);have hm:(q:Int)∈x:=(hbk.2 t x hx (q:Int)).2 ⟨q,row,rfl,h1,h2⟩;rcases h.closed t x ih hx with h3 | h3 | ⟨_,h3,_⟩
   ·cases h3
   ·simpa using h3 _ hm
   ·cases h3
end
theorem Yo(pb:Nat)(cv av:Value)(cell:List Nat)(an af:Option Addr)(capn capf:Nat)(rows:List (List Int))(final:List Bool)(S:Nat→Prop)(H:Aa)(hS:∀k,S k→k<H.size∧k≠pb)
  (hb:Blk H pb 109 (BM cv cell (.slice an rows.length capn) (.slice af final.length capf) av)) (hcl:cell.length≤256) (hn:SlD GP S H an capn rows) (hf:SlD A1 S H af capf final)
  (hr1:rows.length≤65536) (hfl:final.length=rows.length) (hrows:∀row∈rows,row.length≤256∧∀t∈row,0≤t∧t<(rows.length:Int)):
  Al Tryz.prog 117 #[.pointer (some ⟨pb,0,none⟩)] H fun v H'=>Agr (fun k=>k<H.size∧k≠pb) H H'∧H.size≤H'.size∧
   ∃(al:List Bool) (aa:Option Addr) (capa:Nat),al.length=rows.length∧(∀q,q<rows.length→(al[q]? =some true↔GK rows final q))∧
    Blk H' pb 109 (BM cv cell (.slice an rows.length capn) (.slice af final.length capf) (.slice aa al.length capa))∧SlD A1 (fun k=>H.size≤k∧k<H'.size) H' aa capa al:=by
 have hpb:=hb.lt;refine Al.of_vc Tryz.func117 rfl (Tryz.call117 _) (fa F5 ?_);refine ld1 DZ (by rw [hb.cell,Aa1];exact EW hcl) trivial ?_;refine Eo DH rfl (by omega) (by omega) (by omega) (by omega) ?_;intro nb H1 hnb hs1 hb1n ha1;rw [Aa7]at hb1n;have hb1:=hb.agr ha1 (show pb<nb by omega);refine fa F5 ?_;refine ld1 DZ (by rw [hb1.cell,Aa1];exact EW hcl) trivial ?_;(conv=>whnf);refine A3.mk [24] (fun q:Nat=>[.int .i64 q]) (fun q H2=>q≤rows.length∧Agr (fun k=>k<H1.size∧k≠nb) H1 H2∧H1.size≤H2.size∧∃vs bk,Tab tI (fun _=>False) H2 (nb+1) 3 nb 41 vs bk∧bk.length=rows.length∧
  (∀(t:Nat) (x:List Int),bk[t]? =some x→x.length≤q*256∧∀p,p∈x↔KT rows q 0 t p)) (fun q _=>rows.length - q) ?_ ?_
 ·(conv=>whnf);refine⟨0,rfl,by omega,Agr.refl _ _,AaD _,_,_,Tab.new hb1n (by omega),by simp,fun t x hx=>?_⟩;rw [AaW]at hx;split at hx
  ·cases hx;refine⟨by simp,fun p=>⟨(fun h=>by cases h),?_⟩⟩;rintro⟨q',row,_,_,⟨h,_⟩ | ⟨_,h⟩⟩
   ·omega
   ·simp at h
  ·cases hx
 ·rintro q H2 junk ⟨hq,ha2,hs2,vs,bk,htab,hbkl,hbk⟩;have hA2:Agr (fun k=>k<H.size∧k≠pb) H H2:=(ha1.mono fun k hk=>by omega).trans (ha2.mono fun k hk=>by omega);have hb2:=hb1.agr ha2 ⟨by omega,by omega⟩;refine AB.mk (fun h=>?_) (fun h=>?_)<;>simp only [decide_eq_true_eq,decide_eq_false_iff_not]at h
  ·obtain⟨row,hrow⟩:=Ad (l:=rows) (k:=q) (by omega);obtain⟨hrl,hrt⟩:=hrows row (Aa4 hrow);refine ixr DH (hn.frame (hA2.mono fun k hk=>hS k hk)) hrow rfl ?_;rintro b2 o2 cs2 hSb2 hcells2 ⟨ra,rc,rfl,hr⟩;refine ld1 CW hcells2.one trivial ?_;(conv=>whnf);refine A3.mk [31] (fun j:Nat=>[.int .i64 j]) (fun j H3=>j≤row.length∧Agr (fun k=>k<H1.size∧k≠nb) H2 H3∧H1.size≤H3.size∧∃vs bk,Tab tI (fun _=>False) H3 (nb+1) 3 nb 41 vs bk∧bk.length=rows.length∧
    (∀(t:Nat) (x:List Int),bk[t]? =some x→x.length≤q*256+j∧∀p,p∈x↔KT rows q j t p)) (fun j _=>row.length - j) ?_ ?_
   ·(conv=>whnf);exact⟨0,rfl,by omega,Agr.refl _ _,hs2,vs,bk,htab,hbkl,hbk⟩
   ·clear htab hbkl hbk vs bk;rintro j H3 junk2 ⟨hj,ha3,hs3,vs,bk,htab,hbkl,hbk⟩;have hr3:=hr.frame (ha3.mono fun k hk=>by have:=hS k hk;omega);refine AB.mk (fun h=>?_) (fun h=>?_)<;>simp only [decide_eq_true_eq,decide_eq_false_iff_not]at h
    ·obtain⟨ti,hti⟩:=Ad (l:=row) (k:=j) (by omega);obtain⟨ht0,ht1⟩:=hrt ti (Aa4 hti);obtain⟨t,rfl⟩:=AbI ht0;refine ixr AL hr3 hti rfl ?_;rintro b3 o3 cs3 hSb3 hcells3 ⟨rfl,htk⟩;refine ld1 ct3 hcells3.one trivial ?_;obtain⟨v,x,hv,hx,hsl⟩:=htab.get (i:=t) (by omega);obtain⟨hxl,hxm⟩:=hbk t x hx;obtain⟨av3,capv3,rfl,-,-⟩:=hsl.view (S':=fun k=>slB v k) (fun k hk=>hk) (fun k hk=>hk.elim);have htlt:t<vs.length:=(Aa2.1 hv).1;refine ix DH (by omega) (by omega) ?_;refine ld1 CW (by rw [htab.blk.cell,show 0+(t:Int).toNat*1=t by omega];exact hv) trivial ?_;refine A2 AL [.int .i64 (q:Int)] rfl rfl (by decide) (by decide) ?_;intro q4 H4 hq4 hs4 hb4 ha4;have hnb3:=htab.blk.lt;have htab4:=htab.agr ha4 (by omega) (fun b _ hb=>by omega) (fun k hk=>hk.elim);refine BZ (T:=tI) (S:=fun _=>False) (ys:=[(q:Int)]) (ds:=[.int .i64 (q:Int)]) (lo:=nb+1) (xs:=x) AL (htab4.own t _ x hv hx) (by omega) (fun k hk=>hk.elim)
      (hb4.cells (fun j v hv=>by simpa using hv)) (Ty.reps_one ⟨rfl,Bs (by omega)⟩) rfl (by intro u hu;cases Aa3.1 hu;rfl) (by simp only [maxLen,Aa0];omega) (by simp only [Aa0];omega) ?_
     intro v5 H5 hown5 ha5 hs5 hfresh5;have hb5n:=htab4.blk.agr ha5 ⟨by omega,fun hk=>by have:=((htab4.own t _ x hv hx).lt hk).1;omega⟩;refine ix DH (by omega) (by omega) (st1 CW hb5n (by omega) hown5.one ?_);intro H6 hb6 ha6 hs6;rw [show 0+(t:Int).toNat*1=t by omega]at hb6;(conv=>whnf);rw [w64 (x:=(j:Int)+1) (by omega) (by omega)];refine⟨rfl,j+1,by simp,⟨by omega,?_,by omega,_,_,htab4.push hv hown5 ha5 hfresh5 hb6 ha6 (fun k hk=>hk.elim),by simp [hbkl],?_⟩,by omega⟩
     ·intro k hk;rw [ha6 k hk.2,ha5 k ⟨by omega,fun hb=>by have:=((htab4.own t _ x hv hx).lt hb).1;omega⟩,ha4 k (by omega),ha3 k hk]
     ·intro t' x' hx';have hmem:∀p,KT rows q (j+1) t' p↔KT rows q j t' p∨(t'=t∧p=(q:Int)):=by
       intro p;unfold KT;constructor
       ·rintro⟨q',row',h1,h2,⟨h3,h4⟩ | ⟨h3,h4⟩⟩
        ·exact .inl ⟨q',row',h1,h2,.inl ⟨h3,h4⟩⟩
        ·subst h3;rw [hrow]at h2;cases h2;rw [Ac hti,AaA,Aa3]at h4;rcases h4 with h4 | h4
         ·exact .inl ⟨_,_,h1,hrow,.inr ⟨rfl,h4⟩⟩
         ·exact .inr ⟨by omega,h1⟩
       ·rintro(⟨q',row',h1,h2,⟨h3,h4⟩ | ⟨h3,h4⟩⟩ | ⟨rfl,rfl⟩)
        ·exact⟨q',row',h1,h2,.inl ⟨h3,h4⟩⟩
        ·subst h3;rw [hrow]at h2;cases h2;exact⟨_,_,h1,hrow,.inr ⟨rfl,by rw [Ac hti,AaA];exact .inl h4⟩⟩
        ·exact⟨q,row,rfl,hrow,.inr ⟨rfl,by rw [Ac hti,AaA];exact .inr (Aa3.2 rfl)⟩⟩
      by_cases htt:t'=t
      ·subst htt;rw [Aa8 (by omega)]at hx';cases hx';refine⟨by simp only [Aa5,Aa0];omega,fun p=>?_⟩;rw [hmem p,AaA,hxm p,Aa3];simp
      ·rw [Aa9 (Ne.symm htt)]at hx';obtain⟨h1,h2⟩:=hbk t' x' hx';refine⟨by omega,fun p=>?_⟩;rw [hmem p,h2 p];simp [htt]
    ·have hj':j=row.length:=by omega
     subst hj';(conv=>whnf);rw [w64 (x:=(q:Int)+1) (by omega) (by omega)];refine⟨rfl,q+1,by simp,⟨by omega,ha2.trans ha3,by omega,vs,bk,htab,hbkl,fun t x hx=>?_⟩,by omega⟩;obtain⟨g1,g2⟩:=hbk t x hx;refine⟨by rw [Nat.succ_mul];omega,fun p=>?_⟩;rw [g2 p];unfold KT;constructor
     ·rintro⟨q',row',h1,h2,⟨h3,h4⟩ | ⟨h3,h4⟩⟩
      ·exact⟨q',row',h1,h2,.inl ⟨by omega,h4⟩⟩
      ·exact⟨q',row',h1,h2,.inl ⟨by omega,AbO h4⟩⟩
     ·rintro⟨q',row',h1,h2,⟨h3,h4⟩ | ⟨h3,h4⟩⟩
      ·by_cases hqq:q'=q
       ·rw [hqq,hrow]at h2;cases h2;exact⟨q',_,h1,by rw [hqq];exact hrow,.inr ⟨hqq,by rw [AaB];exact h4⟩⟩
       ·exact⟨q',row',h1,h2,.inl ⟨by omega,h4⟩⟩
      ·simp at h4
  ·have hq':q=rows.length:=by omega
   subst hq';have hbko:Xn rows bk:=⟨hbkl,fun t x hx p=>by
    rw [(hbk t x hx).2 p];unfold KT;constructor
    ·rintro⟨q',row,h1,h2,⟨h3,h4⟩ | ⟨_,h4⟩⟩
     ·exact⟨q',row,h1,h2,h4⟩
     ·simp at h4
    ·rintro⟨q',row,h1,h2,h4⟩;exact⟨q',row,h1,h2,.inl ⟨(Aa2.1 h2).1,h4⟩⟩⟩
   have hnb2:=htab.blk.lt;have hback:=htab.view (S':=fun k=>nb≤k∧k<H2.size) hbkl.symm (by simp [maxLen];omega) (fun k h1 h2=>⟨h1,h2⟩) (fun k hk=>hk.elim);clear hbk;refine fa F5 ?_;refine ld1 DZ (by rw [hb2.cell,Aa1];exact EW hcl) trivial ?_;refine Eo Cs rfl (by omega) (by omega) (by omega) (by omega) ?_;intro ab H3 hab hs3 hb3a ha3;rw [Aa7]at hb3a;have hb3:=hb2.agr ha3 (show pb<ab by omega);refine fa IU ?_;refine st1 FM hb3 (by rw [HA hcl];omega) rfl ?_;intro H4 hb4 ha4 hs4;rw [Aa1,MR hcl]at hb4;replace hb3a:=hb3a.agr ha4 (show ab≠pb by omega);have hA24:Agr (fun k=>k<H2.size∧k≠pb) H2 H4:=(ha3.mono fun k hk=>by omega).trans (ha4.mono fun k hk=>hk.2);refine fa Nk ?_;refine ld1 FM (by rw [hb4.cell,Aa1];exact Jx hcl) trivial ?_;(conv=>whnf);refine A3.mk [7,61] (fun x:Nat×Value=>[x.2,.int .i64 x.1]) (fun x H5=>x.1≤rows.length∧Agr (fun k=>k<H2.size∧k≠pb) H2 H5∧H4.size≤H5.size∧
    Blk H5 pb 109 (BM cv cell (.slice an rows.length capn) (.slice af final.length capf) (.slice (some ⟨ab,0,none⟩) (rows.length:Int).toNat (rows.length:Int).toNat))∧
    ∃al td,al.length=rows.length∧Blk H5 ab 4 (al.map .bool)∧SlO tI (fun _=>False) H5 (ab+1) 3 x.2 td∧
     (∀q,al[q]? =some true↔q<x.1∧final[q]? =some true)∧(∀q:Nat,al[q]? =some true→(q:Int)∈td)∧(∀y∈td,∃q:Nat,y=(q:Int)∧al[q]? =some true)∧td.length+nF al=rows.length) (fun x _=>rows.length - x.1) ?_ ?_
   ·(conv=>whnf);refine⟨(0,_),rfl,by omega,hA24,AaD _,hb4,Aa6 rows.length false,[],by simp,by simpa using hb3a,SlO.nil,fun q=>⟨fun h=>?_,fun h=>by omega⟩,fun q h=>?_,(fun y hy=>by cases hy),by simp [nF,List.count_replicate]⟩
    ·rw [AaW]at h;split at h<;>simp at h
    ·rw [AaW]at h;split at h<;>simp at h
   ·rintro⟨i,v7⟩ H5 junk2 ⟨hi,hA5,hs5,hb5,al,td,hall,hb5a,htd,hal1,hal2,hal3,hal4⟩;dsimp only at hi htd hal1;refine AB.mk (fun h=>?_) (fun h=>?_)<;>simp only [decide_eq_true_eq,decide_eq_false_iff_not]at h
    ·have hA25:=hA2.trans (hA5.mono fun k hk=>by omega);obtain⟨f,hfi⟩:=Ad (l:=final) (k:=i) (by omega);refine Am.run (ixr Cs (hf.frame (hA25.mono fun k hk=>hS k hk)) hfi rfl ?_);rintro b3 o3 cs3 hSb3 hcells3 rfl;refine ld1 ct4 hcells3.one trivial (AB.mk (fun h2=>?_) (fun h2=>?_))
     ·subst h2;have hfal:al[i]? =some false:=by
       cases hx:al[i]? with
       | none=>rw [AbB]at hx;omega
       | some b=>
         cases b with
         | false=>rfl
         | true=>have:=((hal1 i).1 hx).1;omega
      refine fa IU ?_;refine ld1 FM (by rw [hb5.cell,Aa1];exact Hz hcl) trivial ?_;refine ix Cs (by omega) (by omega) ?_;refine st1 ct4 hb5a (by simp;omega) rfl ?_;intro H6 hb6a ha6 hs6;rw [show 0+(i:Int).toNat*1=i by omega]at hb6a;refine A2 AL [.int .i64 (i:Int)] rfl rfl (by decide) (by decide) ?_;intro q7 H7 hq7 hs7 hb7 ha7;have hl5:=hb5.lt;have hl5a:=hb5a.lt;have htd7:SlO tI (fun _=>False) H7 (ab+1) 3 v7 td:=(htd.agr ha6 (fun b hb=>by have:=htd.lt hb;omega) (fun k hk=>hk.elim)).agr ha7 (fun b hb=>by have:=htd.lt hb;omega) (fun k hk=>hk.elim);have hnf:=Qq hfal;refine BZ (T:=tI) (S:=fun _=>False) (ys:=[(i:Int)]) (ds:=[.int .i64 (i:Int)]) (lo:=ab+1) (xs:=td) AL htd7 (by omega) (fun k hk=>hk.elim)
       (hb7.cells (fun j v hv=>by simpa using hv)) (Ty.reps_one ⟨rfl,Bs (by omega)⟩) rfl (by intro u hu;cases Aa3.1 hu;rfl) (by simp only [maxLen,Aa0];omega) (by simp only [Aa0];omega) ?_
      intro v8 H8 hown8 ha8 hs8 hfresh8;(conv=>whnf);rw [w64 (x:=(i:Int)+1) (by omega) (by omega)];have hsb:∀k,slB v7 k→ab+1≤k:=fun k hk=>(htd.lt hk).1;refine⟨rfl,(i+1,v8),rfl,⟨by dsimp only;omega,?_,by omega,?_,al.set i true,td++[(i:Int)],by simp [hall],?_,hown8,fun q=>?_,fun q hq=>?_,fun y hy=>?_,?_⟩,by dsimp only;omega⟩
      ·intro k hk;rw [ha8 k ⟨by omega,fun hb=>by have:=hsb k hb;omega⟩,ha7 k (by omega),ha6 k (by omega),hA5 k hk]
      ·exact((hb5.agr ha6 (by omega)).agr ha7 (by omega)).agr ha8 ⟨by omega,fun hb=>by have:=hsb _ hb;omega⟩
      ·rw [List.map_set];exact(hb6a.agr ha7 (by omega)).agr ha8 ⟨by omega,fun hb=>by have:=hsb _ hb;omega⟩
      ·dsimp only;by_cases hqi:i=q
       ·subst hqi;rw [Aa8 (by omega)];exact⟨fun _=>⟨by omega,hfi⟩,fun _=>rfl⟩
       ·rw [Aa9 hqi,hal1 q];constructor
        ·rintro⟨h1,h2⟩;exact⟨by omega,h2⟩
        ·rintro⟨h1,h2⟩;exact⟨by omega,h2⟩
      ·by_cases hqi:i=q
       ·subst hqi;exact AaZ _ (Aa3.2 rfl)
       ·rw [Aa9 hqi]at hq;exact Ab2 _ (hal2 q hq)
      ·rcases AaA.1 hy with hy | hy
       ·obtain⟨q,h1,h2⟩:=hal3 y hy;refine⟨q,h1,?_⟩;by_cases hqi:i=q
        ·subst hqi;rw [Aa8 (by omega)]
        ·rw [Aa9 hqi];exact h2
       ·rw [Aa3]at hy;exact⟨i,hy,by rw [Aa8 (by omega)]⟩
      ·simp only [Aa5,Aa0];omega
     ·subst h2;(conv=>whnf);rw [w64 (x:=(i:Int)+1) (by omega) (by omega)];refine⟨rfl,(i+1,v7),rfl,⟨by dsimp only;omega,hA5,hs5,hb5,al,td,hall,hb5a,htd,fun q=>?_,hal2,hal3,hal4⟩,by dsimp only;omega⟩;rw [hal1 q];dsimp only;constructor
      ·rintro⟨h1,h2⟩;exact⟨by omega,h2⟩
      ·rintro⟨h1,h2⟩;refine⟨?_,h2⟩;by_cases hqi:q=i
       ·subst hqi;rw [hfi]at h2;cases h2
       ·omega
    ·have hi':i=rows.length:=by omega
     subst hi';have hwi:WI rows final bk al td none:=by
      refine⟨hall,fun q hq=>.fin ((hal1 q).1 hq).2,fun q hq=>(hal1 q).2 ⟨?_,hq⟩,hal3,by omega,fun q x hq hx=>.inl (hal2 q hq)⟩;rw [←hfl];exact(Aa2.1 hq).1
     clear hal1 hal2 hal3 hal4;(conv=>whnf);refine A3.mk [7] (fun x:Value×List Bool×List Int=>[x.1]) (fun x H6=>Agr (fun k=>k<H2.size∧k≠pb) H2 H6∧H5.size≤H6.size∧
      Blk H6 pb 109 (BM cv cell (.slice an rows.length capn) (.slice af final.length capf) (.slice (some ⟨ab,0,none⟩) (rows.length:Int).toNat (rows.length:Int).toNat))∧
      Blk H6 ab 4 (x.2.1.map .bool)∧SlO tI (fun _=>False) H6 (ab+1) 3 x.1 x.2.2∧WI rows final bk x.2.1 x.2.2 none) (fun x _=>2*nF x.2.1+x.2.2.length) ?_ ?_
     ·(conv=>whnf);exact⟨(v7,al,td),rfl,hA5,AaD _,hb5,hb5a,htd,hwi⟩
     ·clear htd hwi hb5a hb5 hA5 hall;rintro⟨v7,al,td⟩ H6 junk3 ⟨hA6,hs6,hb6,hb6a,htd,hwi⟩;dsimp only at htd hb6a hwi;obtain⟨at7,cap7,rfl,hv7,hsb7⟩:=htd.view (S':=fun k=>ab+1≤k∧k<H6.size) (fun k hk=>htd.lt hk) (fun k hk=>hk.elim);refine AB.mk (fun h=>?_) (fun h=>?_)<;>simp only [decide_eq_true_eq,decide_eq_false_iff_not]at h
      ·obtain⟨td0,y,rfl⟩:∃td0 y,td=td0++[y]:=⟨td.dropLast,td.getLast (by intro h2;subst h2;simp at h),(List.dropLast_concat_getLast _).symm⟩;obtain⟨q,rfl,hqt⟩:=hwi.tdok y (by simp);have hql:q<rows.length:=by have:=(Aa2.1 hqt).1;have:=hwi.len;omega
       have htl:(td0++[(q:Int)]).length=td0.length+1:=by simp
       have hcnt:=hwi.cnt;refine ixr (i:=td0.length) (x:=(q:Int)) AL hv7 (by simp) (by rw [w64 (by omega) (by omega)];omega) ?_;rintro b3 o3 cs3 hSb3 hcells3 ⟨rfl,-⟩;refine ld1 ct3 hcells3.one trivial ?_;(conv=>whnf);rw [w64 (x:=((td0++[(q:Int)]).length:Int) - 1) (by omega) (by omega)];refine Si AL (by omega) (by have:=hv7.le;omega) ?_;rw [show(((td0++[(q:Int)]).length:Int) - 1).toNat=td0.length by omega];have htd0:=htd.pop;clear htd hv7;obtain⟨xb,hxb⟩:=Ad (l:=bk) (k:=q) (by omega);have hback6:=hback.frame (hA6.mono fun k hk=>by omega);refine JE DH hback6 (by omega) hxb rfl ?_;rintro b4 o4 cs4 hSb4 hcells4 ⟨xa,xc,rfl,hxa⟩;refine ld1 CW hcells4.one trivial ?_;(conv=>whnf);refine A3.mk [7,97] (fun x:Nat×Value×List Bool×List Int=>[x.2.1,.int .i64 x.1]) (fun x H7=>x.1≤xb.length∧Agr (fun k=>k<H2.size∧k≠pb) H6 H7∧H6.size≤H7.size∧
        Blk H7 pb 109 (BM cv cell (.slice an rows.length capn) (.slice af final.length capf) (.slice (some ⟨ab,0,none⟩) (rows.length:Int).toNat (rows.length:Int).toNat))∧
        Blk H7 ab 4 (x.2.2.1.map .bool)∧SlO tI (fun _=>False) H7 (ab+1) 3 x.2.1 x.2.2.2∧WI rows final bk x.2.2.1 x.2.2.2 (some (q,x.1))∧x.2.2.1[q]? =some true∧2*nF x.2.2.1+x.2.2.2.length≤2*nF al+td0.length)
        (fun x _=>xb.length - x.1) ?_ ?_
       ·(conv=>whnf);exact⟨(0,_,al,td0),rfl,by dsimp only;omega,Agr.refl _ _,AaD _,hb6,hb6a,htd0,hwi.pop,hqt,AaD _⟩
       ·clear hb6 hb6a htd0;rintro⟨j,v7,al2,td⟩ H7 junk4 ⟨hj,hA7,hs7,hb7,hb7a,htd,hwi2,hqt2,hmeas⟩;dsimp only at hj htd hb7a hwi2 hqt2 hmeas;refine AB.mk (fun h2=>?_) (fun h2=>?_)<;>simp only [decide_eq_true_eq,decide_eq_false_iff_not]at h2
        ·obtain⟨p,hpj⟩:=Ad (l:=xb) (k:=j) (by omega);obtain⟨pn,prow,rfl,hprow,-⟩:=(hbko.2 q xb hxb p).1 (Aa4 hpj);have hpl:pn<rows.length:=(Aa2.1 hprow).1;have hall:=hwi2.len;have hcnt2:=hwi2.cnt;obtain⟨f,hpf⟩:=Ad (l:=al2) (k:=pn) (by omega);have hl7:=hb7.lt;have hl7a:=hb7a.lt;refine Am.run (ixr AL (hxa.frame (hA7.mono fun k hk=>by omega)) hpj rfl ?_);rintro b5 o5 cs5 hSb5 hcells5 ⟨rfl,-⟩;refine ld1 ct3 hcells5.one trivial (fa IU ?_);refine ld1 FM (by rw [hb7.cell,Aa1];exact Hz hcl) trivial ?_;refine ix Cs (by omega) (by omega) ?_;refine ld1 (v:=.bool f) ct4 (by rw [hb7a.cell,show 0+(pn:Int).toNat*1=pn by omega,AaN,hpf];rfl) trivial ?_;refine AB.mk (fun h3=>?_) (fun h3=>?_)
         ·obtain rfl:f=false:=by simpa using h3
          have hnf:=Qq hpf;refine fa IU ?_;refine ld1 FM (by rw [hb7.cell,Aa1];exact Hz hcl) trivial ?_;refine ix Cs (by omega) (by omega) ?_;refine st1 ct4 hb7a (by simp;omega) rfl ?_;intro H8 hb8a ha8 hs8;rw [show 0+(pn:Int).toNat*1=pn by omega]at hb8a;refine A2 AL [.int .i64 (pn:Int)] rfl rfl (by decide) (by decide) ?_;intro q9 H9 hq9 hs9 hb9 ha9;have htd9:SlO tI (fun _=>False) H9 (ab+1) 3 v7 td:=(htd.agr ha8 (fun b hb=>by have:=htd.lt hb;omega) (fun k hk=>hk.elim)).agr ha9 (fun b hb=>by have:=htd.lt hb;omega) (fun k hk=>hk.elim);refine BZ (T:=tI) (S:=fun _=>False) (ys:=[(pn:Int)]) (ds:=[.int .i64 (pn:Int)]) (lo:=ab+1) (xs:=td) AL htd9 (by omega) (fun k hk=>hk.elim)
           (hb9.cells (fun j v hv=>by simpa using hv)) (Ty.reps_one ⟨rfl,Bs (by omega)⟩) rfl (by intro u hu;cases Aa3.1 hu;rfl) (by simp only [maxLen,Aa0];omega) (by simp only [Aa0];omega) ?_
          intro v10 H10 hown10 ha10 hs10 hfresh10;(conv=>whnf);rw [w64 (x:=(j:Int)+1) (by have:=hxa.le;simp only [maxLen]at this;omega) (by have:=hxa.le;simp only [maxLen]at this;omega)];have hsb:∀k,slB v7 k→ab+1≤k:=fun k hk=>(htd.lt hk).1;refine⟨rfl,(j+1,v10,al2.set pn true,td++[(pn:Int)]),rfl,⟨by dsimp only;omega,?_,by omega,?_,?_,hown10,hwi2.mark hbko hqt2 hxb hpj hpf,?_,?_⟩,by dsimp only;omega⟩
          ·intro k hk;rw [ha10 k ⟨by omega,fun hb=>by have:=hsb k hb;omega⟩,ha9 k (by omega),ha8 k (by omega),hA7 k hk]
          ·exact((hb7.agr ha8 (by omega)).agr ha9 (by omega)).agr ha10 ⟨by omega,fun hb=>by have:=hsb _ hb;omega⟩
          ·dsimp only;rw [List.map_set];exact(hb8a.agr ha9 (by omega)).agr ha10 ⟨by omega,fun hb=>by have:=hsb _ hb;omega⟩
          ·dsimp only;by_cases hpq:pn=q
           ·subst hpq;rw [Aa8 (by omega)]
           ·rw [Aa9 hpq];exact hqt2
          ·simp only [Aa5,Aa0];omega
         ·obtain rfl:f=true:=by simpa using h3
          (conv=>whnf);rw [w64 (x:=(j:Int)+1) (by have:=hxa.le;simp only [maxLen]at this;omega) (by have:=hxa.le;simp only [maxLen]at this;omega)];exact⟨rfl,(j+1,v7,al2,td),rfl,⟨by dsimp only;omega,hA7,hs7,hb7,hb7a,htd,hwi2.skip hxb hpj hpf,hqt2,hmeas⟩,by dsimp only;omega⟩
        ·have hj':j=xb.length:=by omega
         subst hj';(conv=>whnf);exact⟨rfl,(v7,al2,td),rfl,⟨hA6.trans hA7,by omega,hb7,hb7a,htd,hwi2.done hxb⟩,by dsimp only;omega⟩
      ·have htd0:td=[]:=List.eq_nil_of_length_eq_zero (by omega);subst htd0;(conv=>whnf);have hall:=hwi.len;have hl6:=hb6.lt;refine⟨hA2.trans (hA6.mono fun k hk=>by omega),by omega,al,some ⟨ab,0,none⟩,rows.length,hall,fun q _=>hwi.finish hbko (fun row hrow=>(hrows row hrow).2) q,?_,?_⟩
       ·rw [hall];exact hb6
       ·have hl6a:=hb6a.lt;refine SlD.intro (show H.size≤ab∧ab<H6.size by omega) (by omega) (by simp only [maxLen];omega) (hb6a.cells (cs:=al.map .bool) (fun j v hv=>by rw [Aa1];exact hv)) (ES (by simp) fun i v x hv hx=>?_);rw [AaN,hx]at hv;cases hv;rfl
end Go.Proofs.YtfbghcpdinlmcaaGreatDoor
namespace Go.Proofs.YtfbghcpdinlmcaaGreatDoor
open Go.VC
attribute [local irreducible] Cp
structure AM where
 sets:List (BitVec 256)
 cell:List Nat
 next:List (List Int)
 final:List Bool
def Dp(cells:List (BitVec 256))(next:List (List Int))(final:List Bool):AM:=
 ⟨(Cp next cells (fun b=>AE b b) 256).sets,(Cp next cells (fun b=>AE b b) 256).cell,next.map (Fq (Cp next cells (fun b=>AE b b) 256).cols),final⟩
structure AM.Ok(A:AM):Prop where
 n1:1≤A.next.length
 n2:A.next.length≤65536
 fl:A.final.length=A.next.length
 cell:A.cell.length=256
 places:∀p∈A.cell,p<A.sets.length
 sl:A.sets.length≤256
 rows:∀row∈A.next,row.length=A.sets.length∧∀t∈row,0≤t∧t<(A.next.length:Int)
structure KQ(S:Nat→Prop)(H:Aa)(pb:Nat)(A:AM):Prop where
 own:S pb
 ok:A.Ok
 rep:∃ac cc an cn af cf aa ca al,Blk H pb 109 (BM (.slice ac A.sets.length cc) A.cell (.slice an A.next.length cn) (.slice af A.final.length cf) (.slice aa al.length ca))∧
  SlD Dz S H ac cc A.sets∧SlD GP S H an cn A.next∧SlD A1 S H af cf A.final∧SlD A1 S H aa ca al∧al.length=A.next.length∧∀q:Nat,q<A.next.length→(al[q]? =some true↔GK A.next A.final q)
theorem KQ.frame{S:Nat→Prop}{H H':Aa}{pb:Nat}{A:AM}(h:KQ S H pb A)(k:Agr S H H'):KQ S H' pb A:=by
 obtain⟨h1,h2,ac,cc,an,cn,af,cf,aa,ca,al,h3,h4,h5,h6,h7,h8⟩:=h;exact⟨h1,h2,ac,cc,an,cn,af,cf,aa,ca,al,h3.agr k h1,h4.frame k,h5.frame k,h6.frame k,h7.frame k,h8⟩
theorem KQ.mono{S S':Nat→Prop}{H:Aa}{pb:Nat}{A:AM}(h:KQ S H pb A)(k:∀b,S b→S' b):KQ S' H pb A:=by
 obtain⟨h1,h2,ac,cc,an,cn,af,cf,aa,ca,al,h3,h4,h5,h6,h7,h8⟩:=h;exact⟨k _ h1,h2,ac,cc,an,cn,af,cf,aa,ca,al,h3,h4.mono k,h5.mono k,h6.mono k,h7.mono k,h8⟩
def Db(S:Nat→Prop)(H:Aa)(v:Value):Option AM→Prop
 | none=>v= .pointer none
 | some A=>∃pb,v= .pointer (some ⟨pb,0,none⟩)∧KQ S H pb A
theorem Db.frame{S:Nat→Prop}{H H':Aa}{v:Value}{o:Option AM}(h:Db S H v o)(k:Agr S H H'):Db S H' v o:=by
 cases o with
 | none=>exact h
 | some A=>obtain⟨pb,h1,h2⟩:=h;exact⟨pb,h1,h2.frame k⟩
theorem Db.mono{S S':Nat→Prop}{H:Aa}{v:Value}{o:Option AM}(h:Db S H v o)(k:∀b,S b→S' b):Db S' H v o:=by
 cases o with
 | none=>exact h
 | some A=>obtain⟨pb,h1,h2⟩:=h;exact⟨pb,h1,h2.mono k⟩
theorem U2{cells:List (BitVec 256)}{next:List (List Int)}{final:List Bool}(h:BK cells next final.length=true):(Dp cells next final).Ok:=by
 obtain⟨n1,n2,n3,hrows⟩:=FF h;have hm:=HH (next:=next) (sp:=fun b=>AE b b) (fun b hb=>(DV h hb).1) 256 (AaD _);have hlen:=hm.len;have hle:=hm.le;have hce:=hm.cell;refine⟨by simpa [Dp]using n1,by simpa [Dp]using n2,by simp [Dp,n3],?_,?_,?_,?_⟩
 ·exact hce
 ·intro p hp;have:=hm.places p hp;simp only [Dp];omega
 ·simp only [Dp];omega
 ·intro row hrow;simp only [Dp,AbU]at hrow;obtain⟨r,hr,rfl⟩:=hrow;refine⟨by simp only [Fq,Dp,AaC];omega,fun t ht=>?_⟩;obtain⟨c,hc,rfl⟩:=AbU.1 ht;have hc':=hm.cols c hc;have:=hrows r hr;simp only [Dp,AaC];rw [AaJ,AbD (by omega),AbX];exact this.2 _ (List.getElem_mem _)
theorem Xi(ca na fa:Option Addr)(cc nc fc:Nat)(cells:List (BitVec 256))(next:List (List Int))(final:List Bool)(S:Nat→Prop)(H:Aa)(hS:∀k,S k→k<H.size)
  (hc:SlD Dz S H ca cc cells) (hn:SlD GP S H na nc next) (hf:SlD A1 S H fa fc final):
  Al Tryz.prog 51 #[.slice ca cells.length cc,.slice na next.length nc,.slice fa final.length fc] H fun v H'=>
   Agr (Old H) H H'∧H.size≤H'.size∧Db (fun k=>H.size≤k∧k<H'.size) H' v (if BK cells next final.length then some (Dp cells next final)else none):=by
 have lf:=hf.le;unfold maxLen at lf;refine Al.of_vc Tryz.func51 rfl (Tryz.call51 _) (Ao (WB ca na fa cc nc fc final.length cells next S H hS hc hn (by omega)) fun H1 ha1=>?_);have hs1:H.size≤H1.size:=by
  rcases Nat.eq_zero_or_pos H.size with h | h
  ·omega
  ·have:=As ha1 (k:=H.size - 1) (by unfold Old;omega);omega
 refine AB.mk (fun h=>?_) (fun h=>?_)
 ·(conv=>whnf);have hb:BK cells next final.length=false:=by simpa using h
  rw [hb];exact⟨ha1,hs1,rfl⟩
 ·have hb:BK cells next final.length=true:=by simpa using h
  rw [hb];obtain⟨n1,n2,n3,hrows⟩:=FF hb;refine Pz (T:=A1) (S:=S) (lo:=H1.size) (xs:=[]) Cs QJ SlO.nil (AaD _) (fun k hk=>⟨by have:=hS k hk;omega,?_⟩) (hf.frame (ha1.mono hS)) (by simp only [maxLen,AaF];omega) (by simp only [AaF];omega) ?_
  ·rintro⟨o,n,c,h⟩;cases h
  intro v2 H2 hown2 ha2 hs2 _;rw [List.nil_append]at hown2;have hown2':SlO A1 (fun _=>False) H2 H1.size 4 v2 final:=hown2.free QI;obtain⟨af,capf,rfl,hfin,-⟩:=hown2'.view (S':=fun k=>H1.size≤k∧k<H2.size) (fun k hk=>hown2.lt hk) (fun k hk=>hk.elim);refine A6 rfl rfl _ rfl (BM (.slice none 0 0) [] (.slice none 0 0) (.slice af final.length capf) (.slice none 0 0)) (by rfl) (B0 (BM (.slice none 0 0) [] (.slice none 0 0) (.slice af final.length capf) (.slice none 0 0)) rfl ?_);intro pb H3 hpb hs3 hb3 ha3;have hsz2:H2.size=pb:=by omega
  have hsO:∀k,Old H k→k<H1.size:=fun k hk=>by unfold Old at hk;omega
  have hA3:Agr (fun k=>k<H.size) H H3:=(ha1.trans (ha2.mono fun k hk=>⟨hsO k hk,fun hb=>by obtain⟨o,n,c,h⟩:=hb;cases h⟩)).trans (ha3.mono fun k hk=>by unfold Old at hk;omega);have hSO:∀k,S k→k<H3.size∧k≠pb:=fun k hk=>by have:=hS k hk;omega
  refine Ag.mk (Wo pb (.slice af final.length capf) (.slice none 0 0) ca na cc nc cells next final.length S H3 hSO hb3 (hc.frame (hA3.mono hS)) (hn.frame (hA3.mono hS)) hb) ?_;rintro v4 H4 ⟨ha4,hs4,ac,capc,an,capn,hb4,hsets,hrows4⟩;have hfin3:SlD A1 (fun k=>H1.size≤k∧k<H2.size) H4 af capf final:=(hfin.frame (ha3.mono fun k hk=>by omega)).frame (ha4.mono fun k hk=>by omega);have hmok:=U2 hb;(conv=>whnf);refine Ag.mk (Yo pb (.slice ac (Cp next cells (fun b=>AE b b) 256).sets.length capc) (.slice none 0 0) (Cp next cells (fun b=>AE b b) 256).cell an af capn capf (next.map (Fq (Cp next cells (fun b=>AE b b) 256).cols)) final
   (fun k=>H1.size≤k∧k<H4.size∧k≠pb) H4 (fun k hk=>by omega) (by rw [AaC];exact hb4) (AaU hmok.cell) (hrows4.mono fun k hk=>by omega) (hfin3.mono fun k hk=>by omega)
   (by simpa using n2) (by simp [n3]) (fun row hrow=>?_)) ?_
  ·have:=hmok.rows row hrow;have h2:=hmok.sl;exact⟨by omega,this.2⟩
  rintro v5 H5 ⟨ha5,hs5,al,aa,capa,hall,hlive,hb5,hal⟩;(conv=>whnf);refine⟨?_,by omega,pb,rfl,⟨by omega,by omega⟩,hmok,ac,capc,an,capn,af,capf,aa,capa,al,hb5,?_,?_,?_,?_,hall,hlive⟩
  ·exact(hA3.trans (ha4.mono fun k hk=>by omega)).trans (ha5.mono fun k hk=>by omega)
  ·exact(hsets.frame (ha5.mono fun k hk=>by omega)).mono fun k hk=>by omega
  ·exact(hrows4.frame (ha5.mono fun k hk=>by omega)).mono fun k hk=>by omega
  ·exact(hfin3.frame (ha5.mono fun k hk=>by omega)).mono fun k hk=>by omega
  ·exact hal.mono fun k hk=>by omega
def stN:Option AM→Nat
 | none=>1
 | some A=>A.next.length
theorem Kr:Tryz.prog.underlying 23=some (.pointer 109):=rfl
theorem LS{S:Nat→Prop}{H:Aa}{v:Value}{o:Option AM}(h:Db S H v o):B8 Tryz.prog 16 #[v] H (.int .i64 (stN o:Int)):=by
 cases o with
 | none=>
   obtain rfl:=h;refine Al.of_vc Tryz.func16 rfl (Tryz.call16 _) (Wx Kr ?_);(conv=>whnf);exact⟨rfl,Agr.refl _ _⟩
 | some A=>
   obtain⟨pb,rfl,hown,hok,ac,cc,an,cn,af,cf,aa,ca,al,hb,hsets,hnext,hfin,hal,hall,hlive⟩:=h;have hcl:A.cell.length≤256:=AaU hok.cell;refine Al.of_vc Tryz.func16 rfl (Tryz.call16 _) (XR Kr (fa F5 ?_));refine ld1 DZ (by rw [hb.cell,Aa1];exact EW hcl) trivial ?_;(conv=>whnf);exact⟨rfl,Agr.refl _ _⟩
def HP:Option AM→Int→Bool
 | none,_=>false
 | some A,q=>decide (0≤q)&&(A.final[q.toNat]?).getD false
theorem Rs{S:Nat→Prop}{H:Aa}{v:Value}{o:Option AM}{q:Int}(h:Db S H v o):B8 Tryz.prog 50 #[v,.int .i64 q] H (.bool (HP o q)):=by
 cases o with
 | none=>
   obtain rfl:=h;refine Al.of_vc Tryz.func50 rfl (Tryz.call50 _) (Zc Kr ?_);(conv=>whnf);exact⟨rfl,Agr.refl _ _⟩
 | some A=>
   obtain⟨pb,rfl,hown,hok,ac,cc,an,cn,af,cf,aa,ca,al,hb,hsets,hnext,hfin,hal,hall,hlive⟩:=h;have hcl:A.cell.length≤256:=AaU hok.cell;have hfl:=hok.fl;have hn2:=hok.n2;refine Al.of_vc Tryz.func50 rfl (Tryz.call50 _) ?_;cases q with
   | negSucc n=>
     refine RP Kr ?_;(conv=>whnf);exact⟨rfl,Agr.refl _ _⟩
   | ofNat n=>
     refine RP Kr (fa Nk ?_);refine ld1 FM (by rw [hb.cell,Aa1];exact Jx hcl) trivial ?_;by_cases hnl:n<A.final.length
     ·obtain⟨f,hf⟩:=Ad hnl;have hd:decide (AbK n<(A.final.length:Int))=true:=decide_eq_true (by simpa using hnl);(conv=>whnf);rw [hd];refine fa Nk ?_;refine ld1 FM (by rw [hb.cell,Aa1];exact Jx hcl) trivial ?_;refine ixr Cs hfin hf rfl ?_;rintro b3 o3 cs3 hSb3 hcells3 rfl;refine ld1 ct4 hcells3.one trivial ?_;(conv=>whnf);exact⟨by simp [HP,hf],Agr.refl _ _⟩
     ·have hd:decide (AbK n<(A.final.length:Int))=false:=decide_eq_false (by simpa using hnl);(conv=>whnf);rw [hd];(conv=>whnf);exact⟨by simp [HP,AaO (Nat.le_of_not_lt hnl)],Agr.refl _ _⟩
theorem TA{cv nv fv av:Value}{cell:List Nat}{b c:Nat}(h:cell[b]? =some c):(BM cv cell nv fv av)[1+b]? =some (.int .u8 (c:Int)):=by
 have hlt:=(Aa2.1 h).1;unfold BM;rw [AaY,Nat.add_comm,AbH,Ab9,AaL (by simpa using hlt),AaN,h];rfl
def C4(o:Option AM)(q:Int)(b:Nat):Int:=
 if q<0∨(stN o:Int)≤q then -1 else match o with
  | none=>0
  | some A=>((A.next[q.toNat]?).getD []).getD (A.cell.getD b 0) 0
theorem Vh{S:Nat→Prop}{H:Aa}{v:Value}{o:Option AM}{q:Int}{b:Nat}(hS:∀k,S k→k<H.size)(h:Db S H v o)(hb8:b<256):
  B8 Tryz.prog 49 #[v,.int .i64 q,.int .u8 (b:Int)] H (.int .i64 (C4 o q b)):=by
 refine Al.of_vc Tryz.func49 rfl (Tryz.call49 _) ?_;cases q with
 | negSucc n=>
   have hd:decide (Int.negSucc n<0)=true:=decide_eq_true (AbS n);(conv=>whnf);rw [hd];(conv=>whnf);exact⟨by simp [C4,AbS],Agr.refl _ _⟩
 | ofNat n=>
   refine Ao (LS h) fun H1 ha1=>?_;have h1:=h.frame (ha1.mono hS);by_cases hn:stN o≤n
   ·have hd:decide ((stN o:Int)≤AbK n)=true:=decide_eq_true (by simpa using hn);(conv=>whnf);rw [hd];(conv=>whnf);exact⟨by simp [C4,hn],ha1⟩
   ·have hd:decide ((stN o:Int)≤AbK n)=false:=decide_eq_false (by simpa using hn);(conv=>whnf);rw [hd];have hst:∀x,x=(match o with | none=>(0:Int) | some A=>((A.next[n]?).getD []).getD (A.cell.getD b 0) 0)→C4 o (AbK n) b=x:=by
     intro x hx;subst hx;unfold C4;rw [if_neg (by simp;omega)];cases o<;>rfl
    cases o with
    | none=>
      obtain rfl:=h1;refine Wx Kr ?_;(conv=>whnf);exact⟨by rw [hst 0 rfl],ha1⟩
    | some A=>
      obtain⟨pb,rfl,hown,hok,ac,cc,an,cn,af,cf,aa,ca,al,hb,hsets,hnext,hfin,hal,hall,hlive⟩:=h1;have hcl:A.cell.length≤256:=AaU hok.cell;simp only [stN]at hn;obtain⟨row,hrow⟩:=Ad (l:=A.next) (k:=n) (by omega);obtain⟨c,hc⟩:=Ad (l:=A.cell) (k:=b) (by rw [hok.cell];exact hb8);have hrl:=(hok.rows row (Aa4 hrow)).1;have hcp:=hok.places c (Aa4 hc);obtain⟨t,ht⟩:=Ad (l:=row) (k:=c) (by omega);refine XR Kr (Ar.lex rfl (by kernel_rfl) (fa F5 ?_));refine ld1 DZ (by rw [hb.cell,Aa1];exact EW hcl) trivial ?_;refine ixr DH hnext hrow rfl ?_;rintro b2 o2 cs2 hSb2 hcells2 ⟨ra,rc,rfl,hr⟩;refine ld1 CW hcells2.one trivial (fa Rv (ixa WV (by omega) (by omega) ?_));refine ld1 (v:=.int .u8 (c:Int)) ct5 (by rw [hb.cell,show 0+1+(b:Int).toNat*1=1+b by omega];exact TA hc) trivial ?_;refine ixr AL hr ht rfl ?_;rintro b3 o3 cs3 hSb3 hcells3 ⟨rfl,-⟩;refine ld1 ct3 hcells3.one trivial ?_;(conv=>whnf);exact⟨by rw [hst t (by simp [hrow,hc,ht,AaJ])],ha1⟩
def Ku(o:Option AM)(s:ByteArray)(k:Nat):Int:=(s.data.toList.take k).foldl (fun q b=>C4 o q b.toNat) 0
theorem JP{o:Option AM}{s:ByteArray}{k:Nat}{b:UInt8}(h:s.data[k]? =some b):Ku o s (k+1)=C4 o (Ku o s k) b.toNat:=by
 unfold Ku;rw [Ac (x:=b) (by rw [Array.getElem?_toList];exact h),AaE];rfl
theorem strT:Tryz.prog.underlying 9=some .string:=rfl
theorem Lz{s:ByteArray}{k:Nat}(h:k<s.size):∃b,s.data[k]? =some b:=⟨s.data[k]'h,Array.getElem?_eq_getElem h⟩
def Fb(o:Option AM)(s:ByteArray):Bool:=HP o (Ku o s s.size)
theorem Jv{S:Nat→Prop}{H:Aa}{v:Value}{o:Option AM}{s:ByteArray}(hS:∀k,S k→k<H.size)(h:Db S H v o)(hs:s.size≤maxLen):
  B8 Tryz.prog 17 #[v,.string s] H (.bool (Fb o s)):=by
 unfold maxLen at hs;refine Al.of_vc Tryz.func17 rfl (Tryz.call17 _) ?_;(conv=>whnf);refine A3.mk [5,9] (fun k:Nat=>[.int .i64 (Ku o s k),.int .i64 k]) (fun k H2=>k≤s.size∧Agr (Old H) H H2) (fun k _=>s.size - k) ?_ ?_
 ·(conv=>whnf);exact⟨0,rfl,by omega,Agr.refl _ _⟩
 ·rintro k H2 junk ⟨hk,ha2⟩;have h2:=h.frame (ha2.mono hS);refine AB.mk (fun h=>?_) (fun h=>?_)<;>simp only [decide_eq_true_eq,decide_eq_false_iff_not]at h
  ·obtain⟨b,hb⟩:=Lz (s:=s) (k:=k) (by omega);refine Dg strT rfl hb (Ao (Vh (fun k hk=>As ha2 (hS k hk)) h2 (UInt8.toNat_lt b)) fun H3 ha3=>?_);(conv=>whnf);rw [w64 (x:=(k:Int)+1) (by omega) (by omega)];exact⟨rfl,k+1,by rw [JP hb];simp,⟨by omega,ha2.trans (ha3.mono fun k hk=>As ha2 hk)⟩,by omega⟩
  ·obtain rfl:k=s.size:=by omega
   refine Ao (Rs h2) fun H3 ha3=>?_;(conv=>whnf);exact⟨rfl,ha2.trans (ha3.mono fun k hk=>As ha2 hk)⟩
open Classical in
noncomputable def E8:Option AM→Int→Bool
 | none,_=>false
 | some A,q=>decide (GK A.next A.final q.toNat)
open Classical in
theorem T3{A:AM}{al:List Bool}(hall:al.length=A.next.length)(hlive:∀q:Nat,q<A.next.length→(al[q]? =some true↔GK A.next A.final q)){q:Nat}(h:q<A.next.length):al[q]? =some (E8 (some A) (q:Int)):=by
 obtain⟨f,hf⟩:=Ad (l:=al) (k:=q) (by omega);have:=hlive q h;rw [hf]at this ⊢
 congr 1
 simp only [E8,Aa7];cases f with
 | true=>exact(decide_eq_true (this.1 rfl)).symm
 | false=>exact(decide_eq_false fun hl=>by have:=this.2 hl;simp at this).symm
theorem VN{S:Nat→Prop}{H:Aa}{v:Value}{o:Option AM}(h:Db S H v o):B8 Tryz.prog 42 #[v] H (.bool (!E8 o 0)):=by
 refine Al.of_vc Tryz.func42 rfl (Tryz.call42 _) ?_;cases o with
 | none=>
   obtain rfl:=h;refine Wx Kr ?_;(conv=>whnf);exact⟨rfl,Agr.refl _ _⟩
 | some A=>
   obtain⟨pb,rfl,hown,hok,ac,cc,an,cn,af,cf,aa,ca,al,hb,hsets,hnext,hfin,hal,hall,hlive⟩:=h;have hcl:A.cell.length≤256:=AaU hok.cell;have hf:=T3 hall hlive (q:=0) hok.n1;refine XR Kr (fa IU ?_);refine ld1 FM (by rw [hb.cell,Aa1];exact Hz hcl) trivial ?_;refine ixr Cs hal hf rfl ?_;rintro b3 o3 cs3 hSb3 hcells3 rfl;refine ld1 ct4 hcells3.one trivial ?_;(conv=>whnf);exact⟨rfl,Agr.refl _ _⟩
theorem Pw{A:AM}(hok:A.Ok){q:Int}{b:Nat}(h0:0≤q)(h1:q<A.next.length)(hb:b<256):0≤C4 (some A) q b∧C4 (some A) q b<A.next.length:=by
 obtain⟨n,rfl⟩:=AbI h0;obtain⟨row,hrow⟩:=Ad (l:=A.next) (k:=n) (by omega);obtain⟨c,hc⟩:=Ad (l:=A.cell) (k:=b) (by rw [hok.cell];exact hb);have hrl:=hok.rows row (Aa4 hrow);have hcp:=hok.places c (Aa4 hc);obtain⟨t,ht⟩:=Ad (l:=row) (k:=c) (by omega);unfold C4;rw [if_neg (by simp [stN];omega)];simp only [Aa7,hrow,AaJ,hc,AbX,ht];exact hrl.2 t (Aa4 ht)
theorem LK{A:AM}(hok:A.Ok)(s:ByteArray):∀k,k≤s.size→0≤Ku (some A) s k∧Ku (some A) s k<A.next.length
 | 0,_=>⟨Int.le_refl _,by have:=hok.n1;simp only [Ku,Ab4,AaV];omega⟩
 | k+1,hk=>by
   obtain⟨b,hb⟩:=Lz (s:=s) (k:=k) (by omega);obtain⟨h0,h1⟩:=LK hok s k (by omega);rw [JP hb];exact Pw hok h0 h1 (UInt8.toNat_lt b)
end Go.Proofs.YtfbghcpdinlmcaaGreatDoor
namespace Go.Proofs.YtfbghcpdinlmcaaGreatDoor
open Go.VC
def Vm:AM:=Dp [AaI 256] [[1],[0]] [false,true]
theorem Tm:BK [AaI 256] [[1],[0]] 2=true:=by rfl
theorem Zp:stN (some Vm)=2:=rfl
theorem Zn:Fb (some Vm) ⟨#[97]⟩=true:=by kernel_rfl
theorem Yk:Fb (some Vm) ⟨#[97,98]⟩=false:=by kernel_rfl
attribute [local irreducible] Cp
theorem SlD.ofBlk{α:Type}{T:Ty α}{S:Nat→Prop}{H:Aa}{b n:Nat}{e:TypeId}{l:List Value}{xs:List α}(hb:Blk H b e l)(hS:S b)(hr:T.reps S H l xs)(hn:n=xs.length)(hm:n≤maxLen):SlD T S H (some ⟨b,0,none⟩) n xs:=
 SlD.intro hS (AaU hn.symm) hm (hb.cells (fun j v hv=>by rw [Aa1];exact hv)) hr
def Li:Option AM→List (BitVec 256)
 | none=>[AaI 256]
 | some A=>A.sets
def D9(H H':Aa)(k:Nat):Prop:=H.size≤k∧k<H'.size
theorem Zo(H:Aa):Al Tryz.prog 70 #[] H fun v' H'=>Agr (Old H) H H'∧H.size≤H'.size∧Db (D9 H H') H' v' (some Vm):=by
 refine Al.of_vc Tryz.func70 rfl (Tryz.call70 _) (Ao (Fu 0 255 (by decide) (by decide) H) fun H1 ha1=>?_);rw [IA];have hs1:=Bx ha1;refine A2 DU (Af (AaI 256)) rfl rfl (by decide) (by decide) ?_;intro b2 H2 hb2 hs2 hk2 ha2;refine A2 AL [.int .i64 1] rfl rfl (by decide) (by decide) ?_;intro b3 H3 hb3 hs3 hk3 ha3;refine A2 AL [.int .i64 0] rfl rfl (by decide) (by decide) ?_;intro b4 H4 hb4 hs4 hk4 ha4;refine Sh DH [.slice (some ⟨b3,0,none⟩) 1 1] [.slice (some ⟨b4,0,none⟩) 1 1] rfl rfl rfl rfl (by decide) (by decide) ?_;intro b5 H5 hb5 hs5 hk5 ha5;refine Sh Cs [.bool false] [.bool true] rfl rfl rfl rfl (by decide) (by decide) ?_;intro b6 H6 hb6 hs6 hk6 ha6;have hk5':=hk5.agr ha6 (show b5<b6 by omega);have hk4':=(hk4.agr ha5 (show b4<b5 by omega)).agr ha6 (show b4<b6 by omega);have hk3':=((hk3.agr ha4 (show b3<b4 by omega)).agr ha5 (show b3<b5 by omega)).agr ha6 (show b3<b6 by omega);have hk2':=(((hk2.agr ha3 (show b2<b3 by omega)).agr ha4 (show b2<b4 by omega)).agr ha5 (show b2<b5 by omega)).agr ha6 (show b2<b6 by omega);have hA6:Agr (Old H) H H6:=((((ha1.trans (ha2.mono fun k hk=>by unfold Old at hk;omega)).trans (ha3.mono fun k hk=>by unfold Old at hk;omega)).trans (ha4.mono fun k hk=>by unfold Old at hk;omega)).trans (ha5.mono fun k hk=>by unfold Old at hk;omega)).trans (ha6.mono fun k hk=>by unfold Old at hk;omega);have i1:SlD tI (D9 H H6) H6 (some ⟨b3,0,none⟩) 1 [1]:=SlD.ofBlk hk3' ⟨by omega,by omega⟩ (Ty.reps_one ⟨rfl,Bs (by decide)⟩) rfl (by decide);have i2:SlD tI (D9 H H6) H6 (some ⟨b4,0,none⟩) 1 [0]:=SlD.ofBlk hk4' ⟨by omega,by omega⟩ (Ty.reps_one ⟨rfl,Bs (by decide)⟩) rfl (by decide);(conv=>whnf);refine Ag.mk (Xi (some ⟨b2,0,none⟩) (some ⟨b5,0,none⟩) (some ⟨b6,0,none⟩) 1 2 2 [AaI 256] [[1],[0]] [false,true] (D9 H H6) H6 (fun k hk=>hk.2)
  (SlD.ofBlk hk2' ⟨by omega,by omega⟩ (Ty.reps_one rfl) rfl (by decide)) (SlD.ofBlk hk5' ⟨by omega,by omega⟩ ⟨[_],[_],rfl,⟨_,_,rfl,i1⟩,Ty.reps_one ⟨_,_,rfl,i2⟩⟩ rfl (by decide)) (SlD.ofBlk hk6 ⟨by omega,by omega⟩ ⟨[_],[_],rfl,rfl,Ty.reps_one rfl⟩ rfl (by decide))) ?_
 rintro v7 H7 ⟨ha7,hs7,hv7⟩;rw [show BK [AaI 256] [[1],[0]] [false,true].length=true from Tm]at hv7;(conv=>whnf);exact⟨hA6.trans (ha7.mono fun k hk=>by unfold Old at*;omega),by omega,hv7.mono fun k hk=>⟨by omega,hk.2⟩⟩
theorem Ps(H:Aa):B8 Tryz.prog 32 #[] H (.bool true):=by
 refine Al.of_vc Tryz.func32 rfl (Tryz.call32 _) (Ag.mk (Zo H) ?_);rintro v1 H1 ⟨ha1,hs1,pb,rfl,ha⟩;have hv:Db (D9 H H1) H1 (.pointer (some ⟨pb,0,none⟩)) (some Vm):=⟨pb,rfl,ha⟩;refine RP Kr (Ao (LS hv) fun H2 ha2=>?_);have hv2:=hv.frame (ha2.mono fun k hk=>hk.2);rw [Zp];refine Ao (Jv (fun k hk=>As ha2 hk.2) hv2 (by decide)) fun H3 ha3=>?_;have hv3:=hv2.frame (ha3.mono fun k hk=>As ha2 hk.2);rw [Zn];refine Ao (Jv (fun k hk=>As ha3 (As ha2 hk.2)) hv3 (by decide)) fun H4 ha4=>?_;rw [Yk];(conv=>whnf);exact⟨rfl,((ha1.trans (ha2.mono fun k hk=>As ha1 hk)).trans (ha3.mono fun k hk=>As ha2 (As ha1 hk))).trans (ha4.mono fun k hk=>As ha3 (As ha2 (As ha1 hk)))⟩
end Go.Proofs.YtfbghcpdinlmcaaGreatDoor
namespace Go.Proofs.YtfbghcpdinlmcaaGreatDoor
open Go.VC
attribute [local irreducible] Cp
end Go.Proofs.YtfbghcpdinlmcaaGreatDoor
