/- Parts of the proof: PAppI, PDet1, PDet2, PDTb, PDBk, PSound, PMerge, PWake, PNew, PAuto, PLaw5, PCellO -/
import Derived.Test.YtfbghcpdinlmcaaGreatDoorKDy2
import Derived.Test.YtfbghcpdinlmcaaGreatDoorKDy1
import Derived.Shelf.Strconv.AppendIntPublic10
import Derived.Test.YtfbghcpdinlmcaaGreatDoorKDy3
set_option maxHeartbeats 64000000
open BitVec renaming allOnes → Aas
open Bool renaming false_and → Aar, and_eq_true → AaO, and_false → AaW, true_and → Aba
open Int renaming toNat_natCast → Aah, eq_ofNat_of_zero_le → AaS, ofNat → AaU, negSucc_lt_zero → Abc
open List renaming length_singleton → Aaa, getElem?_eq_some_iff → Aac, mem_singleton → Aad, mem_of_getElem? → Aae, length_append → Aaf, replicate → Aag, getElem?_set_self → Aai, getElem?_set_ne → Aaj, mem_append → Aak, take_length → Aal, length_map → Aam, foldl_append → Aao, length_nil → Aap, length_cons → Aaq, getD_eq_getElem?_getD → Aat, mem_cons_of_mem → Aau, getElem?_append_left → Aav, foldl_cons → Aaw, getElem?_map → Aax, getElem?_eq_none → Aay, getElem?_append_right → Aaz, mem_cons_self → Aa2, length_filterMap_le → Aa3, foldl_nil → Aa5, getElem?_replicate → Aa6, cons_append → Aa8, mem_append_right → Aa9, take_append_drop → AaA, map_append → AaB, mem_append_left → AaC, length_take_le → AaD, take_zero → AaE, set_cons_succ → AaG, map_cons → AaH, flatMap_cons → AaI, append_assoc → AaJ, all_eq_false → AaK, getElem?_eq_none_iff → AaL, map_nil → AaM, getElem?_eq_getElem → AaN, getElem?_cons_zero → AaQ, getElem?_cons_succ → AaR, all_append → AaT, filterMap_append → AaV, set_append_right → AaX, mem_of_mem_take → AaY, findIdx?_append → AaZ, map_congr_left → Abb, map_map → Abd, mem_map → Abe, prefix_refl → Abg, count_cons → Abj, mem_cons → Abk
open Nat renaming zero_add → Aab, le_refl → Aan, mul_one → Aa0, le_of_eq → Aa4, zero_le → AaF, cast → AaP, le_trans → Abf
open Option renaming some → Aa1, bind_some → Aa7, getD_some → Abh, map_some → Abi
set_option linter.unusedVariables false
set_option linter.unusedSimpArgs false
set_option maxRecDepth 100000
namespace Go.VC
open Go.Lib Go.RowKit
abbrev UK:String:= "internal/strconv.uint64pow10"
def Ic(P:Program)(H:Aa):Prop:=∀w:World,w.heap=H→TabIs P w UK .u64 pow10Tab
theorem Sf{P:Program}{w w':World}{name:String}{cs:Array Value}(h:w.var? P name=some cs)(ha:Agr (Old w.heap) w.heap w'.heap):w'.var? P name=some cs:=by
 unfold World.var? at*
 cases hg:P.globalNamed name with
 | none=>simp [hg]at h
 | some g=>
   simp only [hg,Aa7]at h ⊢
   have hlt:g<w.heap.size:=by
    rcases Nat.lt_or_ge g w.heap.size with h' | h'
    ·exact h'
    ·rw [Array.getElem?_eq_none h']at h;simp at h
   rw [ha g hlt]
   exact h
theorem Ic.agr{P:Program}{H H':Aa}(h:Ic P H)(ha:Agr (Old H) H H'):Ic P H':=by
 intro w hw
 subst hw
 have:=h {w with heap:=H} rfl
 exact Sf (w:={w with heap:=H}) (w':=w) this ha
structure Tp(P:Program)(f:FuncId)(e:TypeId):Prop where
 call:∀(args:Array Value) (w:World),(callFunc f args).run P w= .ok (.enter f args) w
 run_:∀(B n:Nat) (i:Int) (sv:Value) (xs:List Value) (w:World),-9223372036854775808≤i→i≤9223372036854775807→w.ownsRow B e 1 sv n xs→B≤w.heap.size→n+21≤140737488355328→TabBelow P B w UK .u64 pow10Tab→
  Calls P f #[sv,.int .i64 i,.int .i64 10] w fun e' w'=>∃v',e'= .returned v'∧w'.ownsRow B e 1 v' (n+(itoa i).length) (xs++Go.Lib.byteCells (itoa i))∧Below B w w'∧OthersKept e none w w'
abbrev tU8:Ty Int:=HY .u8
def HT(i:Int):List Int:=(itoa i).map fun b=>(b.toNat:Int)
theorem TS(i:Int):(HT i).length=(itoa i).length:=Aam _
theorem NC{S:Nat→Prop}{H:Aa}:∀{xs:List Int} {cs:List Value},tU8.reps S H cs xs→cs=xs.map (Value.int .u8)∧∀x∈xs,inK .u8 x
 | [],_,h=>by cases h;exact⟨rfl,fun x hx=>by cases hx⟩
 | x::xs,_,h=>by
   obtain⟨c,r,rfl,⟨rfl,h1⟩,h2⟩:=h
   obtain⟨rfl,h3⟩:=NC h2
   refine⟨rfl,fun y hy=>?_⟩
   rcases Abk.1 hy with rfl | hy
   ·exact h1
   ·exact h3 y hy
theorem Sd{S:Nat→Prop}{H:Aa}:∀{xs:List Int},(∀x∈xs,inK .u8 x)→tU8.reps S H (xs.map (Value.int .u8)) xs
 | [],_=>rfl
 | x::xs,h=>⟨[.int .u8 x],xs.map (Value.int .u8),rfl,⟨rfl,h x (by simp)⟩,Sd fun y hy=>h y (by simp [hy])⟩
theorem PQ(i:Int):Go.Lib.byteCells (itoa i)=(HT i).map (Value.int .u8):=by
 unfold Go.Lib.byteCells HT
 rw [Abd]
 rfl
theorem YQ(b:UInt8):inK .u8 (b.toNat:Int):=Qg (UInt8.toNat_lt b)
theorem ZC{P:Program}{f:FuncId}{H0 H:Aa}{e:TypeId}{a:Option Addr}{n cap:Nat}{xs:List Int}{i:Int}{K:Value→Aa→Prop}(hf:Tp P f e)(st:St H0 H [pS tU8 e a n cap xs])(hpow:Ic P H0)(h0: -9223372036854775808≤i)(h1:i≤9223372036854775807)(hn:xs.length+21≤140737488355328)
  (k:∀a' cap' H',St H0 H' [pS tU8 e a' (xs++HT i).length cap' (xs++HT i)]→K (.slice a' (xs++HT i).length cap') H'):Ag P f #[.slice a n cap,.int .i64 i,.int .i64 10] H K:=by
 obtain⟨hown,-⟩:=st.at_ 0 rfl
 obtain⟨cs,⟨hcl,hcase⟩,hreps⟩:=hown
 obtain⟨rfl,hrng⟩:=NC hreps
 refine⟨fun w hw=>⟨hf.call _ w,?_⟩⟩
 subst hw
 have hnl:n=xs.length:=by
  rcases hcase with⟨he,hn0⟩ | ⟨b,c,l,he,-⟩
  ·injection he with e1 e2 e3;omega
  ·injection he
 have hrow:w.ownsRow H0.size e 1 (.slice a n cap) xs.length (xs.map (Value.int .u8)):=by
  refine⟨by rw [Aam,Aa0],?_⟩
  rcases hcase with⟨he,hn0⟩ | ⟨b,c,l,he,-,hb,hnc,hcm,hll,htk⟩
  ·exact .inl ⟨he,hn0⟩
  ·have hge:H0.size≤b:=by
    have:=(st.in_ 0 rfl (k:=b) (.inl ⟨0,n,cap,by rw [he];injection he with e1 e2 e3;subst e1;subst e2;subst e3;rfl⟩)).1
    unfold Old at this
    omega
   exact .inr ⟨b,c,l.toArray,he,hge,hb,hnc,hcm,by rw [List.size_toArray];exact hll,htk⟩
 have htab:TabBelow P H0.size w UK .u64 pow10Tab:=fun w' hb=>(hpow.agr (st.old.trans (show Agr (Old H0) w.heap w'.heap from fun j hj=>hb.block j hj))) w' rfl
 refine(hf.run_ H0.size xs.length i _ _ w h0 h1 hrow (Bx st.old) hn htab).mono ?_
 rintro _ w' ⟨v',rfl,hown',hbel,-⟩
 obtain⟨hl',hc'⟩:=hown'
 have hlen:xs.length+(itoa i).length=(xs++HT i).length:=by rw [Aaf,TS]
 rw [hlen]at hc' hl'
 have hag:Agr (Old H0) H0 w'.heap:=st.old.trans (show Agr (Old H0) w.heap w'.heap from fun j hj=>hbel.block j hj)
 have hreps':tU8.reps none_ w'.heap (xs.map (Value.int .u8)++Go.Lib.byteCells (itoa i)) (xs++HT i):=by
  rw [PQ,←AaB]
  refine Sd fun x hx=>?_
  rcases Aak.1 hx with hx | hx
  ·exact hrng x hx
  ·obtain⟨b,-,rfl⟩:=Abe.1 hx
   exact YQ b
 have mk:∀a' cap',v'= .slice a' (xs++HT i).length cap'→SlO tU8 none_ w'.heap H0.size e v' (xs++HT i)→∃H',H'=w'.heap∧St H0 H' [pS tU8 e a' (xs++HT i).length cap' (xs++HT i)]:=fun a' cap' hv hs=>by
  subst hv
  refine⟨_,rfl,?_⟩
  obtain⟨a2,c2,e2,st2⟩:=(St.nil H0).got hag hs
  injection e2 with e21 e22 e23
  subst e21;subst e23
  exact st2
 have hs:SlO tU8 none_ w'.heap H0.size e v' (xs++HT i):=by
  refine⟨_,⟨hl',?_⟩,hreps'⟩
  rcases hc' with⟨he,hn0⟩ | ⟨b,c,l,he,hge,hb,hnc,hcm,hll,htk⟩
  ·exact .inl ⟨he,hn0⟩
  ·exact .inr ⟨b,c,l.toList,he,hge,hb,hnc,hcm,by rw [Array.length_toList];exact hll,htk⟩
 obtain⟨a',cap',rfl⟩:=hs.hull
 obtain⟨_,rfl,st'⟩:=mk a' cap' rfl hs
 exact⟨_,rfl,⟨hbel.os.symm ▸ rfl,hbel.tape.symm ▸ rfl,hbel.output.symm ▸ rfl⟩,k a' cap' _ st'⟩
end Go.VC
namespace Go.Proofs.YtfbghcpdinlmcaaGreatDoor
open Go.VC
def Nt:Go.Shelf.Ren:=⟨fun | 176=>141 | 249=>182 | 288=>208 | 283=>225 | 284=>226 | 285=>227 | 286=>228 | 129=>207 | 317=>236 | 318=>237 | 319=>238 | 320=>239 | 337=>243 | 338=>244 | n=>n,fun | 37=>201 | 2=>2 | 3=>3 | 53=>99 | 4=>4 | 9=>9 | 171=>350 | 0=>0 | 173=>352 | 212=>362 | 51=>332 | 5=>5 | 20=>20 | 213=>363 | 46=>218 | 232=>367 | 233=>368 | n=>n,fun | 17=>1 | 18=>3 | 19=>4 | n=>n⟩
theorem Uy:Go.Proofs.LaysM.n176 Tryz.prog Nt:={
 mixed:=by kernel_rfl
 f129:=Tryz.func207.trans (congrArg some (by kernel_rfl))
 f176:=Tryz.func141.trans (congrArg some (by kernel_rfl))
 f249:=Tryz.func182.trans (congrArg some (by kernel_rfl))
 f283:=Tryz.func225.trans (congrArg some (by kernel_rfl))
 f284:=Tryz.func226.trans (congrArg some (by kernel_rfl))
 f285:=Tryz.func227.trans (congrArg some (by kernel_rfl))
 f286:=Tryz.func228.trans (congrArg some (by kernel_rfl))
 f288:=Tryz.func208.trans (congrArg some (by kernel_rfl))
 f317:=Tryz.func236.trans (congrArg some (by kernel_rfl))
 f318:=Tryz.func237.trans (congrArg some (by kernel_rfl))
 f319:=Tryz.func238.trans (congrArg some (by kernel_rfl))
 f320:=Tryz.func239.trans (congrArg some (by kernel_rfl))
 f337:=Tryz.func243.trans (congrArg some (by kernel_rfl))
 f338:=Tryz.func244.trans (congrArg some (by kernel_rfl))
 t0:=Tryz.underlying0
 a0:=Tryz.isAgg0
 z0:=Tryz.sizeOf0
 v0:=Tryz.zeroValue0
 t2:=Tryz.underlying2
 a2:=Tryz.isAgg2
 z2:=Tryz.sizeOf2
 v2:=Tryz.zeroValue2
 t3:=Tryz.underlying3
 a3:=Tryz.isAgg3
 z3:=Tryz.sizeOf3
 v3:=Tryz.zeroValue3
 t4:=Tryz.underlying4
 a4:=Tryz.isAgg4
 z4:=Tryz.sizeOf4
 v4:=Tryz.zeroValue4
 t5:=Tryz.underlying5
 a5:=Tryz.isAgg5
 z5:=Tryz.sizeOf5
 v5:=Tryz.zeroValue5
 t9:=Tryz.underlying9
 a9:=Tryz.isAgg9
 z9:=Tryz.sizeOf9
 v9:=Tryz.zeroValue9
 t20:=Tryz.underlying20
 a20:=Tryz.isAgg20
 z20:=Tryz.sizeOf20
 v20:=Tryz.zeroValue20
 t37:=Tryz.underlying201
 a37:=Tryz.isAgg201
 z37:=Tryz.sizeOf201
 v37:=Tryz.zeroValue201
 t46:=Tryz.underlying218
 a46:=Tryz.isAgg218
 z46:=Tryz.sizeOf218
 v46:=Tryz.zeroValue218
 t51:=Tryz.underlying332
 a51:=Tryz.isAgg332
 z51:=Tryz.sizeOf332
 v51:=Tryz.zeroValue332
 t53:=Tryz.underlying99
 a53:=Tryz.isAgg99
 z53:=Tryz.sizeOf99
 v53:=Tryz.zeroValue99
 t171:=Tryz.underlying350
 a171:=Tryz.isAgg350
 z171:=Tryz.sizeOf350
 v171:=Tryz.zeroValue350
 t173:=Tryz.underlying352
 a173:=Tryz.isAgg352
 z173:=Tryz.sizeOf352
 v173:=Tryz.zeroValue352
 t212:=Tryz.underlying362
 a212:=Tryz.isAgg362
 z212:=Tryz.sizeOf362
 v212:=Tryz.zeroValue362
 t213:=Tryz.underlying363
 a213:=Tryz.isAgg363
 z213:=Tryz.sizeOf363
 t232:=Tryz.underlying367
 a232:=Tryz.isAgg367
 z232:=Tryz.sizeOf367
 v232:=Tryz.zeroValue367
 t233:=Tryz.underlying368
 a233:=Tryz.isAgg368
 z233:=Tryz.sizeOf368
 v233:=Tryz.zeroValue368
 g17:=by kernel_rfl
 g18:=by kernel_rfl
 g19:=by kernel_rfl
 i0:=by kernel_rfl
 i2:=by kernel_rfl
 i3:=by kernel_rfl
 i4:=by kernel_rfl
 i5:=by kernel_rfl
 i9:=by kernel_rfl
 i20:=by kernel_rfl
 i37:=by kernel_rfl
 i46:=by kernel_rfl
 i51:=by kernel_rfl
 i53:=by kernel_rfl
 i171:=by kernel_rfl
 i173:=by kernel_rfl
 i212:=by kernel_rfl
 i232:=by kernel_rfl
 i233:=by kernel_rfl
 m17:=by kernel_rfl
 m18:=by kernel_rfl
 m19:=by kernel_rfl}
theorem V7:Tp Tryz.prog 141 5 where
 call:=Tryz.call141
 run_ B n i sv xs w h0 h1 hown hB hlim htab:=Go.Proofs.Any.strconv_AppendInt_10 Uy B n i h0 h1 sv xs w hown hB hlim htab
def D4(q:Int):List Nat:=(Go.Lib.itoa q).map UInt8.toNat
theorem Xy(q:Int):HT q=(D4 q).map fun(x:Nat)=>(x:Int):=by
 unfold HT D4
 rw [Abd]
 rfl
def LW(n:Nat)(l:List Nat):Nat:=l.foldl (fun n b=>10*n+(b - 48)) n
theorem Oz(u:Nat):(∀b∈(Go.Lib.decDigits u).map UInt8.toNat,48≤b∧b≤57)∧LW 0 ((Go.Lib.decDigits u).map UInt8.toNat)=u:=by
 induction u using Nat.strongRecOn with
 | _ u ih=>
   rw [Go.Lib.decDigits]
   by_cases h:u<10
   ·rw [dif_pos h]
    have e:(UInt8.ofNat (48+u)).toNat=48+u:=by rw [UInt8.toNat_ofNat'];omega
    refine⟨fun b hb=>?_,?_⟩
    ·simp only [AaH,AaM,Aad,e]at hb;omega
    ·simp only [AaH,AaM,e,LW,Aaw,Aa5];omega
   ·rw [dif_neg h]
    obtain⟨h1,h2⟩:=ih (u / 10) (by omega)
    have e:(UInt8.ofNat (48+u % 10)).toNat=48+u % 10:=by rw [UInt8.toNat_ofNat'];omega
    refine⟨fun b hb=>?_,?_⟩
    ·rw [AaB,Aak]at hb
     rcases hb with hb | hb
     ·exact h1 b hb
     ·simp only [AaH,AaM,Aad,e]at hb;omega
    ·unfold LW at h2 ⊢
     rw [AaB,Aao,h2]
     simp only [AaH,AaM,e,Aaw,Aa5];omega
theorem Nf{q:Int}(h:0≤q):D4 q=(Go.Lib.decDigits q.toNat).map UInt8.toNat:=by
 unfold D4 Go.Lib.itoa
 rw [if_neg (by omega)]
theorem IV{q:Int}(h:0≤q):∀b∈D4 q,48≤b∧b≤57:=by rw [Nf h];exact(Oz _).1
theorem Rm{q:Int}(h:0≤q):(LW 0 (D4 q):Int)=q:=by rw [Nf h,(Oz _).2];omega
theorem Rh:∀(k u:Nat),u<10 ^ (k+1)→(Go.Lib.decDigits u).length≤k+1
 | 0,u,h=>by
   rw [Go.Lib.decDigits,dif_pos (by simpa using h)];simp
 | k+1,u,h=>by
   rw [Go.Lib.decDigits]
   by_cases h1:u<10
   ·rw [dif_pos h1];simp
   ·rw [dif_neg h1,Aaf]
    have:=Rh k (u / 10) (by rw [Nat.div_lt_iff_lt_mul (by decide)];rw [Nat.pow_succ]at h;omega)
    simp only [Aaq,Aap];omega
theorem Rl{q:Int}(h:0≤q∧q<65536):(D4 q).length≤5:=by
 rw [Nf h.1,Aam]
 exact Rh 4 _ (by omega)
theorem Vo:∀(l:List Nat) (n:Nat),(∀b∈l,48≤b)→n≤LW n l
 | [],n,_=>Aan _
 | b::l,n,h=>by
   have h1:=Vo l (10*n+(b - 48)) fun x hx=>h x (Aau _ hx)
   unfold LW at h1 ⊢
   rw [Aaw]
   omega
theorem WL{p r:List Nat}{q:Int}(h0:0≤q)(h:D4 q=p++r):(LW 0 p:Int)≤q:=by
 have h1:=IV h0
 have h2:=Rm h0
 rw [h]at h1 h2
 have h3:=Vo r (LW 0 p) fun b hb=>(h1 b (Aa9 _ hb)).1
 unfold LW at h2 h3 ⊢
 rw [Aao]at h2
 omega
def Bb(l:List Int):List Nat:=l.flatMap fun q=>D4 q++[44]
theorem L5(l:List Int)(q:Int):Bb (l++[q])=Bb l++D4 q++[44]:=by
 unfold Bb
 rw [List.flatMap_append]
 simp
theorem U8{l:List Int}(h:∀q∈l,0≤q∧q<65536):∀b∈Bb l,b<256:=by
 intro b hb
 obtain⟨q,hq,hb⟩:=List.mem_flatMap.1 hb
 rcases Aak.1 hb with hb | hb
 ·have:=IV (h q hq).1 b hb;omega
 ·rw [Aad]at hb;omega
theorem HM:∀{l:List Int},(∀q∈l,0≤q∧q<65536)→(Bb l).length≤l.length*6
 | [],_=>AaF _
 | q::l,h=>by
   have h1:=HM (l:=l) fun x hx=>h x (Aau _ hx)
   have h2:=Rl (h q (Aa2 ..))
   have h3:Bb (q::l)=(D4 q++[44])++Bb l:=by unfold Bb;rw [AaI]
   rw [h3]
   simp only [Aaf,Aaq,Aap]
   omega
def mst(s:List Int×Nat)(b:Nat):List Int×Nat:=if b=44 then(s.1++[(s.2:Int)],0)else(s.1,10*s.2+(b - 48))
theorem L4:∀(p:List Nat) (acc:List Int) (n:Nat),(∀b∈p,48≤b∧b≤57)→p.foldl mst (acc,n)=(acc,LW n p)
 | [],_,_,_=>rfl
 | b::p,acc,n,h=>by
   have hb:=h b (Aa2 ..)
   rw [Aaw,show mst (acc,n) b=(acc,10*n+(b - 48)) by unfold mst;rw [if_neg (by omega)],L4 p acc _ fun x hx=>h x (Aau _ hx)]
   rfl
theorem RE{q:Int}(h:0≤q)(acc:List Int):(D4 q++[44]).foldl mst (acc,0)=(acc++[q],0):=by
 rw [Aao,L4 _ _ _ (IV h)]
 show mst (acc,LW 0 (D4 q)) 44=_
 unfold mst
 rw [if_pos rfl]
 simp only [Rm h]
theorem KL:∀(l:List Int) (acc:List Int),(∀q∈l,0≤q)→(Bb l).foldl mst (acc,0)=(acc++l,0)
 | [],acc,_=>by simp [Bb]
 | q::l,acc,h=>by
   have h3:Bb (q::l)=(D4 q++[44])++Bb l:=by unfold Bb;rw [AaI]
   rw [h3,Aao,RE (h q (Aa2 ..)),KL l _ fun x hx=>h x (Aau _ hx)]
   simp
theorem U9{l m:List Int}(hl:∀q∈l,0≤q)(hm:∀q∈m,0≤q)(h:Bb l=Bb m):l=m:=by
 have h1:=KL l [] hl
 rw [h,KL m [] hm]at h1
 simpa using h1.symm
theorem RF:∀(l:List Int) (acc:List Int) (i:Nat),(∀q∈l,0≤q∧q<65536)→(((Bb l).take i).foldl mst (acc,0)).2<65536∧∃k,k≤l.length∧(((Bb l).take i).foldl mst (acc,0)).1=acc++l.take k
 | [],acc,i,_=>by simp [Bb]
 | q::l,acc,i,h=>by
   have hq:=h q (Aa2 ..)
   have h3:Bb (q::l)=(D4 q++[44])++Bb l:=by unfold Bb;rw [AaI]
   rw [h3]
   by_cases hi:i≤(D4 q).length
   ·have e:((D4 q++[44])++Bb l).take i=(D4 q).take i:=by
     rw [AaJ,List.take_append_of_le_length hi]
    rw [e,L4 _ _ _ fun b hb=>IV hq.1 b (AaY hb)]
    have:=WL hq.1 (AaA i (D4 q)).symm
    exact⟨by simp only;omega,0,AaF _,by simp⟩
   ·have e:((D4 q++[44])++Bb l).take i=(D4 q++[44])++(Bb l).take (i - (D4 q).length - 1):=by
     rw [List.take_append,List.take_of_length_le (by simp only [Aaf,Aaq,Aap];omega)]
     simp only [Aaf,Aaq,Aap]
     rw [show i - ((D4 q).length+(0+1))=i - (D4 q).length - 1 by omega]
    rw [e,Aao,RE hq.1]
    obtain⟨h1,k,hk,h2⟩:=RF l (acc++[q]) (i - (D4 q).length - 1) fun x hx=>h x (Aau _ hx)
    exact⟨h1,k+1,by simp only [Aaq];omega,by rw [h2];simp⟩
def nmB(l:List Int):ByteArray:=⟨((Bb l).map UInt8.ofNat).toArray⟩
theorem VF{l:List Nat}(h:∀x∈l,x<256):byN ⟨(l.map UInt8.ofNat).toArray⟩=l:=by
 unfold byN
 rw [Abd]
 refine(Abb fun x hx=>?_).trans (List.map_id _)
 show(UInt8.ofNat x).toNat=x
 rw [UInt8.toNat_ofNat']
 exact Nat.mod_eq_of_lt (h x hx)
theorem MX{l:List Int}(h:∀q∈l,0≤q∧q<65536):byN (nmB l)=Bb l:=VF (U8 h)
theorem Ws{l m:List Int}(hl:∀q∈l,0≤q∧q<65536)(hm:∀q∈m,0≤q∧q<65536)(h:nmB l=nmB m):l=m:=by
 have:=congrArg byN h
 rw [MX hl,MX hm]at this
 exact U9 (fun q hq=>(hl q hq).1) (fun q hq=>(hm q hq).1) this
theorem OS{l:List Int}(h:∀q∈l,0≤q∧q<65536):(nmB l).size=(Bb l).length:=by
 rw [←K1,MX h]
section
variable{K:Type} [DecidableEq K]
def atF(most:Nat)(f:List K)(k:K):Option (List K×Nat):=match f.findIdx? (·=k)with
 | some i=>some (f,i)
 | none=>if f.length<most then some (f++[k],f.length)else none
def DG(most:Nat)(step:K→Nat→K)(x:K)(s:Option (List K×List Nat))(b:Nat):Option (List K×List Nat):=
 s.bind fun p=>(atF most p.1 (step x b)).map fun r=>(r.1,p.2++[r.2])
def BI(most:Nat)(step:K→Nat→K)(bs:List Nat)(start:K):Nat→Option (List K×List (List Nat))
 | 0=>some ([start],[])
 | n+1=>(BI most step bs start n).bind fun p=>match p.1[n]? with
   | none=>some p
   | some x=>(bs.foldl (DG most step x) (some (p.1,[]))).map fun r=>(r.1,p.2++[r.2])
variable{most:Nat}{step:K→Nat→K}{bs:List Nat}{start:K}
theorem Gf(x:K):∀l:List Nat,l.foldl (DG most step x) none=none
 | []=>rfl
 | b::l=>by rw [Aaw];exact Gf x l
theorem Lc{f f':List K}{k:K}{i:Nat}(h:atF most f k=some (f',i))(hl:f.length≤most)(hn:f.Nodup):f'[i]? =some k∧f'.length≤most∧f'.Nodup∧f <+: f':=by
 unfold atF at h
 cases hf:f.findIdx? (·=k)with
 | some j=>
   rw [hf]at h
   injection h with h
   injection h with h1 h2
   subst h1;subst h2
   obtain⟨hj,h3,-⟩:=List.findIdx?_eq_some_iff_getElem.1 hf
   have h3:f[j]=k:=by simpa using h3
   exact⟨by rw [AaN hj,h3],hl,hn,Abg _⟩
 | none=>
   rw [hf]at h
   simp only at h
   split at h
   ·rename_i hlt
    injection h with h
    injection h with h1 h2
    subst h1;subst h2
    have hno:k∉f:=fun hk=>by
     have:=List.findIdx?_eq_none_iff.1 hf k hk
     simp at this
    refine⟨by simp,by simp only [Aaf,Aaq,Aap];omega,?_,List.prefix_append _ _⟩
    rw [List.nodup_append]
    exact⟨hn,by simp,fun a ha b hb=>by rw [Aad]at hb;subst hb;intro e;subst e;exact hno ha⟩
   ·cases h
omit [DecidableEq K]in
theorem Eu{f f':List K}{i:Nat}{k:K}(h:f <+: f')(hi:f[i]? =some k):f'[i]? =some k:=by
 obtain⟨t,rfl⟩:=h
 rw [Aav (Aac.1 hi).1]
 exact hi
structure PA(most:Nat)(step:K→Nat→K)(bs:List Nat)(start:K)(n:Nat)(f:List K)(rows:List (List Nat)):Prop where
 len:f.length≤most
 nd:f.Nodup
 zero:f[0]? =some start
 rl:rows.length=n
 cols:∀row∈rows,row.length=bs.length
 ok:∀(i k:Nat) (row:List Nat) (b t:Nat) (x:K),rows[i]? =some row→bs[k]? =some b→row[k]? =some t→f[i]? =some x→f[t]? =some (step x b)
theorem Qb{f:List K}{x:K}(hl:f.length≤most)(hn:f.Nodup):∀(k:Nat),k≤bs.length→∀(f':List K) (row:List Nat),(bs.take k).foldl (DG most step x) (some (f,[]))=some (f',row)→
  f'.length≤most∧f'.Nodup∧f <+: f'∧row.length=k∧∀(j b t:Nat),bs[j]? =some b→row[j]? =some t→f'[t]? =some (step x b):=by
 intro k
 induction k with
 | zero=>
   intro _ f' row h
   simp only [AaE,Aa5,Aa1.injEq,Prod.mk.injEq]at h
   obtain⟨rfl,rfl⟩:=h
   exact⟨hl,hn,Abg _,rfl,fun j b t _ h=>by simp at h⟩
 | succ k ih=>
   intro hk f' row h
   obtain⟨b,hb⟩:=Ad (l:=bs) (k:=k) (by omega)
   rw [Ac hb,Aao]at h
   cases hp:(bs.take k).foldl (DG most step x) (some (f,[]))with
   | none=>rw [hp]at h;cases h
   | some p=>
     obtain⟨f1,r1⟩:=p
     obtain⟨i1,i2,i3,i4,i5⟩:=ih (by omega) f1 r1 hp
     rw [hp]at h
     simp only [Aaw,Aa5,DG,Aa7]at h
     cases ha:atF most f1 (step x b)with
     | none=>rw [ha]at h;cases h
     | some r=>
       obtain⟨f2,t2⟩:=r
       rw [ha]at h
       simp only [Abi,Aa1.injEq,Prod.mk.injEq]at h
       obtain⟨rfl,rfl⟩:=h
       obtain⟨a1,a2,a3,a4⟩:=Lc ha i1 i2
       refine⟨a2,a3,i3.trans a4,by simp [i4],fun j c t hc ht=>?_⟩
       by_cases hj:j<k
       ·rw [Aav (by omega)]at ht
        exact Eu a4 (i5 j c t hc ht)
       ·have hjl:=(Aac.1 ht).1
        simp only [Aaf,Aaq,Aap]at hjl
        obtain rfl:j=k:=by omega
        rw [hb]at hc
        injection hc with hc
        subst hc
        rw [Aaz (by omega),i4,Nat.sub_self]at ht
        simp only [AaQ,Aa1.injEq]at ht
        subst ht
        exact a1
theorem Ka{f:List K}{x:K}(hl:f.length≤most)(hn:f.Nodup){f':List K}{row:List Nat}(h:bs.foldl (DG most step x) (some (f,[]))=some (f',row)):
  f'.length≤most∧f'.Nodup∧f <+: f'∧row.length=bs.length∧∀(j b t:Nat),bs[j]? =some b→row[j]? =some t→f'[t]? =some (step x b):=
 Qb hl hn bs.length (Aan _) f' row (by rw [Aal];exact h)
theorem Pf(hm:1≤most):∀(n:Nat) (f:List K) (rows:List (List Nat)),BI most step bs start n=some (f,rows)→(∀j,j<n→j<f.length)→PA most step bs start n f rows
 | 0,f,rows,h,_=>by
   simp only [BI,Aa1.injEq,Prod.mk.injEq]at h
   obtain⟨rfl,rfl⟩:=h
   exact⟨hm,by simp,rfl,rfl,(fun row h=>by cases h),fun i k row b t x h=>by simp at h⟩
 | n+1,f,rows,h,hlt=>by
   simp only [BI]at h
   cases hp:BI most step bs start n with
   | none=>rw [hp]at h;cases h
   | some p=>
     obtain⟨f1,rows1⟩:=p
     rw [hp]at h
     simp only [Aa7]at h
     cases hx:f1[n]? with
     | none=>
       rw [hx]at h
       simp only [Aa1.injEq,Prod.mk.injEq]at h
       obtain⟨rfl,rfl⟩:=h
       have:=hlt n (by omega)
       rw [AaL]at hx
       omega
     | some x=>
       rw [hx]at h
       simp only at h
       cases hr:bs.foldl (DG most step x) (some (f1,[]))with
       | none=>rw [hr]at h;cases h
       | some r=>
         obtain⟨f2,row⟩:=r
         rw [hr]at h
         simp only [Abi,Aa1.injEq,Prod.mk.injEq]at h
         obtain⟨rfl,rfl⟩:=h
         have hxl:=(Aac.1 hx).1
         have ih:=Pf hm n f1 rows1 hp fun j hj=>by omega
         obtain⟨g1,g2,g3,g4,g5⟩:=Ka ih.len ih.nd hr
         refine⟨g1,g2,Eu g3 ih.zero,by simp [ih.rl],fun r hr'=>?_,fun i k r b t y hi hk ht hy=>?_⟩
         ·rcases Aak.1 hr' with hr' | hr'
          ·exact ih.cols r hr'
          ·rw [Aad]at hr';subst hr';exact g4
         ·by_cases hin:i<n
          ·rw [Aav (by rw [ih.rl];exact hin)]at hi
           obtain⟨y1,hy1⟩:=Ad (l:=f1) (k:=i) (by omega)
           have:=Eu g3 hy1
           rw [hy]at this
           injection this with this
           subst this
           exact Eu g3 (ih.ok i k r b t y hi hk ht hy1)
          ·have hil:=(Aac.1 hi).1
           simp only [Aaf,Aaq,Aap,ih.rl]at hil
           obtain rfl:i=n:=by omega
           rw [Aaz (by rw [ih.rl];exact Aan _),ih.rl,Nat.sub_self]at hi
           simp only [AaQ,Aa1.injEq]at hi
           subst hi
           have:=Eu g3 hx
           rw [hy]at this
           injection this with this
           subst this
           exact g5 k b t hk ht
theorem LJ{n:Nat}{f:List K}{rows:List (List Nat)}(h:BI most step bs start n=some (f,rows))(hn:f.length≤n):∀m,n≤m→BI most step bs start m=some (f,rows):=by
 intro m hm
 induction m with
 | zero=>obtain rfl:n=0:=by omega
         exact h
 | succ m ih=>
   by_cases he:n=m+1
   ·subst he;exact h
   ·have:=ih (by omega)
    simp only [BI,this,Aa7]
    rw [Aay (by omega)]
theorem Q7{n:Nat}(h:BI most step bs start n=none):∀m,n≤m→BI most step bs start m=none:=by
 intro m hm
 induction m with
 | zero=>obtain rfl:n=0:=by omega
         exact h
 | succ m ih=>
   by_cases he:n=m+1
   ·subst he;exact h
   ·have:=ih (by omega)
    simp only [BI,this,Option.bind_none]
def FN(most:Nat)(step:K→Nat→K)(bs:List Nat)(start:K):Option (List K×List (List Nat)):=BI most step bs start most
theorem Mq{n:Nat}{f:List K}{rows:List (List Nat)}(h:BI most step bs start n=some (f,rows))(hn:f.length=n)(hl:f.length≤most):FN most step bs start=some (f,rows):=
 LJ h (by omega) most (by omega)
theorem Mr{n:Nat}(h:BI most step bs start (n+1)=none)(hn:n<most):FN most step bs start=none:=Q7 h most hn
end
end Go.Proofs.YtfbghcpdinlmcaaGreatDoor
namespace Go.VC
section
variable{α:Type}{T:Ty α}{e te:TypeId}{nb:Nat}{vs:List Value}{xs:List (List α)}{B:Nat→Prop}{H0 H H1:Aa}{ps:List Pc}
theorem T7{P:Program}{tt ty q by_ t cap2:Nat}{z:Value}{a:Option Addr}{n cap:Nat}{ds:List Value}{x:List α}{y:α}{K:Value→Aa→Prop}(st:StB B H0 H ps)(i:Nat)(ht:SlT P tt e T.size by_ z)(hp:ps[i]? =some (pT T e te nb vs xs))(hv:vs[t]? =some (.slice a n cap))(hx:xs[t]? =some x)
  (hd:Bi H q 0 ds) (hy:T.rep none_ H ds y) (hw:ds.all (·.oneCell')=true) (h63:x.length+1≤34359738368) (hby:by_≤1024)
  (k:∀a' cap' H1,Mid T B H0 H H1 ps i e te nb vs xs t (.slice a' (x.length+1) cap') (x++[y])→Agr (fun k=>k<H.size∧¬slB (.slice a n cap) k) H H1→K (.slice a' (x.length+1) cap') H1):By P (Builtin.append_ #[tt,tt] ty [.slice a n cap,.slice (some ⟨q,0,none⟩) 1 cap2].toArray) H K:=by
 have tab:=st.tab i hp
 have hown:=tab.own t _ _ hv hx
 refine BZ (T:=T) (S:=none_) (lo:=nb+1) (ys:=[y]) ht hown tab.blk.lt (fun k hk=>hk.elim) hd (Ty.reps_one hy) rfl (fun u hu=>List.all_eq_true.1 hw u hu) (by unfold maxLen;simp only [Aaa];omega) (by have:=Nat.mul_le_mul h63 hby;simp only [Aaa];omega) ?_
 intro v' H1 hown1 hagr hsz hfr
 obtain⟨a',cap',rfl⟩:=hown1.hull
 rw [Aaf,Aaa]at hown1 hfr ⊢
 exact k a' cap' H1 ⟨st,hp,hown1,⟨_,hv,hagr,hfr⟩,hsz⟩ hagr
theorem StB.rowNe(st:StB B H0 H ps)(i:Nat)(hp:ps[i]? =some (pT T e te nb vs xs)){t:Nat}{v:Value}{x:List α}(hv:vs[t]? =some v)(hx:xs[t]? =some x):¬slB v nb:=fun h=>by
 have hown:=(st.tab i hp).own t _ _ hv hx
 have:=(hown.lt h).1
 omega
end
end Go.VC
namespace Go.Proofs.YtfbghcpdinlmcaaGreatDoor
open Go.VC
section
variable{β:Type}
def grp(n:Nat)(key:EdM→Option (Nat×β))(l:List EdM):List (List β):=(List.range n).map fun q=>l.filterMap fun e=>(key e).bind fun p=>if p.1=q then some p.2 else none
theorem CJ(n:Nat)(key:EdM→Option (Nat×β))(l:List EdM):(grp n key l).length=n:=by simp [grp]
theorem EN{n q:Nat}(key:EdM→Option (Nat×β))(l:List EdM)(h:q<n):(grp n key l)[q]? =some (l.filterMap fun e=>(key e).bind fun p=>if p.1=q then some p.2 else none):=by
 unfold grp
 rw [Aax,List.getElem?_range h]
 rfl
theorem KI(n:Nat)(key:EdM→Option (Nat×β)):grp n key []=Aag n []:=by
 unfold grp
 simp [List.map_const']
theorem Dd{n:Nat}{key:EdM→Option (Nat×β)}{l:List EdM}{e:EdM}(h:key e=none):grp n key (l++[e])=grp n key l:=by
 unfold grp
 refine Abb fun q _=>?_
 rw [AaV]
 simp [h]
theorem Jg{n q:Nat}{key:EdM→Option (Nat×β)}{l:List EdM}{e:EdM}{y:β}{row:List β}(h:key e=some (q,y))(hr:(grp n key l)[q]? =some row):grp n key (l++[e])=(grp n key l).set q (row++[y]):=by
 have hq:q<n:=by have:=(Aac.1 hr).1;rwa [CJ]at this
 rw [EN key l hq]at hr
 injection hr with hr
 apply List.ext_getElem?
 intro j
 by_cases hj:j<n
 ·rw [EN key _ hj,AaV,List.getElem?_set,CJ,EN key _ hj]
  by_cases hjq:q=j
  ·subst hjq
   rw [if_pos rfl,if_pos hj,←hr]
   simp [h]
  ·rw [if_neg hjq]
   simp [h,hjq]
 ·rw [Aay (by rw [CJ];omega),Aay (by rw [List.length_set,CJ];omega)]
end
def AG(a:NfM):Nat:=if 0≤a.st∧a.st≤65536 then a.st.toNat else 0
theorem HO(a:NfM):AG a≤65536:=by unfold AG;split<;>omega
theorem Hf(a:NfM)(q:Int):a.has q=(decide (0≤q)&&decide (q<(AG a:Int))):=by
 rw [Bool.eq_iff_iff,NfM.has_iff]
 unfold AG
 simp only [AaO,decide_eq_true_eq]
 split<;>omega
def okE(a:NfM)(e:EdM):Bool:=a.has e.fr&&a.has e.to
def keyS(a:NfM)(e:EdM):Option (Nat×Int):=if okE a e&&e.sil then some (e.fr.toNat,e.to)else none
def I7(a:NfM)(e:EdM):Option (Nat×EdM):=if okE a e&& !e.sil then some (e.fr.toNat,e)else none
def XX(a:NfM):List (List Int):=grp (AG a) (keyS a) a.edges
def LV(a:NfM):List (List EdM):=grp (AG a) (I7 a) a.edges
abbrev tNt:TypeId:=172
def ntL(sv tv:Value)(n:Nat):List Value:=[sv,tv,.int .i64 (n:Int)]
def Kr(S:Nat→Prop)(H:Aa)(v:Value)(a:NfM):Prop:=∃nb sa sc ta tc,v= .pointer (some ⟨nb,0,none⟩)∧S nb∧Bi H nb 0 (ntL (.slice sa (AG a) sc) (.slice ta (AG a) tc) (AG a))∧SlD (tSl tIk) S H sa sc (XX a)∧SlD (tSl tEd) S H ta tc (LV a)
theorem Kr.frame{S:Nat→Prop}{H H':Aa}{v:Value}{a:NfM}(h:Kr S H v a)(k:Agr S H H'):Kr S H' v a:=by
 obtain⟨nb,sa,sc,ta,tc,h1,h2,h3,h4,h5⟩:=h
 exact⟨nb,sa,sc,ta,tc,h1,h2,h3.eq (k nb h2),h4.frame k,h5.frame k⟩
theorem Kr.mono{S S':Nat→Prop}{H:Aa}{v:Value}{a:NfM}(h:Kr S H v a)(k:∀i,S i→S' i):Kr S' H v a:=by
 obtain⟨nb,sa,sc,ta,tc,h1,h2,h3,h4,h5⟩:=h
 exact⟨nb,sa,sc,ta,tc,h1,k _ h2,h3,h4.mono k,h5.mono k⟩
theorem Qu{H:Aa}{nb:Nat}{sv tv:Value}{a:NfM}{q:Int}(h:Bi H nb 0 (ntL sv tv (AG a))):B8 Tryz.prog 88 #[.pointer (some ⟨nb,0,none⟩),.int .i64 q] H (.bool (a.has q)):=by
 refine Al.of_vc Tryz.func88 rfl (Tryz.call88 _) ?_
 by_cases h0:0≤q
 ·have d0:decide ((0:Int)≤q)=true:=decide_eq_true h0
  (conv=>whnf);rw [d0]
  (conv=>whnf);refine fa KF ?_
  (conv=>whnf);refine ld1 (v:=.int .i64 (AG a:Int)) ct3 (h 2 _ rfl) trivial ?_
  (conv=>whnf)
  exact⟨by rw [Hf,d0,Aba],Agr.refl _ _⟩
 ·have d0:decide ((0:Int)≤q)=false:=decide_eq_false h0
  (conv=>whnf);rw [d0]
  (conv=>whnf)
  exact⟨by rw [Hf,d0,Aar],Agr.refl _ _⟩
theorem ZN:(Tryz.prog.info? 172).bind (·.zero)=some (.agg #[.slice none 0 0,.slice none 0 0,.int .i64 0]):=rfl
theorem W2{S:Nat→Prop}{H:Aa}{v:Value}{a:NfM}(hS:∀k,S k→k<H.size)(h:NfV S H v a):
  Al Tryz.prog 87 #[v] H fun r H'=>Agr (Old H) H H'∧Kr (Old H') H' r a:=by
 have hr:=h.1
 have hl:=h.2.1
 refine Al.of_vc Tryz.func87 rfl (Tryz.call87 _) ?_
 (conv=>whnf);refine Qt h fun ea ec he0 h1=>?_
 subst he0
 intro p H1 hp hs1 hb1 ha1
 have st1:=(St.nil H).box hp hs1 hb1 ha1
 (conv=>whnf);refine A6 Tryz.underlying172 rfl _ ZN (ntL (.slice none 0 0) (.slice none 0 0) 0) rfl ?_
 (conv=>whnf);refine B0 (ntL (.slice none 0 0) (.slice none 0 0) 0) rfl ?_
 intro nb H2 hnb hs2 hb2 ha2
 have st2:=st1.box hnb hs2 hb2 ha2
 have hnle:=HO a
 obtain⟨n,hn⟩:∃n,n=AG a:=⟨_,rfl⟩
 rw [←hn]at hnle
 have hp2:=st2.blk 0 rfl
 have cond:∀c:Bool,c=(decide ((0:Int)≤a.st)&&decide (a.st≤65536))→(c=true→(n:Int)=a.st)∧(c=false→n=0):=by
  intro c hc
  rw [hc,hn]
  unfold AG
  constructor
  ·intro h
   simp only [AaO,decide_eq_true_eq]at h
   rw [if_pos h];omega
  ·intro h
   rw [if_neg fun h2=>by simp [h2.1,h2.2]at h]
 (conv=>whnf)
 refine Am.cut (α:=Unit) [] (fun _=>[]) (fun _ H3=>St H H3 [pB 76 p (nfL a (.slice ea a.edges.length ec)),pB tNt nb (ntL (.slice none 0 0) (.slice none 0 0) n)]) ?_ ?_
 ·(conv=>whnf);refine fa I4 ?_
  (conv=>whnf);refine ld1 (v:=.int .i64 a.st) ct3 (by rw [hp2.cell];rfl) trivial ?_
  by_cases h0:0≤a.st
  ·have d0:decide ((0:Int)≤a.st)=true:=decide_eq_true h0
   (conv=>whnf);rw [d0]
   (conv=>whnf);refine fa I4 ?_
   (conv=>whnf);refine ld1 (v:=.int .i64 a.st) ct3 (by rw [hp2.cell];rfl) trivial ?_
   by_cases h6:a.st≤65536
   ·have d6:decide (a.st≤(65536:Int))=true:=decide_eq_true h6
    have hns:(n:Int)=a.st:=(cond true (by rw [d0,d6];rfl)).1 rfl
    (conv=>whnf);rw [d6]
    (conv=>whnf);refine fa I4 ?_
    (conv=>whnf);refine ld1 (v:=.int .i64 a.st) ct3 (by rw [hp2.cell];rfl) trivial ?_
    (conv=>whnf);refine fa KF ?_
    (conv=>whnf);refine AT st2 1 ct3 rfl (show 2<3 by decide) rfl fun H3 st3=>?_
    refine⟨rfl,(),rfl,?_⟩
    unfold ntL
    rw [hns]
    exact st3
   ·have d6:decide (a.st≤(65536:Int))=false:=decide_eq_false h6
    obtain rfl:n=0:=(cond false (by rw [d0,d6];rfl)).2 rfl
    (conv=>whnf);rw [d6]
    (conv=>whnf)
    exact⟨rfl,(),rfl,st2⟩
  ·have d0:decide ((0:Int)≤a.st)=false:=decide_eq_false h0
   obtain rfl:n=0:=(cond false (by rw [d0];rfl)).2 rfl
   (conv=>whnf);rw [d0]
   (conv=>whnf)
   exact⟨rfl,(),rfl,st2⟩
 ·rintro⟨⟩ H3 junk3 st3
  (conv=>whnf);refine fa KF ?_
  (conv=>whnf);refine ld1 (v:=.int .i64 (n:Int)) ct3 (by rw [(st3.blk 1 rfl).cell];rfl) trivial ?_
  (conv=>whnf);refine Eo DH rfl (by omega) (by omega) (by omega) (by omega) ?_
  intro sb H4 hsb hs4 hb4 ha4
  rw [Aah]at hb4 ⊢
  have st4:=st3.tabNew tIk 3 hsb hs4 hb4 ha4
  (conv=>whnf);refine fa KE ?_
  (conv=>whnf);refine AT st4 1 DZ rfl (show 0<3 by decide) rfl fun H5 st5=>?_
  (conv=>whnf);refine fa KF ?_
  (conv=>whnf);refine ld1 (v:=.int .i64 (n:Int)) ct3 (by rw [(st5.blk 1 rfl).cell];rfl) trivial ?_
  (conv=>whnf);refine Eo Pp rfl (by omega) (by omega) (by omega) (by omega) ?_
  intro tb H6 htb hs6 hb6 ha6
  rw [Aah]at hb6 ⊢
  have st6:=st5.tabNew tEd 174 htb hs6 hb6 ha6
  (conv=>whnf);refine fa Ja ?_
  (conv=>whnf);refine AT st6 1 Ov rfl (show 1<3 by decide) rfl fun H7 st7=>?_
  have hp7:=st7.blk 0 rfl
  (conv=>whnf);refine fa Ly ?_
  (conv=>whnf);refine ld1 (v:=.slice ea a.edges.length ec) MZ (by rw [hp7.cell];rfl) trivial ?_
  (conv=>whnf)
  refine A3.mk [40] (fun i:Nat=>[.int .i64 (i:Int)]) (fun i H8=>i≤a.edges.length∧∃vs vt,St H H8 [pB 76 p (nfL a (.slice ea a.edges.length ec)),pB tNt nb (ntL (.slice (some ⟨sb,0,none⟩) n n) (.slice (some ⟨tb,0,none⟩) n n) n),pT tIk 3 41 sb vs (grp n (keyS a) (a.edges.take i)),pT tEd 174 74 tb vt (grp n (I7 a) (a.edges.take i))]) (fun i _=>a.edges.length - i) ?_ ?_
  ·(conv=>whnf)
   refine⟨0,rfl,AaF _,Aag n (.slice none 0 0),Aag n (.slice none 0 0),?_⟩
   rw [AaE,KI,KI]
   exact st7
  ·rintro i H8 junk8 ⟨hi,vs,vt,st8⟩
   (conv=>whnf);refine AB.mk (fun hz=>?_) (fun hz=>?_)<;>simp only [decide_eq_true_eq,decide_eq_false_iff_not]at hz
   ·obtain⟨e,he⟩:=Ad (l:=a.edges) (k:=i) (by omega)
    (conv=>whnf);refine Am.run ?_
    (conv=>whnf);refine ixr (i:=i) NK (h1.frame (st8.old.mono hS)) he rfl ?_
    rintro b6 o6 c6 hS6 hc6 ⟨rfl,hok⟩
    (conv=>whnf);refine ldN (cs:=edL e) QU hc6 trivial ?_
    (conv=>whnf);refine Ak _ [.int .i64 0,.int .i64 0,.bool false,.int .u64 0,.int .u64 0,.int .u64 0,.int .u64 0] Lp rfl ?_
    intro x H9 hx hs9 hb9 ha9
    have st9':=st8.box hx hs9 hb9 ha9
    (conv=>whnf);refine AI (cs:=edL e) st9' 4 rfl rfl (Aan _) rfl fun H10 st10=>?_
    rw [Ax (show(edL e).length=7 from rfl)]at st10
    clear st9' hs9 hb9 ha9
    obtain⟨H9,rfl⟩:∃H9,H9=H10:=⟨_,rfl⟩
    have st9:=st10
    have hX:=st9.blk 4 rfl
    have hcells:Bi H9 nb 0 (ntL (.slice (some ⟨sb,0,none⟩) n n) (.slice (some ⟨tb,0,none⟩) n n) (AG a)):=by
     rw [←hn];exact(st9.blk 1 rfl).cells fun j v hv=>by rw [Aab];exact hv
    (conv=>whnf);refine fa Jb ?_
    (conv=>whnf);refine ld1 (v:=.int .i64 e.fr) ct3 (by rw [hX.cell];rfl) trivial ?_
    (conv=>whnf);refine Ao (Qu hcells) fun H14 ha14=>?_
    have st14:=st9.call ha14
    cases hf:a.has e.fr with
    | false=>
      have k1:keyS a e=none:=by unfold keyS okE;rw [hf,Aar,Aar];rfl
      have k2:I7 a e=none:=by unfold I7 okE;rw [hf,Aar,Aar];rfl
      have g1:=Dd (n:=n) (l:=a.edges.take i) k1
      have g2:=Dd (n:=n) (l:=a.edges.take i) k2
      rw [←Ac he]at g1 g2
      (conv=>whnf);rw [w64 (x:=(i:Int)+1) (by omega) (by omega)]
      refine⟨rfl,i+1,by simp,⟨by omega,vs,vt,?_⟩,by omega⟩
      rw [g1,g2]
      exact st14.pick [0,1,2,3] (by decide)
    | true=>
      (conv=>whnf);refine fa Nl ?_
      (conv=>whnf);refine ld1 (v:=.int .i64 e.to) ct3 (by rw [(st14.blk 4 rfl).cell];rfl) trivial ?_
      (conv=>whnf);refine Ao (Qu (hcells.eq (ha14 nb (st9.in_ 1 rfl rfl).2))) fun Hq ha15=>?_
      have stq:=st14.call ha15
      cases ht:a.has e.to with
      | false=>
        have k1:keyS a e=none:=by unfold keyS okE;rw [hf,ht,AaW,Aar];rfl
        have k2:I7 a e=none:=by unfold I7 okE;rw [hf,ht,AaW,Aar];rfl
        have g1:=Dd (n:=n) (l:=a.edges.take i) k1
        have g2:=Dd (n:=n) (l:=a.edges.take i) k2
        rw [←Ac he]at g1 g2
        (conv=>whnf);rw [w64 (x:=(i:Int)+1) (by omega) (by omega)]
        refine⟨rfl,i+1,by simp,⟨by omega,vs,vt,?_⟩,by omega⟩
        rw [g1,g2]
        exact stq.pick [0,1,2,3] (by decide)
      | true=>
        have hfr:=NfM.has_iff.1 hf
        have hfn:0≤e.fr∧e.fr<(n:Int):=by
         have:=Hf a e.fr
         rw [hf,←hn]at this
         simpa using this.symm
        have htn:e.fr.toNat<n:=by omega
        (conv=>whnf);refine fa VY ?_
        (conv=>whnf);refine ld1 (v:=.bool e.sil) ct4 (by rw [(stq.blk 4 rfl).cell];rfl) trivial ?_
        cases hsl:e.sil with
        | true=>
          (conv=>whnf)
          obtain⟨row,hrow⟩:=Ad (l:=grp n (keyS a) (a.edges.take i)) (k:=e.fr.toNat) (by rw [CJ];omega)
          have hrl:row.length≤i:=by
           rw [EN _ _ (show e.fr.toNat<n by omega)]at hrow
           injection hrow with hrow
           rw [←hrow]
           exact Abf (Aa3 _ _) (AaD _ _)
          obtain⟨ra,rc,hvr,-⟩:=stq.row 2 rfl hrow
          have hne:=stq.rowNe 2 rfl hvr hrow
          have foot:∀k,slB (.slice ra row.length rc) k→(pT tIk 3 41 sb vs (grp n (keyS a) (a.edges.take i))).foot k:=fun k hk=>.inr ⟨e.fr.toNat,_,hvr,hk⟩
          have d1:=stq.apart2 (i:=1) (j:=2) rfl rfl (by decide)
          have d4:=stq.apart2 (i:=4) (j:=2) rfl rfl (by decide)
          have qn:nb<Hq.size∧¬slB (.slice ra row.length rc) nb:=⟨(stq.in_ 1 rfl rfl).2,fun h=>d1 nb rfl (foot nb h)⟩
          have qx:x<Hq.size∧¬slB (.slice ra row.length rc) x:=⟨(stq.in_ 4 rfl rfl).2,fun h=>d4 x rfl (foot x h)⟩
          have qt:sb<Hq.size∧¬slB (.slice ra row.length rc) sb:=⟨(stq.in_ 2 rfl (.inl rfl)).2,hne⟩
          have hbq:=stq.blk 1 rfl
          have hxq:=stq.blk 4 rfl
          (conv=>whnf);refine Ar.heldZ (fun k=>k<Hq.size∧¬slB (.slice ra row.length rc) k) [19] (sq [0,1,2,3,4,5,6,7,8,9,10,11,12,13,14,15] (.f 16 (.f 17 (sq [18] (.f 19 .e))))) rfl (by kernel_rfl) ?_
          (conv=>whnf);refine fa KE ?_
          (conv=>whnf);refine ld1 (v:=.slice (some ⟨sb,0,none⟩) n n) DZ (by rw [hbq.cell];rfl) qn ?_
          (conv=>whnf);refine fa Jb ?_
          (conv=>whnf);refine ld1 (v:=.int .i64 e.fr) ct3 (by rw [hxq.cell];rfl) qx ?_
          (conv=>whnf);refine fa KE ?_
          (conv=>whnf);refine ld1 (v:=.slice (some ⟨sb,0,none⟩) n n) DZ (by rw [hbq.cell];rfl) qn ?_
          (conv=>whnf);refine fa Jb ?_
          (conv=>whnf);refine ld1 (v:=.int .i64 e.fr) ct3 (by rw [hxq.cell];rfl) qx ?_
          (conv=>whnf);refine ix DH (by omega) (by omega) ?_
          (conv=>whnf);refine ld1 CW (stq.tcell 2 rfl hvr (by rw [Aab,Aa0])) qt ?_
          (conv=>whnf);refine fa Nl ?_
          (conv=>whnf);refine ld1 (v:=.int .i64 e.to) ct3 (by rw [hxq.cell];rfl) qx ?_
          (conv=>whnf);refine A2 AL [.int .i64 e.to] rfl rfl (by decide) (by decide) ?_
          intro q11 H11 hq11 hs11 hb11 ha11
          have st11:=stq.skip hq11 ha11
          refine⟨ha11.mono fun k hk=>by have:=hk.1;omega,?_⟩
          (conv=>whnf);refine T7 (ds:=[.int .i64 e.to]) (y:=e.to) st11 2 AL rfl hvr hrow (hb11.cells fun j v hv=>by rw [Aab];exact hv) ⟨rfl,hok.2⟩ rfl (by omega) (by decide) fun wa wc H12 mid ha12=>?_
          refine⟨(ha11.mono fun k hk=>by have:=hk.1;omega).trans (ha12.mono fun k hk=>⟨by have:=hk.1;omega,hk.2⟩),?_⟩
          (conv=>whnf);refine ix DH (by omega) (by omega) ?_
          (conv=>whnf);refine stT mid CW (by rw [Aab,Aa0]) fun H13 st13=>?_
          have hk1:keyS a e=some (e.fr.toNat,e.to):=by unfold keyS okE;rw [hf,ht,hsl];rfl
          have hk2:I7 a e=none:=by unfold I7 okE;rw [hf,ht,hsl];rfl
          have g1:=Jg hk1 hrow
          have g2:=Dd (n:=n) (l:=a.edges.take i) hk2
          rw [←Ac he]at g1 g2
          (conv=>whnf);rw [w64 (x:=(i:Int)+1) (by omega) (by omega)]
          refine⟨rfl,i+1,by simp,⟨by omega,vs.set e.fr.toNat (.slice wa (row.length+1) wc),vt,?_⟩,by omega⟩
          rw [g1,g2]
          exact st13.pick [0,1,2,3] (by decide)
        | false=>
          (conv=>whnf)
          obtain⟨row,hrow⟩:=Ad (l:=grp n (I7 a) (a.edges.take i)) (k:=e.fr.toNat) (by rw [CJ];omega)
          have hrl:row.length≤i:=by
           rw [EN _ _ (show e.fr.toNat<n by omega)]at hrow
           injection hrow with hrow
           rw [←hrow]
           exact Abf (Aa3 _ _) (AaD _ _)
          obtain⟨ra,rc,hvr,-⟩:=stq.row 3 rfl hrow
          have hne:=stq.rowNe 3 rfl hvr hrow
          have foot:∀k,slB (.slice ra row.length rc) k→(pT tEd 174 74 tb vt (grp n (I7 a) (a.edges.take i))).foot k:=fun k hk=>.inr ⟨e.fr.toNat,_,hvr,hk⟩
          have d1:=stq.apart2 (i:=1) (j:=3) rfl rfl (by decide)
          have d4:=stq.apart2 (i:=4) (j:=3) rfl rfl (by decide)
          have qn:nb<Hq.size∧¬slB (.slice ra row.length rc) nb:=⟨(stq.in_ 1 rfl rfl).2,fun h=>d1 nb rfl (foot nb h)⟩
          have qx:x<Hq.size∧¬slB (.slice ra row.length rc) x:=⟨(stq.in_ 4 rfl rfl).2,fun h=>d4 x rfl (foot x h)⟩
          have qt:tb<Hq.size∧¬slB (.slice ra row.length rc) tb:=⟨(stq.in_ 3 rfl (.inl rfl)).2,hne⟩
          have hbq:=stq.blk 1 rfl
          have hxq:=stq.blk 4 rfl
          (conv=>whnf);refine Ar.heldZ (fun k=>k<Hq.size∧¬slB (.slice ra row.length rc) k) [18] (sq [0,1,2,3,4,5,6,7,8,9,10,11,12,13,14] (.f 15 (.f 16 (sq [17] (.f 18 .e))))) rfl (by kernel_rfl) ?_
          (conv=>whnf);refine fa Ja ?_
          (conv=>whnf);refine ld1 (v:=.slice (some ⟨tb,0,none⟩) n n) Ov (by rw [hbq.cell];rfl) qn ?_
          (conv=>whnf);refine fa Jb ?_
          (conv=>whnf);refine ld1 (v:=.int .i64 e.fr) ct3 (by rw [hxq.cell];rfl) qx ?_
          (conv=>whnf);refine fa Ja ?_
          (conv=>whnf);refine ld1 (v:=.slice (some ⟨tb,0,none⟩) n n) Ov (by rw [hbq.cell];rfl) qn ?_
          (conv=>whnf);refine fa Jb ?_
          (conv=>whnf);refine ld1 (v:=.int .i64 e.fr) ct3 (by rw [hxq.cell];rfl) qx ?_
          (conv=>whnf);refine ix Pp (by omega) (by omega) ?_
          (conv=>whnf);refine ld1 MZ (stq.tcell 3 rfl hvr (by rw [Aab,Aa0])) qt ?_
          (conv=>whnf);refine ldN (cs:=edL e) QU (hxq.cells fun j v hv=>by rw [Aab];exact hv) qx ?_
          (conv=>whnf);refine A2 NK (edL e) rfl rfl (by decide) (by decide) ?_
          intro q11 H11 hq11 hs11 hb11 ha11
          have st11:=stq.skip hq11 ha11
          refine⟨ha11.mono fun k hk=>by have:=hk.1;omega,?_⟩
          (conv=>whnf);refine T7 (ds:=edL e) (y:=e) st11 3 NK rfl hvr hrow (hb11.cells fun j v hv=>by rw [Aab];exact hv) ⟨rfl,hok⟩ (Ng e) (by omega) (by decide) fun wa wc H12 mid ha12=>?_
          refine⟨(ha11.mono fun k hk=>by have:=hk.1;omega).trans (ha12.mono fun k hk=>⟨by have:=hk.1;omega,hk.2⟩),?_⟩
          (conv=>whnf);refine ix Pp (by omega) (by omega) ?_
          (conv=>whnf);refine stT mid MZ (by rw [Aab,Aa0]) fun H13 st13=>?_
          have hk1:I7 a e=some (e.fr.toNat,e):=by unfold I7 okE;rw [hf,ht,hsl];rfl
          have hk2:keyS a e=none:=by unfold keyS okE;rw [hf,ht,hsl];rfl
          have g1:=Jg hk1 hrow
          have g2:=Dd (n:=n) (l:=a.edges.take i) hk2
          rw [←Ac he]at g1 g2
          (conv=>whnf);rw [w64 (x:=(i:Int)+1) (by omega) (by omega)]
          refine⟨rfl,i+1,by simp,⟨by omega,vs,vt.set e.fr.toNat (.slice wa (row.length+1) wc),?_⟩,by omega⟩
          rw [g1,g2]
          exact st13.pick [0,1,2,3] (by decide)
   ·obtain rfl:i=a.edges.length:=by omega
    rw [Aal]at st8
    (conv=>whnf)
    refine⟨st8.old,nb,some ⟨sb,0,none⟩,n,some ⟨tb,0,none⟩,n,rfl,(st8.in_ 1 rfl rfl).2,?_,?_,?_⟩
    ·rw [←hn];exact(st8.blk 1 rfl).cells fun j v hv=>by rw [Aab];exact hv
    ·have:=st8.tview 2 rfl (by rw [CJ];unfold maxLen;omega)
     unfold XX
     rw [←hn]
     rw [CJ]at this
     exact this
    ·have:=st8.tview 3 rfl (by rw [CJ];unfold maxLen;omega)
     unfold LV
     rw [←hn]
     rw [CJ]at this
     exact this
def Hi(a:NfM)(e:EdM):Option (Nat×EdM):=if okE a e then some (e.fr.toNat,e)else none
abbrev tTb:TypeId:=193
def tbL(n:Nat)(ov mv:Value):List Value:=[.int .i64 (n:Int),ov,mv]
theorem tb_z:(Tryz.prog.info? 193).bind (·.zero)=some (.agg #[.int .i64 0,.slice none 0 0,.slice none 0 0]):=rfl
def Zm(nb tb:Nat)(n:Nat)(ma:Option Addr)(mc:Nat)(vt:List Value)(rows:List (List EdM))(OM:List Bool):List Pc:=
 [pB tTb nb (tbL n (.slice (some ⟨tb,0,none⟩) n n) (.slice ma n mc)),pT Cz 185 79 tb vt rows,pS A1 4 ma n mc OM]
theorem Mm{S:Nat→Prop}{H:Aa}:∀xs:List Bool,A1.reps S H (xs.map Value.bool) xs
 | []=>rfl
 | x::xs=>⟨[.bool x],xs.map Value.bool,rfl,rfl,Mm xs⟩
theorem Vk{S:Nat→Prop}{H:Aa}{v:Value}{a:NfM}(hS:∀k,S k→k<H.size)(h:NdV S H v a):
  Al Tryz.prog 97 #[v] H fun r H'=>∃nb tb ma mc vt,r= .pointer (some ⟨nb,0,none⟩)∧St H H' (Zm nb tb (AG a) ma mc vt (grp (AG a) (Hi a) a.edges) (Aag (AG a) false)):=by
 have hr:=h.1
 have hl:=h.2.1
 refine Al.of_vc Tryz.func97 rfl (Tryz.call97 _) ?_
 (conv=>whnf);refine Qr h fun ea ec he0 h1=>?_
 subst he0
 intro p H1 hp hs1 hb1 ha1
 have st1:=(St.nil H).box hp hs1 hb1 ha1
 (conv=>whnf);refine A6 Tryz.underlying193 rfl _ tb_z (tbL 0 (.slice none 0 0) (.slice none 0 0)) rfl ?_
 (conv=>whnf);refine B0 (tbL 0 (.slice none 0 0) (.slice none 0 0)) rfl ?_
 intro nb H2 hnb hs2 hb2 ha2
 have st2:=st1.box hnb hs2 hb2 ha2
 have hnle:=HO a
 obtain⟨n,hn⟩:∃n,n=AG a:=⟨_,rfl⟩
 rw [←hn]at hnle
 have hp2:=st2.blk 0 rfl
 have cond:∀c:Bool,c=(decide ((0:Int)<a.st)&&decide (a.st≤65536))→(c=true→(n:Int)=a.st)∧(c=false→n=0):=by
  intro c hc
  rw [hc,hn]
  unfold AG
  constructor
  ·intro h
   simp only [AaO,decide_eq_true_eq]at h
   rw [if_pos ⟨by omega,h.2⟩];omega
  ·intro h
   by_cases h0:0<a.st
   ·rw [if_neg fun h2=>by simp [h0,h2.2]at h]
   ·split<;>omega
 (conv=>whnf)
 refine Am.cut (α:=Unit) [] (fun _=>[]) (fun _ H3=>St H H3 [pB 81 p (nfL a (.slice ea a.edges.length ec)),pB tTb nb (tbL n (.slice none 0 0) (.slice none 0 0))]) ?_ ?_
 ·(conv=>whnf);refine fa Ck ?_
  (conv=>whnf);refine ld1 (v:=.int .i64 a.st) ct3 (by rw [hp2.cell];rfl) trivial ?_
  by_cases h0:0<a.st
  ·have d0:decide ((0:Int)<a.st)=true:=decide_eq_true h0
   (conv=>whnf);rw [d0]
   (conv=>whnf);refine fa Ck ?_
   (conv=>whnf);refine ld1 (v:=.int .i64 a.st) ct3 (by rw [hp2.cell];rfl) trivial ?_
   by_cases h6:a.st≤65536
   ·have d6:decide (a.st≤(65536:Int))=true:=decide_eq_true h6
    have hns:(n:Int)=a.st:=(cond true (by rw [d0,d6];rfl)).1 rfl
    (conv=>whnf);rw [d6]
    (conv=>whnf);refine fa Ck ?_
    (conv=>whnf);refine ld1 (v:=.int .i64 a.st) ct3 (by rw [hp2.cell];rfl) trivial ?_
    (conv=>whnf);refine fa Gq ?_
    (conv=>whnf);refine AT st2 1 ct3 rfl (show 0<3 by decide) rfl fun H3 st3=>?_
    refine⟨rfl,(),rfl,?_⟩
    unfold tbL
    rw [hns]
    exact st3
   ·have d6:decide (a.st≤(65536:Int))=false:=decide_eq_false h6
    obtain rfl:n=0:=(cond false (by rw [d0,d6];rfl)).2 rfl
    (conv=>whnf);rw [d6]
    (conv=>whnf)
    exact⟨rfl,(),rfl,st2⟩
  ·have d0:decide ((0:Int)<a.st)=false:=decide_eq_false h0
   obtain rfl:n=0:=(cond false (by rw [d0];rfl)).2 rfl
   (conv=>whnf);rw [d0]
   (conv=>whnf)
   exact⟨rfl,(),rfl,st2⟩
 ·rintro⟨⟩ H3 junk3 st3
  (conv=>whnf);refine fa Gq ?_
  (conv=>whnf);refine ld1 (v:=.int .i64 (n:Int)) ct3 (by rw [(st3.blk 1 rfl).cell];rfl) trivial ?_
  (conv=>whnf);refine Eo Pq rfl (by omega) (by omega) (by omega) (by omega) ?_
  intro tb H4 htb hs4 hb4 ha4
  rw [Aah]at hb4 ⊢
  have st4:=st3.tabNew Cz 185 htb hs4 hb4 ha4
  (conv=>whnf);refine fa Jd ?_
  (conv=>whnf);refine AT st4 1 Ow rfl (show 1<3 by decide) rfl fun H5 st5=>?_
  (conv=>whnf);refine fa Gq ?_
  (conv=>whnf);refine ld1 (v:=.int .i64 (n:Int)) ct3 (by rw [(st5.blk 1 rfl).cell];rfl) trivial ?_
  (conv=>whnf);refine Eo Cs rfl (by omega) (by omega) (by omega) (by omega) ?_
  intro mb H6 hmb hs6 hb6 ha6
  rw [Aah]at hb6 ⊢
  have hreps:A1.reps none_ H6 (Aag n (Value.bool false)) (Aag n false):=by
   have:=Mm (S:=none_) (H:=H6) (Aag n false)
   rwa [List.map_replicate]at this
  have st6:=st5.new (T:=A1) (n:=n) (xs:=Aag n false) hmb hs6 hb6 ha6 hreps (by simp) (by unfold maxLen;omega)
  (conv=>whnf);refine fa Gs ?_
  (conv=>whnf);refine AT st6 1 FM rfl (show 2<3 by decide) rfl fun H7 st7=>?_
  (conv=>whnf)
  refine A3.mk [4] (fun i:Nat=>[.int .i64 (i:Int)]) (fun i H8=>i≤a.edges.length∧∃vt,St H H8 [pB 81 p (nfL a (.slice ea a.edges.length ec)),pB tTb nb (tbL n (.slice (some ⟨tb,0,none⟩) n n) (.slice (some ⟨mb,0,none⟩) n n)),pT Cz 185 79 tb vt (grp n (Hi a) (a.edges.take i)),pS A1 4 (some ⟨mb,0,none⟩) n n (Aag n false)]) (fun i _=>a.edges.length - i) ?_ ?_
  ·(conv=>whnf)
   refine⟨0,rfl,AaF _,Aag n (.slice none 0 0),?_⟩
   rw [AaE,KI]
   exact st7
  ·rintro i H8 junk8 ⟨hi,vt,st8⟩
   have hp8:=st8.blk 0 rfl
   (conv=>whnf);refine fa Gt ?_
   (conv=>whnf);refine ld1 (v:=.slice ea a.edges.length ec) JB (by rw [hp8.cell];rfl) trivial ?_
   (conv=>whnf);refine AB.mk (fun hz=>?_) (fun hz=>?_)<;>simp only [decide_eq_true_eq,decide_eq_false_iff_not]at hz
   ·obtain⟨e,he⟩:=Ad (l:=a.edges) (k:=i) (by omega)
    (conv=>whnf);refine Am.run ?_
    (conv=>whnf);refine fa Gt ?_
    (conv=>whnf);refine ld1 (v:=.slice ea a.edges.length ec) JB (by rw [hp8.cell];rfl) trivial ?_
    (conv=>whnf);refine ixr (i:=i) HX (h1.frame (st8.old.mono hS)) he rfl ?_
    rintro b6 o6 c6 hS6 hc6 ⟨rfl,hok⟩
    (conv=>whnf);refine ldN (cs:=EL e) (by rw [DL];exact WS) hc6 trivial ?_
    (conv=>whnf);refine Ak _ VM Nh rfl ?_
    intro x H9 hx hs9 hb9 ha9
    have st9:=st8.box hx hs9 hb9 ha9
    (conv=>whnf);refine AI (cs:=EL e) st9 4 (by rw [DL];rfl) rfl (by rw [DL];decide) (IX e) fun Hq stq=>?_
    rw [Ax (show(EL e).length=VM.length by rw [DL,TV])]at stq
    have hbq:=stq.blk 1 rfl
    have hxq:=stq.blk 4 rfl
    have hfn:a.has e.fr=(decide (0≤e.fr)&&decide (e.fr<(n:Int))):=by rw [Hf,hn]
    have htn:a.has e.to=(decide (0≤e.to)&&decide (e.to<(n:Int))):=by rw [Hf,hn]
    (conv=>whnf);refine Ar.lex rfl (by kernel_rfl) ?_
    (conv=>whnf);refine fa KG ?_
    (conv=>whnf);refine ld1 (v:=.int .i64 e.fr) ct3 (by rw [hxq.cell];rfl) trivial ?_
    by_cases c1:0≤e.fr
    ·have q1:decide (0≤e.fr)=true:=decide_eq_true c1
     (conv=>whnf);rw [q1]
     (conv=>whnf);refine fa KG ?_
     (conv=>whnf);refine ld1 (v:=.int .i64 e.fr) ct3 (by rw [hxq.cell];rfl) trivial ?_
     (conv=>whnf);refine fa Gq ?_
     (conv=>whnf);refine ld1 (v:=.int .i64 (n:Int)) ct3 (by rw [hbq.cell];rfl) trivial ?_
     by_cases c2:e.fr<(n:Int)
     ·have q2:decide (e.fr<(n:Int))=true:=decide_eq_true c2
      (conv=>whnf);rw [q2]
      (conv=>whnf);refine fa HH ?_
      (conv=>whnf);refine ld1 (v:=.int .i64 e.to) ct3 (by rw [hxq.cell];rfl) trivial ?_
      by_cases c3:0≤e.to
      ·have q3:decide (0≤e.to)=true:=decide_eq_true c3
       (conv=>whnf);rw [q3]
       (conv=>whnf);refine fa HH ?_
       (conv=>whnf);refine ld1 (v:=.int .i64 e.to) ct3 (by rw [hxq.cell];rfl) trivial ?_
       (conv=>whnf);refine fa Gq ?_
       (conv=>whnf);refine ld1 (v:=.int .i64 (n:Int)) ct3 (by rw [hbq.cell];rfl) trivial ?_
       by_cases c4:e.to<(n:Int)
       ·have q4:decide (e.to<(n:Int))=true:=decide_eq_true c4
        have hk1:Hi a e=some (e.fr.toNat,e):=by unfold Hi okE;rw [hfn,htn,q1,q2,q3,q4];rfl
        obtain⟨row,hrow⟩:=Ad (l:=grp n (Hi a) (a.edges.take i)) (k:=e.fr.toNat) (by rw [CJ];omega)
        have hrl:row.length≤i:=by
         rw [EN _ _ (show e.fr.toNat<n by omega)]at hrow
         injection hrow with hrow
         rw [←hrow]
         exact Abf (Aa3 _ _) (AaD _ _)
        obtain⟨ra,rc,hvr,-⟩:=stq.row 2 rfl hrow
        have hne:=stq.rowNe 2 rfl hvr hrow
        have foot:∀k,slB (.slice ra row.length rc) k→(pT Cz 185 79 tb vt (grp n (Hi a) (a.edges.take i))).foot k:=fun k hk=>.inr ⟨e.fr.toNat,_,hvr,hk⟩
        have d1:=stq.apart2 (i:=1) (j:=2) rfl rfl (by decide)
        have d4:=stq.apart2 (i:=4) (j:=2) rfl rfl (by decide)
        have qn:nb<Hq.size∧¬slB (.slice ra row.length rc) nb:=⟨(stq.in_ 1 rfl rfl).2,fun h=>d1 nb rfl (foot nb h)⟩
        have qx:x<Hq.size∧¬slB (.slice ra row.length rc) x:=⟨(stq.in_ 4 rfl rfl).2,fun h=>d4 x rfl (foot x h)⟩
        have qt:tb<Hq.size∧¬slB (.slice ra row.length rc) tb:=⟨(stq.in_ 2 rfl (.inl rfl)).2,hne⟩
        (conv=>whnf);rw [q4]
        (conv=>whnf);refine Ar.heldZ (fun k=>k<Hq.size∧¬slB (.slice ra row.length rc) k) [18] (sq [0,1,2,3,4,5,6,7,8,9,10,11,12,13,14] (.f 15 (.f 16 (sq [17] (.f 18 .e))))) rfl (by kernel_rfl) ?_
        (conv=>whnf);refine fa Jd ?_
        (conv=>whnf);refine ld1 (v:=.slice (some ⟨tb,0,none⟩) n n) Ow (by rw [hbq.cell];rfl) qn ?_
        (conv=>whnf);refine fa KG ?_
        (conv=>whnf);refine ld1 (v:=.int .i64 e.fr) ct3 (by rw [hxq.cell];rfl) qx ?_
        (conv=>whnf);refine fa Jd ?_
        (conv=>whnf);refine ld1 (v:=.slice (some ⟨tb,0,none⟩) n n) Ow (by rw [hbq.cell];rfl) qn ?_
        (conv=>whnf);refine fa KG ?_
        (conv=>whnf);refine ld1 (v:=.int .i64 e.fr) ct3 (by rw [hxq.cell];rfl) qx ?_
        (conv=>whnf);refine ix Pq (by omega) (by omega) ?_
        (conv=>whnf);refine ld1 JB (stq.tcell 2 rfl hvr (by rw [Aab,Aa0])) qt ?_
        (conv=>whnf);refine ldN (cs:=EL e) (by rw [DL];exact WS) (hxq.cells fun j v hv=>by rw [Aab];exact hv) qx ?_
        (conv=>whnf);refine A2 HX (EL e) rfl (DL e) (by decide) (by decide) ?_
        intro q11 H11 hq11 hs11 hb11 ha11
        have st11:=stq.skip hq11 ha11
        refine⟨ha11.mono fun k hk=>by have:=hk.1;omega,?_⟩
        (conv=>whnf);refine T7 (ds:=EL e) (y:=e) st11 2 HX rfl hvr hrow (hb11.cells fun j v hv=>by rw [Aab];exact hv) ⟨rfl,hok⟩ (IX e) (by omega) (by decide) fun wa wc H12 mid ha12=>?_
        refine⟨(ha11.mono fun k hk=>by have:=hk.1;omega).trans (ha12.mono fun k hk=>⟨by have:=hk.1;omega,hk.2⟩),?_⟩
        (conv=>whnf);refine ix Pq (by omega) (by omega) ?_
        (conv=>whnf);refine stT mid JB (by rw [Aab,Aa0]) fun H13 st13=>?_
        have g1:=Jg hk1 hrow
        rw [←Ac he]at g1
        (conv=>whnf);rw [w64 (x:=(i:Int)+1) (by omega) (by omega)]
        refine⟨rfl,i+1,by simp,⟨by omega,vt.set e.fr.toNat (.slice wa (row.length+1) wc),?_⟩,by omega⟩
        rw [g1]
        exact st13.pick [0,1,2,3] (by decide)
       ·have q4:decide (e.to<(n:Int))=false:=decide_eq_false c4
        (conv=>whnf);rw [q4]
        have hk:Hi a e=none:=by unfold Hi okE;rw [hfn,htn,q1,q2,q3,q4];simp
        have g1:=Dd (n:=n) (l:=a.edges.take i) hk
        rw [←Ac he]at g1
        (conv=>whnf);rw [w64 (x:=(i:Int)+1) (by omega) (by omega)]
        refine⟨rfl,i+1,by simp,⟨by omega,vt,?_⟩,by omega⟩
        rw [g1]
        exact stq.pick [0,1,2,3] (by decide)
      ·have q3:decide (0≤e.to)=false:=decide_eq_false c3
       (conv=>whnf);rw [q3]
       have hk:Hi a e=none:=by unfold Hi okE;rw [hfn,htn,q1,q2,q3];simp
       have g1:=Dd (n:=n) (l:=a.edges.take i) hk
       rw [←Ac he]at g1
       (conv=>whnf);rw [w64 (x:=(i:Int)+1) (by omega) (by omega)]
       refine⟨rfl,i+1,by simp,⟨by omega,vt,?_⟩,by omega⟩
       rw [g1]
       exact stq.pick [0,1,2,3] (by decide)
     ·have q2:decide (e.fr<(n:Int))=false:=decide_eq_false c2
      (conv=>whnf);rw [q2]
      have hk:Hi a e=none:=by unfold Hi okE;rw [hfn,htn,q1,q2];simp
      have g1:=Dd (n:=n) (l:=a.edges.take i) hk
      rw [←Ac he]at g1
      (conv=>whnf);rw [w64 (x:=(i:Int)+1) (by omega) (by omega)]
      refine⟨rfl,i+1,by simp,⟨by omega,vt,?_⟩,by omega⟩
      rw [g1]
      exact stq.pick [0,1,2,3] (by decide)
    ·have q1:decide (0≤e.fr)=false:=decide_eq_false c1
     (conv=>whnf);rw [q1]
     have hk:Hi a e=none:=by unfold Hi okE;rw [hfn,htn,q1];simp
     have g1:=Dd (n:=n) (l:=a.edges.take i) hk
     rw [←Ac he]at g1
     (conv=>whnf);rw [w64 (x:=(i:Int)+1) (by omega) (by omega)]
     refine⟨rfl,i+1,by simp,⟨by omega,vt,?_⟩,by omega⟩
     rw [g1]
     exact stq.pick [0,1,2,3] (by decide)
   ·obtain rfl:i=a.edges.length:=by omega
    rw [Aal]at st8
    (conv=>whnf)
    refine⟨nb,tb,some ⟨mb,0,none⟩,n,vt,rfl,?_⟩
    unfold Zm
    rw [←hn]
    exact st8.pick [1,2,3] (by decide)
def JG(l:List Int):Nat:=l.foldl (fun h x=>(h*31+x.toNat+1) % 1000003) 7
def BU(l:List Int):Nat:=JG l % 1024
theorem Wk(l:List Int):JG l<1000003:=by
 have key:∀(l:List Int) (h:Nat),h<1000003→l.foldl (fun h x=>(h*31+x.toNat+1) % 1000003) h<1000003:=by
  intro l
  induction l with
  | nil=>exact fun h hh=>hh
  | cons x l ih=>exact fun h hh=>ih _ (Nat.mod_lt _ (by decide))
 exact key l 7 (by decide)
theorem SB(l:List Int)(x:Int):JG (l++[x])=(JG l*31+x.toNat+1) % 1000003:=by
 unfold JG
 rw [Aao]
 rfl
theorem Us{S:Nat→Prop}{H:Aa}{a:Option Addr}{c:Nat}{xs:List Int}(hS:∀k,S k→k<H.size)(h:SlD tIk S H a c xs)(hr:∀q∈xs,0≤q∧q<65536):
  B8 Tryz.prog 146 #[.slice a xs.length c] H (.int .i64 (BU xs:Int)):=by
 have hle:=h.le
 unfold maxLen at hle
 refine Al.of_vc Tryz.func146 rfl (Tryz.call146 _) ?_
 (conv=>whnf)
 refine A3.mk [3,4] (fun i:Nat=>[.int .i64 (JG (xs.take i):Int),.int .i64 (i:Int)]) (fun i H2=>i≤xs.length∧Agr (Old H) H H2) (fun i _=>xs.length - i) ?_ ?_
 ·(conv=>whnf)
  exact⟨0,rfl,AaF _,Agr.refl _ _⟩
 ·rintro i H2 junk ⟨hi,ha⟩
  have hlt:=Wk (xs.take i)
  (conv=>whnf);refine AB.mk (fun hz=>?_) (fun hz=>?_)<;>simp only [decide_eq_true_eq,decide_eq_false_iff_not]at hz
  ·obtain⟨x,hx⟩:=Ad (l:=xs) (k:=i) (by omega)
   have hxr:=hr x (Aae hx)
   have hsn:=SB (xs.take i) x
   rw [←Ac hx]at hsn
   (conv=>whnf);rw [w64 (x:=(JG (xs.take i):Int)*31) (by omega) (by omega)]
   (conv=>whnf);refine ixr (i:=i) AL (h.frame (ha.mono hS)) hx rfl ?_
   rintro b3 o3 c3 hS3 hc3 ⟨rfl,-⟩
   (conv=>whnf);refine ld1 ct3 hc3.one trivial ?_
   (conv=>whnf);rw [w64 (x:=(JG (xs.take i):Int)*31+x) (by omega) (by omega)]
   (conv=>whnf);rw [w64 (x:=(JG (xs.take i):Int)*31+x+1) (by omega) (by omega)]
   rw [show(JG (xs.take i):Int)*31+x+1=((JG (xs.take i)*31+x.toNat+1:Nat):Int) by omega]
   (conv=>whnf);refine WO (a:=JG (xs.take i)*31+x.toNat+1) (b:=1000003) (by decide) ?_
   rw [←hsn]
   (conv=>whnf);rw [w64 (x:=(i:Int)+1) (by omega) (by omega)]
   exact⟨rfl,i+1,by simp,⟨by omega,ha⟩,by omega⟩
  ·obtain rfl:i=xs.length:=by omega
   rw [Aal]at hlt ⊢
   (conv=>whnf);refine WO (a:=JG xs) (b:=1024) (by decide) ?_
   (conv=>whnf)
   exact⟨rfl,ha⟩
abbrev tI:Ty Int:=HY .i64
abbrev GQ:Ty (List Int):=tSl tI
theorem WB(ca na fa:Option Addr)(cc nc fc fl:Nat)(cells:List (BitVec 256))(next:List (List Int))(S:Nat→Prop)(H:Aa)(hS:∀k,S k→k<H.size)
  (hc:SlD Dz S H ca cc cells) (hn:SlD GQ S H na nc next) (hfl:fl≤9223372036854775807):
  B8 Tryz.prog 115 #[.slice ca cells.length cc,.slice na next.length nc,.slice fa fl fc] H (.bool (BK cells next fl)):=by
 have lc:=hc.le
 have ln:=hn.le
 unfold maxLen at lc ln
 refine Al.of_vc Tryz.func115 rfl (Tryz.call115 _) ?_
 (conv=>whnf);refine Ak (Bm 0) (Af 0) rfl rfl ?_
 intro p H1 hp hs1 hb1 ha1
 (conv=>whnf)
 refine A3.mk [16] (fun k:Nat=>[.int .i64 k]) (fun k H2=>k≤cells.length∧Agr (Old H) H H2∧p<H2.size∧∃all,Du 0#256 (cells.take k)=some all∧Blk H2 p 101 (Af all)) (fun k _=>cells.length - k) ?_ ?_
 ·(conv=>whnf)
  exact⟨0,rfl,by omega,ha1.mono (fun k hk=>by unfold Old at hk;omega),by omega,0,rfl,hb1⟩
 ·rintro k H2 junk ⟨hk,ha2,hp2,all,hall,hb2⟩
  (conv=>whnf)
  refine AB.mk (fun h=>?_) (fun h=>?_)<;>simp only [decide_eq_true_eq,decide_eq_false_iff_not]at h
  ·obtain⟨c,hck⟩:=Ad (l:=cells) (k:=k) (by omega)
   (conv=>whnf);refine ixr DU (hc.frame (ha2.mono hS)) hck rfl ?_
   rintro b o cs hSb hcells rfl
   (conv=>whnf);refine ldN (cs:=Af c) AU hcells trivial ?_
   (conv=>whnf);refine Ak (Bm 0) (Af 0) rfl rfl ?_
   intro q H3 hq hs3 hb3 ha3
   (conv=>whnf);refine stN rfl hb3 (show 0+4≤4 by decide) rfl ?_
   intro H4 hb4 ha4 hs4
   have hb4':Blk H4 q 101 (Af c):=hb4
   have hb2':Blk H4 p 101 (Af all):=(hb2.agr ha3 (show p<q by omega)).agr ha4 (show p≠q by omega)
   (conv=>whnf);refine ldN (cs:=Af all) AU (hb2'.cells (fun j v hv=>by simpa using hv)) trivial ?_
   (conv=>whnf);refine ldN (cs:=Af c) AU (hb4'.cells (fun j v hv=>by simpa using hv)) trivial ?_
   (conv=>whnf);refine Ao (Qp all c H4) ?_
   intro H5 ha5
   (conv=>whnf);refine Cv BW (Bm 0) rfl (Af 0) rfl ?_
   (conv=>whnf);refine NI (all &&& c) 0#256 ?_
   have hA:Agr (Old H) H H5:=(ha2.trans ((ha3.mono (fun k hk=>by unfold Old at hk;omega)).trans (ha4.mono (fun k hk=>by unfold Old at hk;omega)))).trans (ha5.mono (fun k hk=>by unfold Old at*;omega))
   by_cases hm:all &&& c=0#256
   ·rw [show decide (all &&& c=0#256)=true by simpa using hm]
    have hb5:=hb2'.agr ha5 (show p<H4.size by omega)
    have hb5':=hb4'.agr ha5 (show q<H4.size by omega)
    (conv=>whnf);refine ldN (cs:=Af all) AU (hb5.cells (fun j v hv=>by simpa using hv)) trivial ?_
    (conv=>whnf);refine ldN (cs:=Af c) AU (hb5'.cells (fun j v hv=>by simpa using hv)) trivial ?_
    (conv=>whnf);refine Ao (FG all c H5) ?_
    intro H6 ha6
    (conv=>whnf);refine stN rfl (hb5.agr ha6 hb5.lt) (show 0+4≤4 by decide) rfl ?_
    intro H7 hb7 ha7 hs7
    (conv=>whnf);rw [w64 (x:=(k:Int)+1) (by omega) (by omega)]
    have h56:=Bx ha6
    have h45:=Bx ha5
    refine⟨rfl,k+1,by simp,⟨by omega,?_,by omega,all ||| c,?_,hb7⟩,by omega⟩
    ·exact(hA.trans (ha6.mono (fun k hk=>by unfold Old at*;omega))).trans (ha7.mono (fun k hk=>by unfold Old at hk;omega))
    ·rw [Ac hck,JZ hall,if_pos hm]
   ·rw [show decide (all &&& c=0#256)=false by simpa using hm]
    (conv=>whnf)
    refine⟨?_,hA⟩
    have:Du 0#256 cells=none:=by
     rw [←AaA (k+1) cells,HZ,Ac hck,JZ hall,if_neg hm];rfl
    simp [BK,this]
  ·have hkc:k=cells.length:=by omega
   subst hkc
   rw [Aal]at hall
   (conv=>whnf)
   refine Ar.quiet (Old H2) rfl (by kernel_rfl) ?_
   have hOld:∀{H':Aa},Agr (Old H2) H2 H'→Agr (fun k=>k<H.size) H H':=fun h=>ha2.trans (h.mono (fun k hk=>by unfold Old at*;omega))
   (conv=>whnf);refine ldN (cs:=Af all) AU (hb2.cells (fun j v hv=>by simpa using hv)) hp2 ?_
   (conv=>whnf);refine RR (fun H' _=>Fu 0 255 (by decide) (by decide) H') ?_
   (conv=>whnf);refine NI all (AE 0 255) ?_
   rw [IF]
   (conv=>whnf);refine AB.mk (fun h1=>?_) (fun h1=>?_)<;>simp only [Bool.not_eq_true',Bool.not_eq_false',decide_eq_true_eq,decide_eq_false_iff_not]at h1
   ·(conv=>whnf);intro H5 ha5
    (conv=>whnf);exact⟨by
     have e:(all==Aas 256)=false:=beq_eq_false_iff_ne.2 h1
     rw [BK,hall];simp only [e,Aar],hOld ha5⟩
   (conv=>whnf);refine AB.mk (fun h2=>?_) (fun h2=>?_)<;>simp only [decide_eq_true_eq,decide_eq_false_iff_not]at h2
   ·(conv=>whnf);intro H5 ha5
    (conv=>whnf);exact⟨by simp [BK,hall,show¬1≤next.length by omega],hOld ha5⟩
   (conv=>whnf);refine AB.mk (fun h3=>?_) (fun h3=>?_)<;>simp only [decide_eq_true_eq,decide_eq_false_iff_not]at h3
   ·(conv=>whnf);intro H5 ha5
    (conv=>whnf);exact⟨by simp [BK,hall,show¬next.length≤65536 by omega],hOld ha5⟩
   (conv=>whnf);intro H5 ha5
   (conv=>whnf);refine AB.mk (fun h4=>?_) (fun h4=>?_)<;>simp only [bne_iff_ne,ne_eq,bne_eq_false_iff_eq]at h4
   ·(conv=>whnf);exact⟨by simp [BK,hall,show¬next.length=fl by omega],hOld ha5⟩
   have h4':next.length=fl:=by omega
   have hsound:BK cells next fl=next.all (GM next.length cells.length):=by
    have e:(all==Aas 256)=true:=beq_iff_eq.2 h1
    rw [BK,hall]
    simp only [e,decide_eq_true (show 1≤next.length by omega),decide_eq_true (show next.length≤65536 by omega),beq_iff_eq.2 h4',Bool.and_self,Aba]
   rw [hsound]
   have bad:∀{k:Nat} {row:List Int},next[k]? =some row→GM next.length cells.length row=false→next.all (GM next.length cells.length)=false:=by
    intro k row h1 h2
    rw [AaK]
    exact⟨row,Aae h1,by simp [h2]⟩
   have hn5:=hn.frame ((hOld ha5).mono hS)
   (conv=>whnf)
   refine A3.mk [51] (fun k:Nat=>[.int .i64 k]) (fun k H'=>H'=H5∧k≤next.length∧(next.take k).all (GM next.length cells.length)=true) (fun k _=>next.length - k) ?_ ?_
   ·(conv=>whnf)
    exact⟨0,rfl,rfl,by omega,rfl⟩
   ·rintro k H6 junk2 ⟨rfl,hk2,hall2⟩
    (conv=>whnf)
    refine AB.mk (fun h=>?_) (fun h=>?_)<;>simp only [decide_eq_true_eq,decide_eq_false_iff_not]at h
    ·obtain⟨row,hrow⟩:=Ad (l:=next) (k:=k) (by omega)
     (conv=>whnf);refine ixr DH hn5 hrow rfl ?_
     rintro b o cs hSb hcells ⟨ra,rc,rfl,hr⟩
     have lr:=hr.le
     unfold maxLen at lr
     (conv=>whnf);refine ld1 CW hcells.one trivial ?_
     (conv=>whnf);refine AB.mk (fun h5=>?_) (fun h5=>?_)<;>simp only [bne_iff_ne,ne_eq,bne_eq_false_iff_eq]at h5
     ·(conv=>whnf);exact⟨by rw [bad hrow (by simp [GM];intro h;omega)],hOld ha5⟩
     (conv=>whnf)
     refine A3.mk [62] (fun j:Nat=>[.int .i64 j]) (fun j H'=>H'=H6∧j≤row.length∧(row.take j).all (fun q=>decide (0≤q)&&decide (q<(next.length:Int)))=true) (fun j _=>row.length - j) ?_ ?_
     ·(conv=>whnf)
      exact⟨0,rfl,rfl,by omega,rfl⟩
     ·rintro j H7 junk3 ⟨rfl,hj,hall3⟩
      (conv=>whnf)
      refine AB.mk (fun h=>?_) (fun h=>?_)<;>simp only [decide_eq_true_eq,decide_eq_false_iff_not]at h
      ·obtain⟨q,hq⟩:=Ad (l:=row) (k:=j) (by omega)
       have badq:¬(0≤q∧q<(next.length:Int))→GM next.length cells.length row=false:=by
        intro hb
        have:(row.all fun q=>decide (0≤q)&&decide (q<(next.length:Int)))=false:=by
         rw [AaK]
         exact⟨q,Aae hq,by simpa using hb⟩
        simp only [GM,this,AaW]
       (conv=>whnf);refine ixr AL hr hq rfl ?_
       rintro b2 o2 cs2 hSb2 hcells2 ⟨rfl,hqk⟩
       (conv=>whnf);refine ld1 ct3 hcells2.one trivial ?_
       (conv=>whnf);refine AB.mk (fun h6=>?_) (fun h6=>?_)<;>simp only [decide_eq_true_eq,decide_eq_false_iff_not]at h6
       ·(conv=>whnf);exact⟨by rw [bad hrow (badq (by omega))],hOld ha5⟩
       (conv=>whnf);refine AB.mk (fun h7=>?_) (fun h7=>?_)<;>simp only [decide_eq_true_eq,decide_eq_false_iff_not]at h7
       ·(conv=>whnf);exact⟨by rw [bad hrow (badq (by omega))],hOld ha5⟩
       (conv=>whnf);rw [w64 (x:=(j:Int)+1) (by omega) (by omega)]
       refine⟨rfl,j+1,by simp,⟨rfl,by omega,?_⟩,by omega⟩
       rw [Ac hq,AaT,hall3]
       simp;omega
      ·have hj':j=row.length:=by omega
       subst hj'
       rw [Aal]at hall3
       (conv=>whnf);rw [w64 (x:=(k:Int)+1) (by omega) (by omega)]
       refine⟨rfl,k+1,by simp,⟨rfl,by omega,?_⟩,by omega⟩
       rw [Ac hrow,AaT,hall2]
       simp only [List.all_cons,List.all_nil,Bool.and_true,Aba,GM,hall3,beq_iff_eq]
       omega
    ·have hk':k=next.length:=by omega
     subst hk'
     rw [Aal]at hall2
     (conv=>whnf);exact⟨by rw [hall2],hOld ha5⟩
theorem V6(na:Option Addr)(nc c d m:Nat)(next:List (List Int))(S:Nat→Prop)(H:Aa)(hn:SlD GQ S H na nc next)(hm:∀row∈next,row.length=m)(hc:c<m)(hd:d<m)(hm64:m≤9223372036854775807):
  B8 Tryz.prog 163 #[.slice na next.length nc,.int .i64 c,.int .i64 d] H (.bool (Fc next c d)):=by
 have ln:=hn.le
 unfold maxLen at ln
 refine Al.of_vc Tryz.func163 rfl (Tryz.call163 _) ?_
 (conv=>whnf);refine AB.mk (fun h=>?_) (fun h=>?_)<;>simp only [beq_iff_eq,beq_eq_false_iff_ne,Int.natCast_inj,ne_eq]at h
 ·(conv=>whnf);exact⟨by simp [Fc,h],Agr.refl _ _⟩
 have hcd:(c==d)=false:=by simpa using h
 (conv=>whnf)
 refine A3.mk [14] (fun k:Nat=>[.int .i64 k]) (fun k H'=>H'=H∧k≤next.length∧(next.take k).all (fun row=>row[c]? ==row[d]?)=true) (fun k _=>next.length - k) ?_ ?_
 ·(conv=>whnf);exact⟨0,rfl,rfl,by omega,rfl⟩
 ·rintro k H1 junk ⟨rfl,hk,hall⟩
  (conv=>whnf);refine AB.mk (fun h=>?_) (fun h=>?_)<;>simp only [decide_eq_true_eq,decide_eq_false_iff_not]at h
  ·obtain⟨row,hrow⟩:=Ad (l:=next) (k:=k) (by omega)
   have hlen:=hm row (Aae hrow)
   (conv=>whnf);refine ixr DH hn hrow rfl ?_
   rintro b o cs hSb hcells ⟨ra,rc,rfl,hr⟩
   (conv=>whnf);refine ld1 CW hcells.one trivial ?_
   (conv=>whnf);refine Ar.lex rfl (by kernel_rfl) ?_
   obtain⟨x,hx⟩:=Ad (l:=row) (k:=c) (by omega)
   obtain⟨y,hy⟩:=Ad (l:=row) (k:=d) (by omega)
   (conv=>whnf);refine ixr AL hr hx rfl ?_
   rintro b2 o2 cs2 hSb2 hcells2 ⟨rfl,hxk⟩
   (conv=>whnf);refine ld1 ct3 hcells2.one trivial ?_
   (conv=>whnf);refine ixr AL hr hy rfl ?_
   rintro b3 o3 cs3 hSb3 hcells3 ⟨rfl,hyk⟩
   (conv=>whnf);refine ld1 ct3 hcells3.one trivial ?_
   (conv=>whnf);refine AB.mk (fun h=>?_) (fun h=>?_)<;>simp only [bne_iff_ne,ne_eq,bne_eq_false_iff_eq]at h
   ·(conv=>whnf)
    refine⟨?_,Agr.refl _ _⟩
    have:(next.all fun row=>row[c]? ==row[d]?)=false:=by
     rw [AaK]
     exact⟨row,Aae hrow,by simp [hx,hy,h]⟩
    simp only [Fc,hcd,this,Bool.or_false]
   ·(conv=>whnf);rw [w64 (x:=(k:Int)+1) (by omega) (by omega)]
    refine⟨rfl,k+1,by simp,⟨rfl,by omega,?_⟩,by omega⟩
    rw [Ac hrow,AaT,hall]
    simp [hx,hy,h]
  ·have hk':k=next.length:=by omega
   subst hk'
   rw [Aal]at hall
   (conv=>whnf);exact⟨by simp only [Fc,hcd,hall,Bool.false_or],Agr.refl _ _⟩
def BM(cv:Value)(cell:List Nat)(nv fv av:Value):List Value:=
 cv::(cell.map (fun n:Nat=>Value.int .u8 (n:Int))++Aag (256 - cell.length) (.int .u8 0))++[nv,fv,av]
section
variable{cv nv fv av x:Value}{cell:List Nat}
theorem HE(h:cell.length≤256):(BM cv cell nv fv av).length=260:=by simp [BM];omega
theorem MQ:(BM cv cell nv fv av)[0]? =some cv:=by simp [BM]
theorem PF:(BM cv cell nv fv av).set 0 x=BM x cell nv fv av:=by simp [BM]
theorem J9(h:cell.length≤256)(j:Nat):(BM cv cell nv fv av)[257+j]? =[nv,fv,av][j]? :=by
 unfold BM
 rw [Aa8,show 257+j=(256+j)+1 by omega,AaR,Aaz (by simp;omega)]
 congr 1
 simp;omega
theorem EW(h:cell.length≤256):(BM cv cell nv fv av)[257]? =some nv:=J9 h 0
theorem J8(h:cell.length≤256):(BM cv cell nv fv av)[258]? =some fv:=J9 h 1
theorem HD(h:cell.length≤256):(BM cv cell nv fv av)[259]? =some av:=J9 h 2
theorem Le(h:cell.length≤256)(j:Nat):(BM cv cell nv fv av).set (257+j) x=cv::(cell.map (fun n:Nat=>Value.int .u8 (n:Int))++Aag (256 - cell.length) (.int .u8 0))++[nv,fv,av].set j x:=by
 unfold BM
 rw [Aa8,show 257+j=(256+j)+1 by omega,AaG,AaX (h:=by simp;omega)]
 have e:256+j - (List.map (fun n:Nat=>Value.int .u8 (n:Int)) cell++Aag (256 - cell.length) (Value.int .u8 0)).length=j:=by simp;omega
 rw [e];rfl
theorem MR(h:cell.length≤256):(BM cv cell nv fv av).set 257 x=BM cv cell x fv av:=Le h 0
theorem MT(h:cell.length≤256):(BM cv cell nv fv av).set 259 x=BM cv cell nv fv x:=Le h 2
theorem PE(h:cell.length<256)(p:Nat):(BM cv cell nv fv av).set (1+cell.length) (.int .u8 (p:Int))=BM cv (cell++[p]) nv fv av:=by
 unfold BM
 rw [Aa8,show 1+cell.length=cell.length+1 by omega,AaG,AaJ,AaX (h:=by simp)]
 have e:cell.length - (List.map (fun n:Nat=>Value.int .u8 (n:Int)) cell).length=0:=by simp
 rw [e,show 256 - cell.length=(256 - (cell.length+1))+1 by omega,List.replicate_succ]
 simp
end
def Fq(cols:List Nat)(row:List Int):List Int:=cols.map fun c=>row.getD c 0
theorem Wo(pb:Nat)(fv av:Value)(ca na:Option Addr)(cc nc:Nat)(cells:List (BitVec 256))(next:List (List Int))(fl:Nat)(S:Nat→Prop)(H:Aa)(hS:∀k,S k→k<H.size∧k≠pb)
  (hb:Blk H pb 109 (BM (.slice none 0 0) [] (.slice none 0 0) fv av)) (hc:SlD Dz S H ca cc cells) (hn:SlD GQ S H na nc next) (hs:BK cells next fl=true):
  Al Tryz.prog 116 #[.pointer (some ⟨pb,0,none⟩),.slice ca cells.length cc,.slice na next.length nc] H fun v H'=>
   let st:=Cp next cells (fun b=>AE b b) 256
   Agr (fun k=>k<H.size∧k≠pb) H H'∧H.size≤H'.size∧∃ac capc an capn,Blk H' pb 109 (BM (.slice ac st.sets.length capc) st.cell (.slice an next.length capn) fv av)∧
    SlD Dz (fun k=>H.size≤k∧k<H'.size) H' ac capc st.sets∧SlD GQ (fun k=>H.size≤k∧k<H'.size) H' an capn (next.map (Fq st.cols)):=by
 have lc:=hc.le
 have ln:=hn.le
 unfold maxLen at lc ln
 obtain⟨n1,n2,n3,hrows⟩:=FF hs
 refine Al.of_vc Tryz.func116 rfl (Tryz.call116 _) ?_
 have hpb:=hb.lt
 generalize hsp:(fun b=>AE b b)=sp
 have hcell:∀b,b<256→CU cells b<cells.length:=fun b hb=>(DV hs hb).1
 (conv=>whnf);refine Eo DH rfl (by omega) (by omega) (by omega) (by omega) ?_
 intro nb H1 hnb hs1 hb1 ha1
 (conv=>whnf);refine fa F5 ?_
 (conv=>whnf);refine st1 DZ (hb.agr ha1 (show pb<nb by omega)) (by rw [HE (by simp)];omega) rfl ?_
 intro H2 hb2 ha2 hs2
 rw [Aab,MR (by simp)]at hb2
 replace hb1:=hb1.agr ha2 (show nb≠pb by omega)
 rw [Aah]at hb1
 have hA2:Agr (fun k=>k<H.size∧k≠pb) H H2:=(ha1.mono fun k hk=>by omega).trans (ha2.mono fun k hk=>hk.2)
 (conv=>whnf)
 refine A3.mk [6,22] (fun x:Nat×Value=>[x.2,.int .i64 x.1]) (fun x H3=>x.1≤256∧Agr (fun k=>k<H.size∧k≠pb) H H3∧H2.size≤H3.size∧
  SlO tI (fun _=>False) H3 (nb+1) 3 x.2 ((Cp next cells sp x.1).cols.map AaP)∧Blk H3 nb 41 (Aag next.length (.slice none 0 0))∧
  ∃cv,SlO Dz (fun _=>False) H3 (nb+1) 101 cv (Cp next cells sp x.1).sets∧(∀k,slB x.2 k→¬slB cv k)∧
   Blk H3 pb 109 (BM cv (Cp next cells sp x.1).cell (.slice (some ⟨nb,0,none⟩) next.length next.length) fv av)) (fun x _=>256 - x.1) ?_ ?_
 ·(conv=>whnf)
  exact⟨(0,_),rfl,by omega,hA2,Aan _,SlO.nil,hb1,_,SlO.nil,(by rintro k ⟨o,n,c,h⟩;cases h),hb2⟩
 ·rintro⟨b,v6⟩ H3 junk ⟨hb256,hA3,hs3,hcols,hb3n,cv,hsets,hdis,hb3⟩
  dsimp only at hb256 hcols hsets hdis hb3
  obtain⟨ac,capc,rfl,-,-⟩:=hcols.view (S':=fun k=>slB v6 k) (fun k hk=>hk) (fun k hk=>hk.elim)
  (conv=>whnf);refine AB.mk (fun h=>?_) (fun h=>?_)<;>simp only [decide_eq_true_eq,decide_eq_false_iff_not]at h
  ·have hok:=HL (next:=next) (sp:=sp) hcell b (by omega)
   generalize hst:Cp next cells sp b=st at*
   obtain⟨hfb,hfhas⟩:=DV hs (b:=b) (by omega)
   (conv=>whnf)
   refine A3.mk [8] (fun f:Nat=>[.int .i64 f]) (fun f H4=>Agr (Old H3) H3 H4∧f≤CU cells b) (fun f _=>cells.length - f) ?_ ?_
   ·(conv=>whnf);exact⟨0,rfl,Agr.refl _ _,by omega⟩
   ·rintro f H4 junk2 ⟨ha4,hf⟩
    have hA4:Agr (fun k=>k<H.size∧k≠pb) H H4:=hA3.trans (ha4.mono fun k hk=>by unfold Old;omega)
    obtain⟨c,hcf⟩:=Ad (l:=cells) (k:=f) (by omega)
    (conv=>whnf);refine ixr DU (hc.frame (hA4.mono fun k hk=>hS k hk)) hcf rfl ?_
    rintro b' o cs hSb hcells rfl
    (conv=>whnf);refine ldN (cs:=Af c) AU hcells trivial ?_
    (conv=>whnf);rw [w8 (x:=(b:Int)) (by omega) (by omega)]
    refine Ao (Ur c b (by omega) H4) ?_
    intro H5 ha5
    have hs34:=Bx ha4
    have ha35:Agr (Old H3) H3 H5:=ha4.trans (ha5.mono fun k hk=>by unfold Old at*;omega)
    by_cases hfeq:f=CU cells b
    ·have hbit:c.getLsbD b=true:=hfhas c (hfeq ▸ hcf)
     rw [hbit]
     (conv=>whnf)
     subst hfeq
     generalize hfr:CU cells b=fr at*
     have hcols5:=hcols.agr ha35 (fun k hk=>(hcols.lt hk).2) (fun k hk=>hk.elim)
     have hs35:=Bx ha35
     refine Am.cut [9] (fun pl:Option Nat=>[.int .i64 (match pl with | none=> -1 | some i=>(i:Int))]) (fun pl H6=>pl=Mz next st.cols fr∧Agr (Old H5) H5 H6) ?_ ?_
     ·obtain⟨ac',capc',he,hview,hblk⟩:=hcols5.view (S':=Old H5) (fun k hk=>(hcols5.lt hk).2) (fun k hk=>hk.elim)
      cases he
      have hrl:∀row∈next,row.length=cells.length:=fun row hr=>(hrows row hr).1
      (conv=>whnf)
      refine A3.mk [9,37] (fun k:Nat=>[.int .i64 (-1),.int .i64 k]) (fun k H6=>Agr (Old H5) H5 H6∧k≤st.cols.length∧(st.cols.take k).findIdx? (fun c=>Fc next c fr)=none) (fun k _=>st.cols.length - k) ?_ ?_
      ·(conv=>whnf);exact⟨0,rfl,Agr.refl _ _,by omega,rfl⟩
      ·rintro k H6 junk3 ⟨ha6,hk,hnone⟩
       have hle:=hok.le
       (conv=>whnf);rw [Aam];refine AB.mk (fun h=>?_) (fun h=>?_)<;>simp only [decide_eq_true_eq,decide_eq_false_iff_not]at h
       ·obtain⟨c0,hc0⟩:=Ad (l:=st.cols) (k:=k) (by omega)
        have hc0m:=hok.cols c0 (Aae hc0)
        (conv=>whnf);refine JH (x:=(c0:Int)) AL (hview.frame ha6) (by simp) (by simp [hc0]) rfl ?_
        rintro b2 o2 cs2 hSb2 hcells2 ⟨rfl,-⟩
        (conv=>whnf);refine ld1 ct3 hcells2.one trivial ?_
        have hn6:SlD GQ S H6 na nc next:=hn.frame ((hA3.trans ((ha35.trans (ha6.mono fun k hk=>by unfold Old at*;omega)).mono fun k hk=>by unfold Old;omega)).mono fun k hk=>hS k hk)
        (conv=>whnf);refine Ao (V6 na nc c0 fr cells.length next S H6 hn6 hrl hc0m hfb (by omega)) ?_
        intro H7 ha7
        have hs56:=Bx ha6
        have ha57:Agr (Old H5) H5 H7:=ha6.trans (ha7.mono fun k hk=>by unfold Old at*;omega)
        (conv=>whnf);refine AB.mk (fun h7=>?_) (fun h7=>?_)
        ·(conv=>whnf)
         refine⟨rfl,some k,rfl,?_,ha57⟩
         unfold Mz
         rw [←AaA k st.cols,AaZ,hnone]
         have:st.cols.drop k=c0::st.cols.drop (k+1):=by
          rw [Aac]at hc0
          obtain⟨h1,h2⟩:=hc0
          rw [List.drop_eq_getElem_cons h1,h2]
         rw [this,List.findIdx?_cons,h7]
         simp;omega
        ·(conv=>whnf);rw [w64 (x:=(k:Int)+1) (by omega) (by omega)]
         refine⟨rfl,k+1,by simp,⟨ha57,by omega,?_⟩,by omega⟩
         rw [Ac hc0,AaZ,hnone]
         simp [h7]
       ·(conv=>whnf)
        refine⟨rfl,none,rfl,?_,ha6⟩
        have:k=st.cols.length:=by omega
        subst this
        rw [Aal]at hnone
        exact hnone.symm
     ·rintro pl H6 junk3 ⟨hpl,ha6⟩
      have ha36:Agr (Old H3) H3 H6:=ha35.trans (ha6.mono fun k hk=>by unfold Old at*;omega)
      have hs36:=Bx ha36
      have hcols6:=hcols.agr ha36 (fun k hk=>(hcols.lt hk).2) (fun k hk=>hk.elim)
      have hsets6:=hsets.agr ha36 (fun k hk=>(hsets.lt hk).2) (fun k hk=>hk.elim)
      have hb6n:=hb3n.agr ha36 hb3n.lt
      have hb6:=hb3.agr ha36 hb3.lt
      have hA6:Agr (fun k=>k<H.size∧k≠pb) H H6:=hA3.trans (ha36.mono fun k hk=>by unfold Old;omega)
      have hcl:st.cell.length≤256:=by rw [hok.cell];omega
      (conv=>whnf)
      refine Am.cut [6,9] (fun x:Value×Nat=>[x.1,.int .i64 x.2]) (fun x H7=>Agr (fun k=>k<H.size∧k≠pb) H H7∧H2.size≤H7.size∧x.2=(GT next st.cols st.sets fr).2.2∧
       SlO tI (fun _=>False) H7 (nb+1) 3 x.1 ((GT next st.cols st.sets fr).1.map AaP)∧Blk H7 nb 41 (Aag next.length (.slice none 0 0))∧
       ∃cv,SlO Dz (fun _=>False) H7 (nb+1) 101 cv (GT next st.cols st.sets fr).2.1∧(∀k,slB x.1 k→¬slB cv k)∧
        Blk H7 pb 109 (BM cv st.cell (.slice (some ⟨nb,0,none⟩) next.length next.length) fv av)) ?_ ?_
      ·cases hf:Mz next st.cols fr with
       | some i=>
         rw [hpl,hf]
         have hm:GT next st.cols st.sets fr=(st.cols,st.sets,i):=by unfold GT;rw [hf]
         rw [hm]
         (conv=>whnf)
         exact⟨rfl,(_,i),rfl,hA6,by omega,rfl,hcols6,hb6n,cv,hsets6,hdis,hb6⟩
       | none=>
         rw [hpl,hf]
         have hm:GT next st.cols st.sets fr=(st.cols++[fr],st.sets++[0#256],st.cols.length):=by unfold GT;rw [hf]
         rw [hm]
         (conv=>whnf);rw [Aam];refine A2 AL [.int .i64 (fr:Int)] rfl rfl (by decide) (by decide) ?_
         intro q H7 hq hs7 hb7 ha7
         have hle:=hok.le
         have hcols7:=hcols6.agr ha7 (fun k hk=>by have:=(hcols6.lt hk).2;omega) (fun k hk=>hk.elim)
         (conv=>whnf);refine BZ (T:=tI) (S:=fun _=>False) (ys:=[(fr:Int)]) (ds:=[.int .i64 (fr:Int)]) (lo:=nb+1) (xs:=st.cols.map AaP) AL (by simpa using hcols7) (by omega) (fun k hk=>hk.elim)
          (hb7.cells (fun j v hv=>by simpa using hv)) (Ty.reps_one ⟨rfl,Bs (by omega)⟩) rfl (by intro u hu;cases Aad.1 hu;rfl) (by simp only [maxLen,Aam,Aaa];omega) (by simp only [Aam,Aaa];omega) ?_
         intro v8 H8 hcols8 ha8 hs8 hfresh8
         have hold8:∀k,k<H6.size→¬slB (.slice ac (st.cols.map (AaP:Nat→Int)).length capc) k→H8[k]? =H6[k]? :=fun k h1 h2=>by
          rw [ha8 k ⟨by omega,by simpa using h2⟩,ha7 k (by omega)]
         have hsets8:SlO Dz (fun _=>False) H8 (nb+1) 101 cv st.sets:=hsets6.agr (S':=fun k=>k<H6.size∧¬slB (.slice ac (st.cols.map (AaP:Nat→Int)).length capc) k) (fun k hk=>hold8 k hk.1 hk.2)
          (fun k hk=>⟨(hsets6.lt hk).2,fun h=>hdis k h hk⟩) (fun k hk=>hk.elim)
         have hnlt:∀k,k≤nb→¬slB (.slice ac (st.cols.map (AaP:Nat→Int)).length capc) k:=fun k hk h=>by have:=(hcols6.lt h).1;omega
         have hb8n:=hb6n.eq (hold8 nb hb6n.lt (hnlt nb (by omega)))
         have hb8:=hb6.eq (hold8 pb hb6.lt (hnlt pb (by omega)))
         (conv=>whnf);refine fa K7 ?_
         (conv=>whnf);refine ld1 (v:=cv) Rd (by rw [hb8.cell];exact MQ) trivial ?_
         (conv=>whnf);refine Cv BW (Bm 0) rfl (Af 0) rfl ?_
         (conv=>whnf);refine A2 DU (Af 0) rfl rfl (by decide) (by decide) ?_
         intro q2 H9 hq2 hs9 hb9 ha9
         have hlt8:=hb8.lt
         have hlt8n:=hb8n.lt
         (conv=>whnf);refine BZ (T:=Dz) (S:=fun _=>False) (ys:=[0#256]) (ds:=Af 0) (lo:=nb+1) (xs:=st.sets) DU (hsets8.agr ha9 (fun k hk=>by have:=(hsets8.lt hk).2;omega) (fun k hk=>hk.elim)) (by omega) (fun k hk=>hk.elim)
          (hb9.cells (fun j v hv=>by simpa using hv)) (Ty.reps_one rfl) rfl (by intro u hu;simp only [Af,Abk,List.not_mem_nil,or_false]at hu;rcases hu with rfl | rfl | rfl | rfl<;>rfl)
          (by have:=hok.len;simp only [maxLen,Aaa];omega) (by have:=hok.len;simp only [Aaa];omega) ?_
         intro v9 H10 hsets10 ha10 hs10 hfresh10
         have hdcv:∀k,k≤nb→¬slB cv k:=fun k hk h=>by have:=(hsets6.lt h).1;omega
         have hb10:=(hb8.agr ha9 (by omega)).agr ha10 ⟨by omega,hdcv pb (by omega)⟩
         (conv=>whnf);refine fa K7 ?_
         (conv=>whnf);refine st1 Rd hb10 (by rw [HE hcl];omega) hsets10.one ?_
         intro H11 hb11 ha11 hs11
         (conv=>whnf)
         have hcols8lt:∀k,slB v8 k→k<H8.size∧nb+1≤k:=fun k hk=>⟨(hcols8.lt hk).2,(hcols8.lt hk).1⟩
         have hdis8:∀k,slB v8 k→¬slB cv k:=fun k hk hc=>by
          rcases hfresh8 k hk with h | h
          ·exact hdis k (by simpa using h) hc
          ·have:=(hsets6.lt hc).2;omega
         have hcols10:=(hcols8.agr ha9 (fun k hk=>by have:=hcols8lt k hk;omega) (fun k hk=>hk.elim)).agr ha10 (fun k hk=>⟨by have:=hcols8lt k hk;omega,hdis8 k hk⟩) (fun k hk=>hk.elim)
         have hb10n:=(hb8n.agr ha9 (by omega)).agr ha10 ⟨by omega,hdcv nb (by omega)⟩
         refine⟨rfl,(v8,st.cols.length),rfl,?_,by omega,rfl,?_,hb10n.agr ha11 (by omega),v9,hsets10.agr ha11 (fun k hk=>by have:=(hsets10.lt hk).1;omega) (fun k hk=>hk.elim),?_,?_⟩
         ·intro k hk
          rw [ha11 k hk.2,ha10 k ⟨by omega,hdcv k (by omega)⟩,ha9 k (by omega),hold8 k (by omega) (hnlt k (by omega)),hA6 k hk]
         ·have:=hcols10.agr ha11 (fun k hk=>by have:=hcols8lt k hk;omega) (fun k hk=>hk.elim)
          simpa using this
         ·intro k hk hk9
          rcases hfresh10 k hk9 with h | h
          ·exact hdis8 k hk h
          ·have:=hcols8lt k hk;omega
         ·rw [Nat.add_zero,PF]at hb11;exact hb11
      ·rintro⟨v7,p⟩ H7 junk4 ⟨hA7,hs7,hp,hcols7,hb7n,cv7,hsets7,hdis7,hb7⟩
       dsimp only at hp hcols7 hdis7
       have hok2:=RB (next:=next) hok.len hok.le hok.cols hfb
       have hmr:Cp next cells sp (b+1)=OK next cells st b (sp b):=by rw [←hst];rfl
       generalize hr:GT next st.cols st.sets fr=r at*
       obtain⟨cols',sets',p'⟩:=r
       dsimp only at hp hcols7 hsets7 hok2
       subst hp
       obtain⟨h21,h22,h23,h24,h25⟩:=hok2
       have hmr2:Cp next cells sp (b+1)=⟨cols',sets'.set p (sets'.getD p 0#256 ||| sp b),st.cell++[p]⟩:=by
        rw [hmr];unfold OK;rw [hfr,hr]
       obtain⟨bq,capq,lq,csq,rfl,hloq,hblkq,hlenq,hgetq,hrepsq,hputq⟩:=hsets7.place (i:=p) (by omega)
       have hpb7:=hb7.lt
       (conv=>whnf);refine fa Ru ?_
       (conv=>whnf);refine ixa WV (by omega) (by omega) ?_
       rw [w8 (x:=(p:Int)) (by omega) (by omega)]
       (conv=>whnf);refine st1 ct5 hb7 (by rw [HE hcl];omega) rfl ?_
       intro H8 hb8 ha8 hs8
       rw [show 0+1+(b:Int).toNat*1=1+st.cell.length by rw [hok.cell];omega,PE (by rw [hok.cell];omega)]at hb8
       (conv=>whnf)
       refine Ar.held (Old H8) 19 (sq [0,1,2,3,4,5,6,7,8,9,10,11,12,13,14,15] (.f 16 (.f 17 (sq [18] (.f 19 .e))))) rfl (by kernel_rfl) ?_
       (conv=>whnf);refine fa K7 ?_
       (conv=>whnf);refine ld1 (v:=.slice (some ⟨bq,0,none⟩) sets'.length capq) Rd (by rw [hb8.cell];exact MQ) (show pb<H8.size by omega) ?_
       (conv=>whnf);refine fa K7 ?_
       (conv=>whnf);refine ld1 (v:=.slice (some ⟨bq,0,none⟩) sets'.length capq) Rd (by rw [hb8.cell];exact MQ) (show pb<H8.size by omega) ?_
       (conv=>whnf);refine ix DU (by omega) (by omega) ?_
       obtain⟨x0,hx0⟩:=Ad (l:=sets') (k:=p) (by omega)
       obtain⟨c0,hc0,rfl⟩:=hgetq x0 hx0
       have hbqb:bq≠pb:=by omega
       (conv=>whnf);refine ldN (cs:=Af x0) AU (by rw [Aab,Aah];exact hc0.eq (ha8 bq hbqb)) (show bq<H8.size by have:=hblkq.lt;omega) ?_
       (conv=>whnf);rw [w8 (x:=(b:Int)) (by omega) (by omega)]
       refine Ao (Fu b b (by omega) (by omega) H8) ?_
       intro H9 ha9
       refine⟨ha9,?_⟩
       (conv=>whnf);refine Ao (FG x0 (AE b b) H9) ?_
       intro H10 ha10
       have hs89:=Bx ha9
       have ha810:Agr (Old H8) H8 H10:=ha9.trans (ha10.mono fun k hk=>by unfold Old at*;omega)
       refine⟨ha810,?_⟩
       (conv=>whnf);refine ix DU (by omega) (by omega) ?_
       have hs810:=Bx ha810
       have hblk10:=(hblkq.agr ha8 hbqb).agr ha810 (show bq<H8.size by have:=hblkq.lt;omega)
       (conv=>whnf);refine stN rfl hblk10 (by rw [Aab,Aah];exact hlenq) rfl ?_
       intro H11 hb11 ha11 hs11
       (conv=>whnf);rw [w64 (x:=(b:Int)+1) (by omega) (by omega)]
       have hlt7:∀k,slB v7 k→nb+1≤k∧k<H7.size:=fun k hk=>hcols7.lt hk
       have hcols11:=((hcols7.agr ha8 (fun k hk=>by have:=hlt7 k hk;omega) (fun k hk=>hk.elim)).agr ha810 (fun k hk=>by have:=hlt7 k hk;unfold Old;omega) (fun k hk=>hk.elim)).agr ha11
        (fun k hk hkb=>by subst hkb;exact hdis7 _ hk ⟨0,_,_,rfl⟩) (fun k hk=>hk.elim)
       have hb11n:=(((hb7n.agr ha8 (show nb≠pb by omega)).agr ha810 (show nb<H8.size by have:=hb7n.lt;omega)).agr ha11 (show nb≠bq by omega))
       have hb11p:=(hb8.agr ha810 (show pb<H8.size by omega)).agr ha11 (show pb≠bq from Ne.symm hbqb)
       refine⟨rfl,(b+1,v7),by simp,⟨by omega,?_,by omega,?_,hb11n,.slice (some ⟨bq,0,none⟩) sets'.length capq,?_,hdis7,?_⟩,by omega⟩
       ·intro k hk
        rw [ha11 k (by omega),ha810 k (by unfold Old;omega),ha8 k hk.2,hA7 k hk]
       ·rw [hmr2];exact hcols11
       ·rw [hmr2]
        have hg:sets'.getD p 0#256=x0:=by rw [Aat,hx0];rfl
        rw [hg,←hsp]
        rw [Aab,Aah]at hb11
        have:=hputq H11 (Af (x0 ||| AE b b)) (x0 ||| AE b b) hb11 (fun k hk=>hk.elim) rfl
        exact this
       ·rw [hmr2];exact hb11p
    ·have hbit:c.getLsbD b=false:=Ma (by omega) hcf
     rw [hbit]
     (conv=>whnf);rw [w64 (x:=(f:Int)+1) (by omega) (by omega)]
     exact⟨rfl,f+1,by simp,⟨ha35,by omega⟩,by omega⟩
  ·have hb':b=256:=by omega
   subst hb'
   have hok:=HL (next:=next) (sp:=sp) hcell 256 (by omega)
   generalize hst:Cp next cells sp 256=st at*
   have hlec:=hok.le
   have hlen:=hok.len
   (conv=>whnf)
   refine A3.mk [95] (fun q:Nat=>[.int .i64 q]) (fun q H4=>q≤next.length∧Agr (fun k=>k<H3.size∧k≠nb) H3 H4∧H3.size≤H4.size∧∃vs:List Value,vs.length=next.length∧Blk H4 nb 41 vs∧
    (∀i,q≤i→i<next.length→vs[i]? =some (.slice none 0 0))∧∀i v row,i<q→vs[i]? =some v→next[i]? =some row→SlO tI (fun _=>False) H4 H3.size 3 v (Fq st.cols row)) (fun q _=>next.length - q) ?_ ?_
   ·(conv=>whnf)
    refine⟨0,rfl,by omega,Agr.refl _ _,Aan _,_,by simp,hb3n,fun i _ hi=>by simp [hi],fun i v row hi=>by omega⟩
   ·rintro q H4 junk2 ⟨hq,ha4,hs4,vs,hvl,hb4n,hnil,hdone⟩
    have hnb3:=hb3n.lt
    have hpb3:=hb3.lt
    have hA4:Agr (fun k=>k<H.size∧k≠pb) H H4:=hA3.trans (ha4.mono fun k hk=>by omega)
    (conv=>whnf);refine AB.mk (fun h=>?_) (fun h=>?_)<;>simp only [decide_eq_true_eq,decide_eq_false_iff_not]at h
    ·obtain⟨row,hrow⟩:=Ad (l:=next) (k:=q) (by omega)
     obtain⟨hrl,hrq⟩:=hrows row (Aae hrow)
     have hn4:=hn.frame (hA4.mono fun k hk=>hS k hk)
     (conv=>whnf);refine ixr DH hn4 hrow rfl ?_
     rintro b2 o2 cs2 hSb2 hcells2 ⟨ra,rc,rfl,hr⟩
     (conv=>whnf);refine ld1 CW hcells2.one trivial ?_
     (conv=>whnf);rw [Aam]
     refine A3.mk [102] (fun j:Nat=>[.int .i64 j]) (fun j H5=>j≤st.cols.length∧Agr (fun k=>k<H4.size∧k≠nb) H4 H5∧H4.size≤H5.size∧∃vcur,Blk H5 nb 41 (vs.set q vcur)∧
      SlO tI (fun _=>False) H5 H4.size 3 vcur (Fq (st.cols.take j) row)) (fun j _=>st.cols.length - j) ?_ ?_
     ·(conv=>whnf)
      refine⟨0,rfl,by omega,Agr.refl _ _,Aan _,.slice none 0 0,?_,SlO.nil⟩
      have:vs.set q (.slice none 0 0)=vs:=by
       have h1:=hnil q (Aan _) (by omega)
       rw [Aac]at h1
       obtain⟨h2,h3⟩:=h1
       rw [←h3];exact List.set_getElem_self h2
      rw [this];exact hb4n
     ·rintro j H5 junk3 ⟨hj,ha5,hs5,vcur,hb5n,hcur⟩
      have hA35:Agr (fun k=>k<H3.size∧k≠nb) H3 H5:=ha4.trans (ha5.mono fun k hk=>by omega)
      have hb5:=hb3.agr hA35 ⟨hpb3,by omega⟩
      have hcols5:=hcols.agr hA35 (fun k hk=>by have:=hcols.lt hk;omega) (fun k hk=>hk.elim)
      obtain⟨av5,capv5,he5,hview,hblk⟩:=hcols5.view (S':=fun k=>k<H3.size) (fun k hk=>(hcols.lt hk).2) (fun k hk=>hk.elim)
      cases he5
      (conv=>whnf);refine AB.mk (fun h=>?_) (fun h=>?_)<;>simp only [decide_eq_true_eq,decide_eq_false_iff_not]at h
      ·obtain⟨c0,hc0⟩:=Ad (l:=st.cols) (k:=j) (by omega)
       have hc0m:=hok.cols c0 (Aae hc0)
       (conv=>whnf);refine JH (x:=(c0:Int)) AL hview (by simp) (by simp [hc0]) rfl ?_
       rintro b3 o3 cs3 hSb3 hcells3 ⟨rfl,-⟩
       (conv=>whnf);refine ld1 ct3 hcells3.one trivial ?_
       obtain⟨acu,capcu,rfl,-,-⟩:=hcur.view (S':=fun k=>slB vcur k) (fun k hk=>hk) (fun k hk=>hk.elim)
       (conv=>whnf)
       refine Ar.held (fun k=>k<H4.size) 19 (sq [0,1,2,3,4,5,6,7,8,9,10,11,12,13,14,15] (.f 16 (.f 17 (sq [18] (.f 19 .e))))) rfl (by kernel_rfl) ?_
       have hb5nq:cell H5 nb (0+(q:Int).toNat*1)=some (.slice acu (Fq (st.cols.take j) row).length capcu):=by
        rw [hb5n.cell,show 0+(q:Int).toNat*1=q by omega,Aai (by omega)]
       have hr5:=hr.frame (ha5.mono fun k hk=>by have:=hS k hk;omega)
       have hv257:cell H5 pb (0+257)=some (.slice (some ⟨nb,0,none⟩) next.length next.length):=by
        rw [hb5.cell,Aab];exact EW (by rw [hok.cell];omega)
       (conv=>whnf);refine fa F5 ?_
       (conv=>whnf);refine ld1 DZ hv257 (show pb<H4.size by omega) ?_
       (conv=>whnf);refine fa F5 ?_
       (conv=>whnf);refine ld1 DZ hv257 (show pb<H4.size by omega) ?_
       (conv=>whnf);refine ix DH (by omega) (by omega) ?_
       (conv=>whnf);refine ld1 CW hb5nq (show nb<H4.size by omega) ?_
       obtain⟨x0,hx0⟩:=Ad (l:=row) (k:=c0) (by omega)
       (conv=>whnf);refine ixr AL hr5 hx0 rfl ?_
       rintro b4 o4 cs4 hSb4 hcells4 ⟨rfl,hx0k⟩
       (conv=>whnf);refine ld1 ct3 hcells4.one (show b4<H4.size by have:=hS b4 hSb4;omega) ?_
       (conv=>whnf);refine A2 AL [.int .i64 x0] rfl rfl (by decide) (by decide) ?_
       intro q6 H6 hq6 hs6 hb6 ha6
       refine⟨ha6.mono fun k hk=>by omega,?_⟩
       have hcur6:=hcur.agr ha6 (fun k hk=>by have:=(hcur.lt hk).2;omega) (fun k hk=>hk.elim)
       have hrl2:(Fq (st.cols.take j) row).length≤256:=by simp [Fq];omega
       (conv=>whnf);refine BZ (T:=tI) (S:=fun _=>False) (ys:=[x0]) (ds:=[.int .i64 x0]) (lo:=H4.size) (xs:=Fq (st.cols.take j) row) AL hcur6 (by omega) (fun k hk=>hk.elim)
         (hb6.cells (fun j v hv=>by simpa using hv)) (Ty.reps_one ⟨rfl,hx0k⟩) rfl (by intro u hu;cases Aad.1 hu;rfl) (by simp only [maxLen,Aaa];omega) (by simp only [Aaa];omega) ?_
       intro v7 H7 hcur7 ha7 hs7 hfresh7
       refine⟨fun k hk=>?_,?_⟩
       ·rw [ha7 k ⟨by omega,fun h=>by have:=(hcur.lt h).1;omega⟩,ha6 k (by omega)]
       have hb7n:=(hb5n.agr ha6 (by omega)).agr ha7 ⟨by omega,fun h=>by have:=(hcur.lt h).1;omega⟩
       (conv=>whnf);refine ix DH (by omega) (by omega) ?_
       (conv=>whnf);refine st1 CW hb7n (by simp;omega) hcur7.one ?_
       intro H8 hb8 ha8 hs8
       (conv=>whnf);rw [w64 (x:=(j:Int)+1) (by omega) (by omega)]
       refine⟨rfl,j+1,by simp,⟨by omega,?_,by omega,v7,?_,?_⟩,by omega⟩
       ·intro k hk
        rw [ha8 k hk.2,ha7 k ⟨by omega,fun h=>by have:=(hcur.lt h).1;omega⟩,ha6 k (by omega),ha5 k hk]
       ·rw [show 0+(q:Int).toNat*1=q by omega,List.set_set]at hb8
        exact hb8
       ·have:=hcur7.agr ha8 (fun k hk=>by have:=(hcur7.lt hk).1;omega) (fun k hk=>hk.elim)
        have e1:Fq (st.cols.take (j+1)) row=Fq (st.cols.take j) row++[x0]:=by
         unfold Fq
         rw [Ac hc0,AaB]
         simp [hx0]
        rw [e1];exact this
      ·have hj':j=st.cols.length:=by omega
       subst hj'
       rw [Aal]at hcur
       (conv=>whnf);rw [w64 (x:=(q:Int)+1) (by omega) (by omega)]
       refine⟨rfl,q+1,by simp,⟨by omega,hA35,by omega,vs.set q vcur,by simp [hvl],hb5n,?_,?_⟩,by omega⟩
       ·intro i h1 h2
        rw [Aaj (by omega)]
        exact hnil i (by omega) h2
       ·intro i v row' hi hv hrow'
        by_cases hiq:i=q
        ·subst hiq
         rw [Aai (by omega)]at hv
         rw [hrow]at hrow'
         cases hv;cases hrow'
         exact hcur.lower (by omega)
        ·rw [Aaj (by omega)]at hv
         have hd:=hdone i v row' (by omega) hv hrow'
         exact hd.agr ha5 (fun k hk=>by have:=hd.lt hk;omega) (fun k hk=>hk.elim)
    ·have hq':q=next.length:=by omega
     subst hq'
     (conv=>whnf)
     have hs23:H2.size≤H3.size:=hs3
     obtain⟨ac9,capc9,he9,hview9,-⟩:=(hsets.agr ha4 (fun k hk=>by have:=hsets.lt hk;omega) (fun k hk=>hk.elim)).view (S':=fun k=>H.size≤k∧k<H4.size)
      (fun k hk=>by have:=hsets.lt hk;omega) (fun k hk=>hk.elim)
     subst he9
     refine⟨hA4,by omega,ac9,capc9,some ⟨nb,0,none⟩,next.length,hb3.agr ha4 ⟨hpb3,by omega⟩,hview9,SlD.intro (show H.size≤nb∧nb<H4.size by omega) (by simp) (by simp [maxLen];omega) (hb4n.cells (cs:=vs) (fun j v hv=>by simpa using hv)) ?_⟩
     refine ES (by simp [hvl]) fun i v x hv hx=>?_
     rw [Aax]at hx
     obtain⟨row,hrow,rfl⟩:=Option.map_eq_some_iff.1 hx
     have hd:=hdone i v row (Aac.1 hrow).1 hv hrow
     obtain⟨a0,cap0,rfl,hv0,-⟩:=hd.view (S':=fun k=>H.size≤k∧k<H4.size) (fun k hk=>by have:=hd.lt hk;omega) (fun k hk=>hk.elim)
     exact⟨a0,cap0,rfl,hv0⟩
inductive GL(rows:List (List Int))(fin:List Bool):Nat→Prop
 | fin {q:Nat}:fin[q]? =some true→GL rows fin q
 | step {q t:Nat} {row:List Int}:rows[q]? =some row→(t:Int)∈row→GL rows fin t→GL rows fin q
def KV(rows:List (List Int))(q j t:Nat)(p:Int):Prop:=∃(q':Nat) (row:List Int),p=(q':Int)∧rows[q']? =some row∧(q'<q∧(t:Int)∈row∨q'=q∧(t:Int)∈row.take j)
def nF(al:List Bool):Nat:=al.count false
theorem Qq{al:List Bool}{p:Nat}(h:al[p]? =some false):nF (al.set p true)+1=nF al:=by
 unfold nF
 induction al generalizing p with
 | nil=>simp at h
 | cons a al ih=>
   cases p with
   | zero=>simp at h;subst h;simp [Abj]
   | succ p=>simp at h;simp only [AaG,Abj];have:=ih h;omega
structure WI(rows:List (List Int))(final:List Bool)(bk:List (List Int))(al:List Bool)(td:List Int)(ex:Option (Nat×Nat)):Prop where
 len:al.length=rows.length
 sound:∀q:Nat,al[q]? =some true→GL rows final q
 fin:∀q:Nat,final[q]? =some true→al[q]? =some true
 tdok:∀x∈td,∃q:Nat,x=(q:Int)∧al[q]? =some true
 cnt:td.length+nF al≤rows.length
 closed:∀(q:Nat) (x:List Int),al[q]? =some true→bk[q]? =some x→(q:Int)∈td∨(∀p∈x,al[p.toNat]? =some true)∨∃j,ex=some (q,j)∧∀p∈x.take j,al[p.toNat]? =some true
def Xn(rows:List (List Int))(bk:List (List Int)):Prop:=bk.length=rows.length∧∀(t:Nat) (x:List Int),bk[t]? =some x→∀p,p∈x↔∃(q':Nat) (row:List Int),p=(q':Int)∧rows[q']? =some row∧(t:Int)∈row
section
variable{rows:List (List Int)}{final:List Bool}{bk:List (List Int)}{al:List Bool}{td:List Int}
theorem WI.pop{q:Nat}(h:WI rows final bk al (td++[(q:Int)]) none):WI rows final bk al td (some (q,0)):=by
 refine⟨h.len,h.sound,h.fin,fun x hx=>h.tdok x (AaC _ hx),by have:=h.cnt;simp at this;omega,fun q' x hq' hx=>?_⟩
 rcases h.closed q' x hq' hx with h1 | h1 | ⟨j,h1,_⟩
 ·rcases Aak.1 h1 with h1 | h1
  ·exact .inl h1
  ·rw [Aad]at h1
   have:q'=q:=by omega
   subst this
   exact .inr (.inr ⟨0,rfl,by simp⟩)
 ·exact .inr (.inl h1)
 ·cases h1
theorem WI.skip{q j pn:Nat}{x:List Int}(h:WI rows final bk al td (some (q,j)))(hx:bk[q]? =some x)(hj:x[j]? =some (pn:Int))(hp:al[pn]? =some true):WI rows final bk al td (some (q,j+1)):=by
 refine⟨h.len,h.sound,h.fin,h.tdok,h.cnt,fun q' x' hq' hx'=>?_⟩
 rcases h.closed q' x' hq' hx' with h1 | h1 | ⟨j',h1,h2⟩
 ·exact .inl h1
 ·exact .inr (.inl h1)
 ·cases h1
  rw [hx]at hx';cases hx'
  refine .inr (.inr ⟨j+1,rfl,fun p hp'=>?_⟩)
  rw [Ac hj,Aak,Aad]at hp'
  rcases hp' with hp' | rfl
  ·exact h2 p hp'
  ·simpa using hp
theorem WI.mark{q j pn:Nat}{x:List Int}(hbk:Xn rows bk)(h:WI rows final bk al td (some (q,j)))(hq:al[q]? =some true)(hx:bk[q]? =some x)(hj:x[j]? =some (pn:Int))(hp:al[pn]? =some false):
  WI rows final bk (al.set pn true) (td++[(pn:Int)]) (some (q,j+1)):=by
 have hlt:pn<al.length:=(Aac.1 hp).1
 have keep:∀i,al[i]? =some true→(al.set pn true)[i]? =some true:=fun i hi=>by
  by_cases h1:pn=i
  ·subst h1;rw [Aai hlt]
  ·rw [Aaj h1];exact hi
 have live:GL rows final pn:=by
  obtain⟨q',row,h1,h2,h3⟩:=(hbk.2 q x hx (pn:Int)).1 (Aae hj)
  have:pn=q':=by omega
  subst this
  exact .step h2 h3 (h.sound q hq)
 refine⟨by simp [h.len],fun i hi=>?_,fun i hi=>keep i (h.fin i hi),fun y hy=>?_,?_,fun q' x' hq' hx'=>?_⟩
 ·by_cases h1:pn=i
  ·subst h1;exact live
  ·rw [Aaj h1]at hi;exact h.sound i hi
 ·rcases Aak.1 hy with hy | hy
  ·obtain⟨i,h1,h2⟩:=h.tdok y hy
   exact⟨i,h1,keep i h2⟩
  ·rw [Aad]at hy
   exact⟨pn,hy,by rw [Aai hlt]⟩
 ·have h1:=Qq hp
  have h2:=h.cnt
  simp only [Aaf,Aaa];omega
 ·by_cases h1:pn=q'
  ·subst h1
   exact .inl (Aa9 _ (Aad.2 rfl))
  ·rw [Aaj h1]at hq'
   rcases h.closed q' x' hq' hx' with h2 | h2 | ⟨j',h2,h3⟩
   ·exact .inl (AaC _ h2)
   ·exact .inr (.inl fun p hp'=>keep _ (h2 p hp'))
   ·cases h2
    rw [hx]at hx';cases hx'
    refine .inr (.inr ⟨j+1,rfl,fun p hp'=>?_⟩)
    rw [Ac hj,Aak,Aad]at hp'
    rcases hp' with hp' | rfl
    ·exact keep _ (h3 p hp')
    ·rw [Aah,Aai hlt]
theorem WI.done{q:Nat}{x:List Int}(h:WI rows final bk al td (some (q,x.length)))(hx:bk[q]? =some x):WI rows final bk al td none:=by
 refine⟨h.len,h.sound,h.fin,h.tdok,h.cnt,fun q' x' hq' hx'=>?_⟩
 rcases h.closed q' x' hq' hx' with h1 | h1 | ⟨j',h1,h2⟩
 ·exact .inl h1
 ·exact .inr (.inl h1)
 ·cases h1
  rw [hx]at hx';cases hx'
  rw [Aal]at h2
  exact .inr (.inl h2)
theorem WI.finish(hbk:Xn rows bk)(hr:∀row∈rows,∀t∈row,0≤t∧t<(rows.length:Int))(h:WI rows final bk al [] none)(q:Nat):al[q]? =some true↔GL rows final q:=by
 refine⟨h.sound q,fun hl=>?_⟩
 induction hl with
 | fin hf=>exact h.fin _ hf
 | @step q t row h1 h2 _ ih=>
   have ht:=hr row (Aae h1) _ h2
   obtain⟨x,hx⟩:=Ad (l:=bk) (k:=t) (by rw [hbk.1];omega)
   have hm:(q:Int)∈x:=(hbk.2 t x hx (q:Int)).2 ⟨q,row,rfl,h1,h2⟩
   rcases h.closed t x ih hx with h3 | h3 | ⟨_,h3,_⟩
   ·cases h3
   ·simpa using h3 _ hm
   ·cases h3
end
theorem Yo(pb:Nat)(cv av:Value)(cell:List Nat)(an af:Option Addr)(capn capf:Nat)(rows:List (List Int))(final:List Bool)(S:Nat→Prop)(H:Aa)(hS:∀k,S k→k<H.size∧k≠pb)
  (hb:Blk H pb 109 (BM cv cell (.slice an rows.length capn) (.slice af final.length capf) av)) (hcl:cell.length≤256) (hn:SlD GQ S H an capn rows) (hf:SlD A1 S H af capf final)
  (hr1:rows.length≤65536) (hfl:final.length=rows.length) (hrows:∀row∈rows,row.length≤256∧∀t∈row,0≤t∧t<(rows.length:Int)):
  Al Tryz.prog 117 #[.pointer (some ⟨pb,0,none⟩)] H fun v H'=>Agr (fun k=>k<H.size∧k≠pb) H H'∧H.size≤H'.size∧
   ∃(al:List Bool) (aa:Option Addr) (capa:Nat),al.length=rows.length∧(∀q,q<rows.length→(al[q]? =some true↔GL rows final q))∧
    Blk H' pb 109 (BM cv cell (.slice an rows.length capn) (.slice af final.length capf) (.slice aa al.length capa))∧SlD A1 (fun k=>H.size≤k∧k<H'.size) H' aa capa al:=by
 have hpb:=hb.lt
 refine Al.of_vc Tryz.func117 rfl (Tryz.call117 _) ?_
 (conv=>whnf);refine fa F5 ?_
 (conv=>whnf);refine ld1 DZ (by rw [hb.cell,Aab];exact EW hcl) trivial ?_
 (conv=>whnf);refine Eo DH rfl (by omega) (by omega) (by omega) (by omega) ?_
 intro nb H1 hnb hs1 hb1n ha1
 rw [Aah]at hb1n
 have hb1:=hb.agr ha1 (show pb<nb by omega)
 (conv=>whnf);refine fa F5 ?_
 (conv=>whnf);refine ld1 DZ (by rw [hb1.cell,Aab];exact EW hcl) trivial ?_
 (conv=>whnf)
 refine A3.mk [24] (fun q:Nat=>[.int .i64 q]) (fun q H2=>q≤rows.length∧Agr (fun k=>k<H1.size∧k≠nb) H1 H2∧H1.size≤H2.size∧∃vs bk,Tab tI (fun _=>False) H2 (nb+1) 3 nb 41 vs bk∧bk.length=rows.length∧
  (∀(t:Nat) (x:List Int),bk[t]? =some x→x.length≤q*256∧∀p,p∈x↔KV rows q 0 t p)) (fun q _=>rows.length - q) ?_ ?_
 ·(conv=>whnf)
  refine⟨0,rfl,by omega,Agr.refl _ _,Aan _,_,_,Tab.new hb1n (by omega),by simp,fun t x hx=>?_⟩
  rw [Aa6]at hx
  split at hx
  ·cases hx
   refine⟨by simp,fun p=>⟨(fun h=>by cases h),?_⟩⟩
   rintro⟨q',row,_,_,⟨h,_⟩ | ⟨_,h⟩⟩
   ·omega
   ·simp at h
  ·cases hx
 ·rintro q H2 junk ⟨hq,ha2,hs2,vs,bk,htab,hbkl,hbk⟩
  have hA2:Agr (fun k=>k<H.size∧k≠pb) H H2:=(ha1.mono fun k hk=>by omega).trans (ha2.mono fun k hk=>by omega)
  have hb2:=hb1.agr ha2 ⟨by omega,by omega⟩
  (conv=>whnf);refine AB.mk (fun h=>?_) (fun h=>?_)<;>simp only [decide_eq_true_eq,decide_eq_false_iff_not]at h
  ·obtain⟨row,hrow⟩:=Ad (l:=rows) (k:=q) (by omega)
   obtain⟨hrl,hrt⟩:=hrows row (Aae hrow)
   (conv=>whnf);refine ixr DH (hn.frame (hA2.mono fun k hk=>hS k hk)) hrow rfl ?_
   rintro b2 o2 cs2 hSb2 hcells2 ⟨ra,rc,rfl,hr⟩
   (conv=>whnf);refine ld1 CW hcells2.one trivial ?_
   (conv=>whnf)
   refine A3.mk [31] (fun j:Nat=>[.int .i64 j]) (fun j H3=>j≤row.length∧Agr (fun k=>k<H1.size∧k≠nb) H2 H3∧H1.size≤H3.size∧∃vs bk,Tab tI (fun _=>False) H3 (nb+1) 3 nb 41 vs bk∧bk.length=rows.length∧
    (∀(t:Nat) (x:List Int),bk[t]? =some x→x.length≤q*256+j∧∀p,p∈x↔KV rows q j t p)) (fun j _=>row.length - j) ?_ ?_
   ·(conv=>whnf);exact⟨0,rfl,by omega,Agr.refl _ _,hs2,vs,bk,htab,hbkl,hbk⟩
   ·clear htab hbkl hbk vs bk
    rintro j H3 junk2 ⟨hj,ha3,hs3,vs,bk,htab,hbkl,hbk⟩
    have hr3:=hr.frame (ha3.mono fun k hk=>by have:=hS k hk;omega)
    (conv=>whnf);refine AB.mk (fun h=>?_) (fun h=>?_)<;>simp only [decide_eq_true_eq,decide_eq_false_iff_not]at h
    ·obtain⟨ti,hti⟩:=Ad (l:=row) (k:=j) (by omega)
     obtain⟨ht0,ht1⟩:=hrt ti (Aae hti)
     obtain⟨t,rfl⟩:=AaS ht0
     (conv=>whnf);refine ixr AL hr3 hti rfl ?_
     rintro b3 o3 cs3 hSb3 hcells3 ⟨rfl,htk⟩
     (conv=>whnf);refine ld1 ct3 hcells3.one trivial ?_
     obtain⟨v,x,hv,hx,hsl⟩:=htab.get (i:=t) (by omega)
     obtain⟨hxl,hxm⟩:=hbk t x hx
     obtain⟨av3,capv3,rfl,-,-⟩:=hsl.view (S':=fun k=>slB v k) (fun k hk=>hk) (fun k hk=>hk.elim)
     have htlt:t<vs.length:=(Aac.1 hv).1
     (conv=>whnf);refine ix DH (by omega) (by omega) ?_
     (conv=>whnf);refine ld1 CW (by rw [htab.blk.cell,show 0+(t:Int).toNat*1=t by omega];exact hv) trivial ?_
     (conv=>whnf);refine A2 AL [.int .i64 (q:Int)] rfl rfl (by decide) (by decide) ?_
     intro q4 H4 hq4 hs4 hb4 ha4
     have hnb3:=htab.blk.lt
     have htab4:=htab.agr ha4 (by omega) (fun b _ hb=>by omega) (fun k hk=>hk.elim)
     (conv=>whnf);refine BZ (T:=tI) (S:=fun _=>False) (ys:=[(q:Int)]) (ds:=[.int .i64 (q:Int)]) (lo:=nb+1) (xs:=x) AL (htab4.own t _ x hv hx) (by omega) (fun k hk=>hk.elim)
      (hb4.cells (fun j v hv=>by simpa using hv)) (Ty.reps_one ⟨rfl,Bs (by omega)⟩) rfl (by intro u hu;cases Aad.1 hu;rfl) (by simp only [maxLen,Aaa];omega) (by simp only [Aaa];omega) ?_
     intro v5 H5 hown5 ha5 hs5 hfresh5
     have hb5n:=htab4.blk.agr ha5 ⟨by omega,fun hk=>by have:=((htab4.own t _ x hv hx).lt hk).1;omega⟩
     (conv=>whnf);refine ix DH (by omega) (by omega) ?_
     (conv=>whnf);refine st1 CW hb5n (by omega) hown5.one ?_
     intro H6 hb6 ha6 hs6
     rw [show 0+(t:Int).toNat*1=t by omega]at hb6
     (conv=>whnf);rw [w64 (x:=(j:Int)+1) (by omega) (by omega)]
     refine⟨rfl,j+1,by simp,⟨by omega,?_,by omega,_,_,htab4.push hv hown5 ha5 hfresh5 hb6 ha6 (fun k hk=>hk.elim),by simp [hbkl],?_⟩,by omega⟩
     ·intro k hk
      rw [ha6 k hk.2,ha5 k ⟨by omega,fun hb=>by have:=((htab4.own t _ x hv hx).lt hb).1;omega⟩,ha4 k (by omega),ha3 k hk]
     ·intro t' x' hx'
      have hmem:∀p,KV rows q (j+1) t' p↔KV rows q j t' p∨(t'=t∧p=(q:Int)):=by
       intro p
       unfold KV
       constructor
       ·rintro⟨q',row',h1,h2,⟨h3,h4⟩ | ⟨h3,h4⟩⟩
        ·exact .inl ⟨q',row',h1,h2,.inl ⟨h3,h4⟩⟩
        ·subst h3
         rw [hrow]at h2;cases h2
         rw [Ac hti,Aak,Aad]at h4
         rcases h4 with h4 | h4
         ·exact .inl ⟨_,_,h1,hrow,.inr ⟨rfl,h4⟩⟩
         ·exact .inr ⟨by omega,h1⟩
       ·rintro(⟨q',row',h1,h2,⟨h3,h4⟩ | ⟨h3,h4⟩⟩ | ⟨rfl,rfl⟩)
        ·exact⟨q',row',h1,h2,.inl ⟨h3,h4⟩⟩
        ·subst h3
         rw [hrow]at h2;cases h2
         exact⟨_,_,h1,hrow,.inr ⟨rfl,by rw [Ac hti,Aak];exact .inl h4⟩⟩
        ·exact⟨q,row,rfl,hrow,.inr ⟨rfl,by rw [Ac hti,Aak];exact .inr (Aad.2 rfl)⟩⟩
      by_cases htt:t'=t
      ·subst htt
       rw [Aai (by omega)]at hx'
       cases hx'
       refine⟨by simp only [Aaf,Aaa];omega,fun p=>?_⟩
       rw [hmem p,Aak,hxm p,Aad]
       simp
      ·rw [Aaj (Ne.symm htt)]at hx'
       obtain⟨h1,h2⟩:=hbk t' x' hx'
       refine⟨by omega,fun p=>?_⟩
       rw [hmem p,h2 p]
       simp [htt]
    ·have hj':j=row.length:=by omega
     subst hj'
     (conv=>whnf);rw [w64 (x:=(q:Int)+1) (by omega) (by omega)]
     refine⟨rfl,q+1,by simp,⟨by omega,ha2.trans ha3,by omega,vs,bk,htab,hbkl,fun t x hx=>?_⟩,by omega⟩
     obtain⟨g1,g2⟩:=hbk t x hx
     refine⟨by rw [Nat.succ_mul];omega,fun p=>?_⟩
     rw [g2 p]
     unfold KV
     constructor
     ·rintro⟨q',row',h1,h2,⟨h3,h4⟩ | ⟨h3,h4⟩⟩
      ·exact⟨q',row',h1,h2,.inl ⟨by omega,h4⟩⟩
      ·exact⟨q',row',h1,h2,.inl ⟨by omega,AaY h4⟩⟩
     ·rintro⟨q',row',h1,h2,⟨h3,h4⟩ | ⟨h3,h4⟩⟩
      ·by_cases hqq:q'=q
       ·rw [hqq,hrow]at h2;cases h2
        exact⟨q',_,h1,by rw [hqq];exact hrow,.inr ⟨hqq,by rw [Aal];exact h4⟩⟩
       ·exact⟨q',row',h1,h2,.inl ⟨by omega,h4⟩⟩
      ·simp at h4
  ·have hq':q=rows.length:=by omega
   subst hq'
   have hbko:Xn rows bk:=⟨hbkl,fun t x hx p=>by
    rw [(hbk t x hx).2 p]
    unfold KV
    constructor
    ·rintro⟨q',row,h1,h2,⟨h3,h4⟩ | ⟨_,h4⟩⟩
     ·exact⟨q',row,h1,h2,h4⟩
     ·simp at h4
    ·rintro⟨q',row,h1,h2,h4⟩
     exact⟨q',row,h1,h2,.inl ⟨(Aac.1 h2).1,h4⟩⟩⟩
   have hnb2:=htab.blk.lt
   have hback:=htab.view (S':=fun k=>nb≤k∧k<H2.size) hbkl.symm (by simp [maxLen];omega) (fun k h1 h2=>⟨h1,h2⟩) (fun k hk=>hk.elim)
   clear hbk
   (conv=>whnf);refine fa F5 ?_
   (conv=>whnf);refine ld1 DZ (by rw [hb2.cell,Aab];exact EW hcl) trivial ?_
   (conv=>whnf);refine Eo Cs rfl (by omega) (by omega) (by omega) (by omega) ?_
   intro ab H3 hab hs3 hb3a ha3
   rw [Aah]at hb3a
   have hb3:=hb2.agr ha3 (show pb<ab by omega)
   (conv=>whnf);refine fa IZ ?_
   (conv=>whnf);refine st1 FM hb3 (by rw [HE hcl];omega) rfl ?_
   intro H4 hb4 ha4 hs4
   rw [Aab,MT hcl]at hb4
   replace hb3a:=hb3a.agr ha4 (show ab≠pb by omega)
   have hA24:Agr (fun k=>k<H2.size∧k≠pb) H2 H4:=(ha3.mono fun k hk=>by omega).trans (ha4.mono fun k hk=>hk.2)
   (conv=>whnf);refine fa Nk ?_
   (conv=>whnf);refine ld1 FM (by rw [hb4.cell,Aab];exact J8 hcl) trivial ?_
   (conv=>whnf)
   refine A3.mk [7,61] (fun x:Nat×Value=>[x.2,.int .i64 x.1]) (fun x H5=>x.1≤rows.length∧Agr (fun k=>k<H2.size∧k≠pb) H2 H5∧H4.size≤H5.size∧
    Blk H5 pb 109 (BM cv cell (.slice an rows.length capn) (.slice af final.length capf) (.slice (some ⟨ab,0,none⟩) (rows.length:Int).toNat (rows.length:Int).toNat))∧
    ∃al td,al.length=rows.length∧Blk H5 ab 4 (al.map .bool)∧SlO tI (fun _=>False) H5 (ab+1) 3 x.2 td∧
     (∀q,al[q]? =some true↔q<x.1∧final[q]? =some true)∧(∀q:Nat,al[q]? =some true→(q:Int)∈td)∧(∀y∈td,∃q:Nat,y=(q:Int)∧al[q]? =some true)∧td.length+nF al=rows.length) (fun x _=>rows.length - x.1) ?_ ?_
   ·(conv=>whnf)
    refine⟨(0,_),rfl,by omega,hA24,Aan _,hb4,Aag rows.length false,[],by simp,by simpa using hb3a,SlO.nil,fun q=>⟨fun h=>?_,fun h=>by omega⟩,fun q h=>?_,(fun y hy=>by cases hy),by simp [nF,List.count_replicate]⟩
    ·rw [Aa6]at h;split at h<;>simp at h
    ·rw [Aa6]at h;split at h<;>simp at h
   ·rintro⟨i,v7⟩ H5 junk2 ⟨hi,hA5,hs5,hb5,al,td,hall,hb5a,htd,hal1,hal2,hal3,hal4⟩
    dsimp only at hi htd hal1
    (conv=>whnf);refine AB.mk (fun h=>?_) (fun h=>?_)<;>simp only [decide_eq_true_eq,decide_eq_false_iff_not]at h
    ·have hA25:=hA2.trans (hA5.mono fun k hk=>by omega)
     obtain⟨f,hfi⟩:=Ad (l:=final) (k:=i) (by omega)
     (conv=>whnf);refine Am.run ?_
     (conv=>whnf);refine ixr Cs (hf.frame (hA25.mono fun k hk=>hS k hk)) hfi rfl ?_
     rintro b3 o3 cs3 hSb3 hcells3 rfl
     (conv=>whnf);refine ld1 ct4 hcells3.one trivial ?_
     (conv=>whnf);refine AB.mk (fun h2=>?_) (fun h2=>?_)
     ·subst h2
      have hfal:al[i]? =some false:=by
       cases hx:al[i]? with
       | none=>rw [AaL]at hx;omega
       | some b=>
         cases b with
         | false=>rfl
         | true=>have:=((hal1 i).1 hx).1;omega
      (conv=>whnf);refine fa IZ ?_
      (conv=>whnf);refine ld1 FM (by rw [hb5.cell,Aab];exact HD hcl) trivial ?_
      (conv=>whnf);refine ix Cs (by omega) (by omega) ?_
      (conv=>whnf);refine st1 ct4 hb5a (by simp;omega) rfl ?_
      intro H6 hb6a ha6 hs6
      rw [show 0+(i:Int).toNat*1=i by omega]at hb6a
      (conv=>whnf);refine A2 AL [.int .i64 (i:Int)] rfl rfl (by decide) (by decide) ?_
      intro q7 H7 hq7 hs7 hb7 ha7
      have hl5:=hb5.lt
      have hl5a:=hb5a.lt
      have htd7:SlO tI (fun _=>False) H7 (ab+1) 3 v7 td:=(htd.agr ha6 (fun b hb=>by have:=htd.lt hb;omega) (fun k hk=>hk.elim)).agr ha7 (fun b hb=>by have:=htd.lt hb;omega) (fun k hk=>hk.elim)
      have hnf:=Qq hfal
      (conv=>whnf);refine BZ (T:=tI) (S:=fun _=>False) (ys:=[(i:Int)]) (ds:=[.int .i64 (i:Int)]) (lo:=ab+1) (xs:=td) AL htd7 (by omega) (fun k hk=>hk.elim)
       (hb7.cells (fun j v hv=>by simpa using hv)) (Ty.reps_one ⟨rfl,Bs (by omega)⟩) rfl (by intro u hu;cases Aad.1 hu;rfl) (by simp only [maxLen,Aaa];omega) (by simp only [Aaa];omega) ?_
      intro v8 H8 hown8 ha8 hs8 hfresh8
      (conv=>whnf);rw [w64 (x:=(i:Int)+1) (by omega) (by omega)]
      have hsb:∀k,slB v7 k→ab+1≤k:=fun k hk=>(htd.lt hk).1
      refine⟨rfl,(i+1,v8),rfl,⟨by dsimp only;omega,?_,by omega,?_,al.set i true,td++[(i:Int)],by simp [hall],?_,hown8,fun q=>?_,fun q hq=>?_,fun y hy=>?_,?_⟩,by dsimp only;omega⟩
      ·intro k hk
       rw [ha8 k ⟨by omega,fun hb=>by have:=hsb k hb;omega⟩,ha7 k (by omega),ha6 k (by omega),hA5 k hk]
      ·exact((hb5.agr ha6 (by omega)).agr ha7 (by omega)).agr ha8 ⟨by omega,fun hb=>by have:=hsb _ hb;omega⟩
      ·rw [List.map_set]
       exact(hb6a.agr ha7 (by omega)).agr ha8 ⟨by omega,fun hb=>by have:=hsb _ hb;omega⟩
      ·dsimp only
       by_cases hqi:i=q
       ·subst hqi
        rw [Aai (by omega)]
        exact⟨fun _=>⟨by omega,hfi⟩,fun _=>rfl⟩
       ·rw [Aaj hqi,hal1 q]
        constructor
        ·rintro⟨h1,h2⟩;exact⟨by omega,h2⟩
        ·rintro⟨h1,h2⟩;exact⟨by omega,h2⟩
      ·by_cases hqi:i=q
       ·subst hqi;exact Aa9 _ (Aad.2 rfl)
       ·rw [Aaj hqi]at hq
        exact AaC _ (hal2 q hq)
      ·rcases Aak.1 hy with hy | hy
       ·obtain⟨q,h1,h2⟩:=hal3 y hy
        refine⟨q,h1,?_⟩
        by_cases hqi:i=q
        ·subst hqi;rw [Aai (by omega)]
        ·rw [Aaj hqi];exact h2
       ·rw [Aad]at hy
        exact⟨i,hy,by rw [Aai (by omega)]⟩
      ·simp only [Aaf,Aaa];omega
     ·subst h2
      (conv=>whnf);rw [w64 (x:=(i:Int)+1) (by omega) (by omega)]
      refine⟨rfl,(i+1,v7),rfl,⟨by dsimp only;omega,hA5,hs5,hb5,al,td,hall,hb5a,htd,fun q=>?_,hal2,hal3,hal4⟩,by dsimp only;omega⟩
      rw [hal1 q]
      dsimp only
      constructor
      ·rintro⟨h1,h2⟩;exact⟨by omega,h2⟩
      ·rintro⟨h1,h2⟩
       refine⟨?_,h2⟩
       by_cases hqi:q=i
       ·subst hqi;rw [hfi]at h2;cases h2
       ·omega
    ·have hi':i=rows.length:=by omega
     subst hi'
     have hwi:WI rows final bk al td none:=by
      refine⟨hall,fun q hq=>.fin ((hal1 q).1 hq).2,fun q hq=>(hal1 q).2 ⟨?_,hq⟩,hal3,by omega,fun q x hq hx=>.inl (hal2 q hq)⟩
      rw [←hfl];exact(Aac.1 hq).1
     clear hal1 hal2 hal3 hal4
     (conv=>whnf)
     refine A3.mk [7] (fun x:Value×List Bool×List Int=>[x.1]) (fun x H6=>Agr (fun k=>k<H2.size∧k≠pb) H2 H6∧H5.size≤H6.size∧
      Blk H6 pb 109 (BM cv cell (.slice an rows.length capn) (.slice af final.length capf) (.slice (some ⟨ab,0,none⟩) (rows.length:Int).toNat (rows.length:Int).toNat))∧
      Blk H6 ab 4 (x.2.1.map .bool)∧SlO tI (fun _=>False) H6 (ab+1) 3 x.1 x.2.2∧WI rows final bk x.2.1 x.2.2 none) (fun x _=>2*nF x.2.1+x.2.2.length) ?_ ?_
     ·(conv=>whnf)
      exact⟨(v7,al,td),rfl,hA5,Aan _,hb5,hb5a,htd,hwi⟩
     ·clear htd hwi hb5a hb5 hA5 hall
      rintro⟨v7,al,td⟩ H6 junk3 ⟨hA6,hs6,hb6,hb6a,htd,hwi⟩
      dsimp only at htd hb6a hwi
      obtain⟨at7,cap7,rfl,hv7,hsb7⟩:=htd.view (S':=fun k=>ab+1≤k∧k<H6.size) (fun k hk=>htd.lt hk) (fun k hk=>hk.elim)
      (conv=>whnf);refine AB.mk (fun h=>?_) (fun h=>?_)<;>simp only [decide_eq_true_eq,decide_eq_false_iff_not]at h
      ·obtain⟨td0,y,rfl⟩:∃td0 y,td=td0++[y]:=⟨td.dropLast,td.getLast (by intro h2;subst h2;simp at h),(List.dropLast_concat_getLast _).symm⟩
       obtain⟨q,rfl,hqt⟩:=hwi.tdok y (by simp)
       have hql:q<rows.length:=by have:=(Aac.1 hqt).1;have:=hwi.len;omega
       have htl:(td0++[(q:Int)]).length=td0.length+1:=by simp
       have hcnt:=hwi.cnt
       (conv=>whnf);refine ixr (i:=td0.length) (x:=(q:Int)) AL hv7 (by simp) (by rw [w64 (by omega) (by omega)];omega) ?_
       rintro b3 o3 cs3 hSb3 hcells3 ⟨rfl,-⟩
       (conv=>whnf);refine ld1 ct3 hcells3.one trivial ?_
       (conv=>whnf);rw [w64 (x:=((td0++[(q:Int)]).length:Int) - 1) (by omega) (by omega)]
       refine Sh AL (by omega) (by have:=hv7.le;omega) ?_
       rw [show(((td0++[(q:Int)]).length:Int) - 1).toNat=td0.length by omega]
       have htd0:=htd.pop
       clear htd hv7
       obtain⟨xb,hxb⟩:=Ad (l:=bk) (k:=q) (by omega)
       have hback6:=hback.frame (hA6.mono fun k hk=>by omega)
       (conv=>whnf);refine JH DH hback6 (by omega) hxb rfl ?_
       rintro b4 o4 cs4 hSb4 hcells4 ⟨xa,xc,rfl,hxa⟩
       (conv=>whnf);refine ld1 CW hcells4.one trivial ?_
       (conv=>whnf)
       refine A3.mk [7,97] (fun x:Nat×Value×List Bool×List Int=>[x.2.1,.int .i64 x.1]) (fun x H7=>x.1≤xb.length∧Agr (fun k=>k<H2.size∧k≠pb) H6 H7∧H6.size≤H7.size∧
        Blk H7 pb 109 (BM cv cell (.slice an rows.length capn) (.slice af final.length capf) (.slice (some ⟨ab,0,none⟩) (rows.length:Int).toNat (rows.length:Int).toNat))∧
        Blk H7 ab 4 (x.2.2.1.map .bool)∧SlO tI (fun _=>False) H7 (ab+1) 3 x.2.1 x.2.2.2∧WI rows final bk x.2.2.1 x.2.2.2 (some (q,x.1))∧x.2.2.1[q]? =some true∧2*nF x.2.2.1+x.2.2.2.length≤2*nF al+td0.length)
        (fun x _=>xb.length - x.1) ?_ ?_
       ·(conv=>whnf)
        exact⟨(0,_,al,td0),rfl,by dsimp only;omega,Agr.refl _ _,Aan _,hb6,hb6a,htd0,hwi.pop,hqt,Aan _⟩
       ·clear hb6 hb6a htd0
        rintro⟨j,v7,al2,td⟩ H7 junk4 ⟨hj,hA7,hs7,hb7,hb7a,htd,hwi2,hqt2,hmeas⟩
        dsimp only at hj htd hb7a hwi2 hqt2 hmeas
        (conv=>whnf);refine AB.mk (fun h2=>?_) (fun h2=>?_)<;>simp only [decide_eq_true_eq,decide_eq_false_iff_not]at h2
        ·obtain⟨p,hpj⟩:=Ad (l:=xb) (k:=j) (by omega)
         obtain⟨pn,prow,rfl,hprow,-⟩:=(hbko.2 q xb hxb p).1 (Aae hpj)
         have hpl:pn<rows.length:=(Aac.1 hprow).1
         have hall:=hwi2.len
         have hcnt2:=hwi2.cnt
         obtain⟨f,hpf⟩:=Ad (l:=al2) (k:=pn) (by omega)
         have hl7:=hb7.lt
         have hl7a:=hb7a.lt
         (conv=>whnf);refine Am.run ?_
         (conv=>whnf);refine ixr AL (hxa.frame (hA7.mono fun k hk=>by omega)) hpj rfl ?_
         rintro b5 o5 cs5 hSb5 hcells5 ⟨rfl,-⟩
         (conv=>whnf);refine ld1 ct3 hcells5.one trivial ?_
         (conv=>whnf);refine fa IZ ?_
         (conv=>whnf);refine ld1 FM (by rw [hb7.cell,Aab];exact HD hcl) trivial ?_
         (conv=>whnf);refine ix Cs (by omega) (by omega) ?_
         (conv=>whnf);refine ld1 (v:=.bool f) ct4 (by rw [hb7a.cell,show 0+(pn:Int).toNat*1=pn by omega,Aax,hpf];rfl) trivial ?_
         (conv=>whnf);refine AB.mk (fun h3=>?_) (fun h3=>?_)
         ·obtain rfl:f=false:=by simpa using h3
          have hnf:=Qq hpf
          (conv=>whnf);refine fa IZ ?_
          (conv=>whnf);refine ld1 FM (by rw [hb7.cell,Aab];exact HD hcl) trivial ?_
          (conv=>whnf);refine ix Cs (by omega) (by omega) ?_
          (conv=>whnf);refine st1 ct4 hb7a (by simp;omega) rfl ?_
          intro H8 hb8a ha8 hs8
          rw [show 0+(pn:Int).toNat*1=pn by omega]at hb8a
          (conv=>whnf);refine A2 AL [.int .i64 (pn:Int)] rfl rfl (by decide) (by decide) ?_
          intro q9 H9 hq9 hs9 hb9 ha9
          have htd9:SlO tI (fun _=>False) H9 (ab+1) 3 v7 td:=(htd.agr ha8 (fun b hb=>by have:=htd.lt hb;omega) (fun k hk=>hk.elim)).agr ha9 (fun b hb=>by have:=htd.lt hb;omega) (fun k hk=>hk.elim)
          (conv=>whnf);refine BZ (T:=tI) (S:=fun _=>False) (ys:=[(pn:Int)]) (ds:=[.int .i64 (pn:Int)]) (lo:=ab+1) (xs:=td) AL htd9 (by omega) (fun k hk=>hk.elim)
           (hb9.cells (fun j v hv=>by simpa using hv)) (Ty.reps_one ⟨rfl,Bs (by omega)⟩) rfl (by intro u hu;cases Aad.1 hu;rfl) (by simp only [maxLen,Aaa];omega) (by simp only [Aaa];omega) ?_
          intro v10 H10 hown10 ha10 hs10 hfresh10
          (conv=>whnf);rw [w64 (x:=(j:Int)+1) (by have:=hxa.le;simp only [maxLen]at this;omega) (by have:=hxa.le;simp only [maxLen]at this;omega)]
          have hsb:∀k,slB v7 k→ab+1≤k:=fun k hk=>(htd.lt hk).1
          refine⟨rfl,(j+1,v10,al2.set pn true,td++[(pn:Int)]),rfl,⟨by dsimp only;omega,?_,by omega,?_,?_,hown10,hwi2.mark hbko hqt2 hxb hpj hpf,?_,?_⟩,by dsimp only;omega⟩
          ·intro k hk
           rw [ha10 k ⟨by omega,fun hb=>by have:=hsb k hb;omega⟩,ha9 k (by omega),ha8 k (by omega),hA7 k hk]
          ·exact((hb7.agr ha8 (by omega)).agr ha9 (by omega)).agr ha10 ⟨by omega,fun hb=>by have:=hsb _ hb;omega⟩
          ·dsimp only
           rw [List.map_set]
           exact(hb8a.agr ha9 (by omega)).agr ha10 ⟨by omega,fun hb=>by have:=hsb _ hb;omega⟩
          ·dsimp only
           by_cases hpq:pn=q
           ·subst hpq;rw [Aai (by omega)]
           ·rw [Aaj hpq];exact hqt2
          ·simp only [Aaf,Aaa];omega
         ·obtain rfl:f=true:=by simpa using h3
          (conv=>whnf);rw [w64 (x:=(j:Int)+1) (by have:=hxa.le;simp only [maxLen]at this;omega) (by have:=hxa.le;simp only [maxLen]at this;omega)]
          exact⟨rfl,(j+1,v7,al2,td),rfl,⟨by dsimp only;omega,hA7,hs7,hb7,hb7a,htd,hwi2.skip hxb hpj hpf,hqt2,hmeas⟩,by dsimp only;omega⟩
        ·have hj':j=xb.length:=by omega
         subst hj'
         (conv=>whnf)
         exact⟨rfl,(v7,al2,td),rfl,⟨hA6.trans hA7,by omega,hb7,hb7a,htd,hwi2.done hxb⟩,by dsimp only;omega⟩
      ·have htd0:td=[]:=List.eq_nil_of_length_eq_zero (by omega)
       subst htd0
       (conv=>whnf)
       have hall:=hwi.len
       have hl6:=hb6.lt
       refine⟨hA2.trans (hA6.mono fun k hk=>by omega),by omega,al,some ⟨ab,0,none⟩,rows.length,hall,fun q _=>hwi.finish hbko (fun row hrow=>(hrows row hrow).2) q,?_,?_⟩
       ·rw [hall];exact hb6
       ·have hl6a:=hb6a.lt
        refine SlD.intro (show H.size≤ab∧ab<H6.size by omega) (by omega) (by simp only [maxLen];omega) (hb6a.cells (cs:=al.map .bool) (fun j v hv=>by rw [Aab];exact hv)) (ES (by simp) fun i v x hv hx=>?_)
        rw [Aax,hx]at hv
        cases hv;rfl
end Go.Proofs.YtfbghcpdinlmcaaGreatDoor
namespace Go.Proofs.YtfbghcpdinlmcaaGreatDoor
open Go.VC
attribute [local irreducible] Cp
structure AM where
 sets:List (BitVec 256)
 cell:List Nat
 next:List (List Int)
 final:List Bool
def Dp(cells:List (BitVec 256))(next:List (List Int))(final:List Bool):AM:=
 ⟨(Cp next cells (fun b=>AE b b) 256).sets,(Cp next cells (fun b=>AE b b) 256).cell,next.map (Fq (Cp next cells (fun b=>AE b b) 256).cols),final⟩
structure AM.Ok(A:AM):Prop where
 n1:1≤A.next.length
 n2:A.next.length≤65536
 fl:A.final.length=A.next.length
 cell:A.cell.length=256
 places:∀p∈A.cell,p<A.sets.length
 sl:A.sets.length≤256
 rows:∀row∈A.next,row.length=A.sets.length∧∀t∈row,0≤t∧t<(A.next.length:Int)
structure KS(S:Nat→Prop)(H:Aa)(pb:Nat)(A:AM):Prop where
 own:S pb
 ok:A.Ok
 rep:∃ac cc an cn af cf aa ca al,Blk H pb 109 (BM (.slice ac A.sets.length cc) A.cell (.slice an A.next.length cn) (.slice af A.final.length cf) (.slice aa al.length ca))∧
  SlD Dz S H ac cc A.sets∧SlD GQ S H an cn A.next∧SlD A1 S H af cf A.final∧SlD A1 S H aa ca al∧al.length=A.next.length∧∀q:Nat,q<A.next.length→(al[q]? =some true↔GL A.next A.final q)
theorem KS.frame{S:Nat→Prop}{H H':Aa}{pb:Nat}{A:AM}(h:KS S H pb A)(k:Agr S H H'):KS S H' pb A:=by
 obtain⟨h1,h2,ac,cc,an,cn,af,cf,aa,ca,al,h3,h4,h5,h6,h7,h8⟩:=h
 exact⟨h1,h2,ac,cc,an,cn,af,cf,aa,ca,al,h3.agr k h1,h4.frame k,h5.frame k,h6.frame k,h7.frame k,h8⟩
theorem KS.mono{S S':Nat→Prop}{H:Aa}{pb:Nat}{A:AM}(h:KS S H pb A)(k:∀b,S b→S' b):KS S' H pb A:=by
 obtain⟨h1,h2,ac,cc,an,cn,af,cf,aa,ca,al,h3,h4,h5,h6,h7,h8⟩:=h
 exact⟨k _ h1,h2,ac,cc,an,cn,af,cf,aa,ca,al,h3,h4.mono k,h5.mono k,h6.mono k,h7.mono k,h8⟩
def Db(S:Nat→Prop)(H:Aa)(v:Value):Option AM→Prop
 | none=>v= .pointer none
 | some A=>∃pb,v= .pointer (some ⟨pb,0,none⟩)∧KS S H pb A
theorem Db.frame{S:Nat→Prop}{H H':Aa}{v:Value}{o:Option AM}(h:Db S H v o)(k:Agr S H H'):Db S H' v o:=by
 cases o with
 | none=>exact h
 | some A=>obtain⟨pb,h1,h2⟩:=h;exact⟨pb,h1,h2.frame k⟩
theorem Db.mono{S S':Nat→Prop}{H:Aa}{v:Value}{o:Option AM}(h:Db S H v o)(k:∀b,S b→S' b):Db S' H v o:=by
 cases o with
 | none=>exact h
 | some A=>obtain⟨pb,h1,h2⟩:=h;exact⟨pb,h1,h2.mono k⟩
theorem U1{cells:List (BitVec 256)}{next:List (List Int)}{final:List Bool}(h:BK cells next final.length=true):(Dp cells next final).Ok:=by
 obtain⟨n1,n2,n3,hrows⟩:=FF h
 have hm:=HL (next:=next) (sp:=fun b=>AE b b) (fun b hb=>(DV h hb).1) 256 (Aan _)
 have hlen:=hm.len
 have hle:=hm.le
 have hce:=hm.cell
 refine⟨by simpa [Dp]using n1,by simpa [Dp]using n2,by simp [Dp,n3],?_,?_,?_,?_⟩
 ·exact hce
 ·intro p hp
  have:=hm.places p hp
  simp only [Dp];omega
 ·simp only [Dp];omega
 ·intro row hrow
  simp only [Dp,Abe]at hrow
  obtain⟨r,hr,rfl⟩:=hrow
  refine⟨by simp only [Fq,Dp,Aam];omega,fun t ht=>?_⟩
  obtain⟨c,hc,rfl⟩:=Abe.1 ht
  have hc':=hm.cols c hc
  have:=hrows r hr
  simp only [Dp,Aam]
  rw [Aat,AaN (by omega),Abh]
  exact this.2 _ (List.getElem_mem _)
theorem Xi(ca na fa:Option Addr)(cc nc fc:Nat)(cells:List (BitVec 256))(next:List (List Int))(final:List Bool)(S:Nat→Prop)(H:Aa)(hS:∀k,S k→k<H.size)
  (hc:SlD Dz S H ca cc cells) (hn:SlD GQ S H na nc next) (hf:SlD A1 S H fa fc final):
  Al Tryz.prog 51 #[.slice ca cells.length cc,.slice na next.length nc,.slice fa final.length fc] H fun v H'=>
   Agr (Old H) H H'∧H.size≤H'.size∧Db (fun k=>H.size≤k∧k<H'.size) H' v (if BK cells next final.length then some (Dp cells next final)else none):=by
 have lf:=hf.le
 unfold maxLen at lf
 refine Al.of_vc Tryz.func51 rfl (Tryz.call51 _) ?_
 (conv=>whnf);refine Ao (WB ca na fa cc nc fc final.length cells next S H hS hc hn (by omega)) fun H1 ha1=>?_
 have hs1:H.size≤H1.size:=by
  rcases Nat.eq_zero_or_pos H.size with h | h
  ·omega
  ·have:=As ha1 (k:=H.size - 1) (by unfold Old;omega);omega
 (conv=>whnf);refine AB.mk (fun h=>?_) (fun h=>?_)
 ·(conv=>whnf)
  have hb:BK cells next final.length=false:=by simpa using h
  rw [hb]
  exact⟨ha1,hs1,rfl⟩
 ·have hb:BK cells next final.length=true:=by simpa using h
  rw [hb]
  obtain⟨n1,n2,n3,hrows⟩:=FF hb
  (conv=>whnf);refine Pz (T:=A1) (S:=S) (lo:=H1.size) (xs:=[]) Cs QJ SlO.nil (Aan _) (fun k hk=>⟨by have:=hS k hk;omega,?_⟩) (hf.frame (ha1.mono hS)) (by simp only [maxLen,Aap];omega) (by simp only [Aap];omega) ?_
  ·rintro⟨o,n,c,h⟩;cases h
  intro v2 H2 hown2 ha2 hs2 _
  rw [List.nil_append]at hown2
  have hown2':SlO A1 (fun _=>False) H2 H1.size 4 v2 final:=hown2.free QI
  obtain⟨af,capf,rfl,hfin,-⟩:=hown2'.view (S':=fun k=>H1.size≤k∧k<H2.size) (fun k hk=>hown2.lt hk) (fun k hk=>hk.elim)
  (conv=>whnf);refine A6 rfl rfl _ rfl (BM (.slice none 0 0) [] (.slice none 0 0) (.slice af final.length capf) (.slice none 0 0)) (by rfl) ?_
  (conv=>whnf);refine B0 (BM (.slice none 0 0) [] (.slice none 0 0) (.slice af final.length capf) (.slice none 0 0)) rfl ?_
  intro pb H3 hpb hs3 hb3 ha3
  have hsz2:H2.size=pb:=by omega
  have hsO:∀k,Old H k→k<H1.size:=fun k hk=>by unfold Old at hk;omega
  have hA3:Agr (fun k=>k<H.size) H H3:=(ha1.trans (ha2.mono fun k hk=>⟨hsO k hk,fun hb=>by obtain⟨o,n,c,h⟩:=hb;cases h⟩)).trans (ha3.mono fun k hk=>by unfold Old at hk;omega)
  have hSO:∀k,S k→k<H3.size∧k≠pb:=fun k hk=>by have:=hS k hk;omega
  (conv=>whnf);refine Ag.mk (Wo pb (.slice af final.length capf) (.slice none 0 0) ca na cc nc cells next final.length S H3 hSO hb3 (hc.frame (hA3.mono hS)) (hn.frame (hA3.mono hS)) hb) ?_
  rintro v4 H4 ⟨ha4,hs4,ac,capc,an,capn,hb4,hsets,hrows4⟩
  have hfin3:SlD A1 (fun k=>H1.size≤k∧k<H2.size) H4 af capf final:=(hfin.frame (ha3.mono fun k hk=>by omega)).frame (ha4.mono fun k hk=>by omega)
  have hmok:=U1 hb
  (conv=>whnf)
  refine Ag.mk (Yo pb (.slice ac (Cp next cells (fun b=>AE b b) 256).sets.length capc) (.slice none 0 0) (Cp next cells (fun b=>AE b b) 256).cell an af capn capf (next.map (Fq (Cp next cells (fun b=>AE b b) 256).cols)) final
   (fun k=>H1.size≤k∧k<H4.size∧k≠pb) H4 (fun k hk=>by omega) (by rw [Aam];exact hb4) (Aa4 hmok.cell) (hrows4.mono fun k hk=>by omega) (hfin3.mono fun k hk=>by omega)
   (by simpa using n2) (by simp [n3]) (fun row hrow=>?_)) ?_
  ·have:=hmok.rows row hrow
   have h2:=hmok.sl
   exact⟨by omega,this.2⟩
  rintro v5 H5 ⟨ha5,hs5,al,aa,capa,hall,hlive,hb5,hal⟩
  (conv=>whnf)
  refine⟨?_,by omega,pb,rfl,⟨by omega,by omega⟩,hmok,ac,capc,an,capn,af,capf,aa,capa,al,hb5,?_,?_,?_,?_,hall,hlive⟩
  ·exact(hA3.trans (ha4.mono fun k hk=>by omega)).trans (ha5.mono fun k hk=>by omega)
  ·exact(hsets.frame (ha5.mono fun k hk=>by omega)).mono fun k hk=>by omega
  ·exact(hrows4.frame (ha5.mono fun k hk=>by omega)).mono fun k hk=>by omega
  ·exact(hfin3.frame (ha5.mono fun k hk=>by omega)).mono fun k hk=>by omega
  ·exact hal.mono fun k hk=>by omega
def stN:Option AM→Nat
 | none=>1
 | some A=>A.next.length
theorem Kt:Tryz.prog.underlying 23=some (.pointer 109):=rfl
theorem LT{S:Nat→Prop}{H:Aa}{v:Value}{o:Option AM}(h:Db S H v o):B8 Tryz.prog 16 #[v] H (.int .i64 (stN o:Int)):=by
 cases o with
 | none=>
   obtain rfl:=h
   refine Al.of_vc Tryz.func16 rfl (Tryz.call16 _) ?_
   (conv=>whnf);refine Wx Kt ?_
   (conv=>whnf);exact⟨rfl,Agr.refl _ _⟩
 | some A=>
   obtain⟨pb,rfl,hown,hok,ac,cc,an,cn,af,cf,aa,ca,al,hb,hsets,hnext,hfin,hal,hall,hlive⟩:=h
   have hcl:A.cell.length≤256:=Aa4 hok.cell
   refine Al.of_vc Tryz.func16 rfl (Tryz.call16 _) ?_
   (conv=>whnf);refine XR Kt ?_
   (conv=>whnf);refine fa F5 ?_
   (conv=>whnf);refine ld1 DZ (by rw [hb.cell,Aab];exact EW hcl) trivial ?_
   (conv=>whnf);exact⟨rfl,Agr.refl _ _⟩
def HU:Option AM→Int→Bool
 | none,_=>false
 | some A,q=>decide (0≤q)&&(A.final[q.toNat]?).getD false
theorem Rr{S:Nat→Prop}{H:Aa}{v:Value}{o:Option AM}{q:Int}(h:Db S H v o):B8 Tryz.prog 50 #[v,.int .i64 q] H (.bool (HU o q)):=by
 cases o with
 | none=>
   obtain rfl:=h
   refine Al.of_vc Tryz.func50 rfl (Tryz.call50 _) ?_
   (conv=>whnf);refine Zc Kt ?_
   (conv=>whnf);exact⟨rfl,Agr.refl _ _⟩
 | some A=>
   obtain⟨pb,rfl,hown,hok,ac,cc,an,cn,af,cf,aa,ca,al,hb,hsets,hnext,hfin,hal,hall,hlive⟩:=h
   have hcl:A.cell.length≤256:=Aa4 hok.cell
   have hfl:=hok.fl
   have hn2:=hok.n2
   refine Al.of_vc Tryz.func50 rfl (Tryz.call50 _) ?_
   cases q with
   | negSucc n=>
     (conv=>whnf);refine RO Kt ?_
     (conv=>whnf);exact⟨rfl,Agr.refl _ _⟩
   | ofNat n=>
     (conv=>whnf);refine RO Kt ?_
     (conv=>whnf);refine fa Nk ?_
     (conv=>whnf);refine ld1 FM (by rw [hb.cell,Aab];exact J8 hcl) trivial ?_
     by_cases hnl:n<A.final.length
     ·obtain⟨f,hf⟩:=Ad hnl
      have hd:decide (AaU n<(A.final.length:Int))=true:=decide_eq_true (by simpa using hnl)
      (conv=>whnf);rw [hd]
      (conv=>whnf);refine fa Nk ?_
      (conv=>whnf);refine ld1 FM (by rw [hb.cell,Aab];exact J8 hcl) trivial ?_
      (conv=>whnf);refine ixr Cs hfin hf rfl ?_
      rintro b3 o3 cs3 hSb3 hcells3 rfl
      (conv=>whnf);refine ld1 ct4 hcells3.one trivial ?_
      (conv=>whnf);exact⟨by simp [HU,hf],Agr.refl _ _⟩
     ·have hd:decide (AaU n<(A.final.length:Int))=false:=decide_eq_false (by simpa using hnl)
      (conv=>whnf);rw [hd]
      (conv=>whnf);exact⟨by simp [HU,Aay (Nat.le_of_not_lt hnl)],Agr.refl _ _⟩
theorem T9{cv nv fv av:Value}{cell:List Nat}{b c:Nat}(h:cell[b]? =some c):(BM cv cell nv fv av)[1+b]? =some (.int .u8 (c:Int)):=by
 have hlt:=(Aac.1 h).1
 unfold BM
 rw [Aa8,Nat.add_comm,AaR,AaJ,Aav (by simpa using hlt),Aax,h]
 rfl
def C4(o:Option AM)(q:Int)(b:Nat):Int:=
 if q<0∨(stN o:Int)≤q then -1 else match o with
  | none=>0
  | some A=>((A.next[q.toNat]?).getD []).getD (A.cell.getD b 0) 0
theorem Vg{S:Nat→Prop}{H:Aa}{v:Value}{o:Option AM}{q:Int}{b:Nat}(hS:∀k,S k→k<H.size)(h:Db S H v o)(hb8:b<256):
  B8 Tryz.prog 49 #[v,.int .i64 q,.int .u8 (b:Int)] H (.int .i64 (C4 o q b)):=by
 refine Al.of_vc Tryz.func49 rfl (Tryz.call49 _) ?_
 cases q with
 | negSucc n=>
   have hd:decide (Int.negSucc n<0)=true:=decide_eq_true (Abc n)
   (conv=>whnf);rw [hd]
   (conv=>whnf);exact⟨by simp [C4,Abc],Agr.refl _ _⟩
 | ofNat n=>
   (conv=>whnf);refine Ao (LT h) fun H1 ha1=>?_
   have h1:=h.frame (ha1.mono hS)
   by_cases hn:stN o≤n
   ·have hd:decide ((stN o:Int)≤AaU n)=true:=decide_eq_true (by simpa using hn)
    (conv=>whnf);rw [hd]
    (conv=>whnf);exact⟨by simp [C4,hn],ha1⟩
   ·have hd:decide ((stN o:Int)≤AaU n)=false:=decide_eq_false (by simpa using hn)
    (conv=>whnf);rw [hd]
    have hst:∀x,x=(match o with | none=>(0:Int) | some A=>((A.next[n]?).getD []).getD (A.cell.getD b 0) 0)→C4 o (AaU n) b=x:=by
     intro x hx
     subst hx
     unfold C4
     rw [if_neg (by simp;omega)]
     cases o<;>rfl
    cases o with
    | none=>
      obtain rfl:=h1
      (conv=>whnf);refine Wx Kt ?_
      (conv=>whnf);exact⟨by rw [hst 0 rfl],ha1⟩
    | some A=>
      obtain⟨pb,rfl,hown,hok,ac,cc,an,cn,af,cf,aa,ca,al,hb,hsets,hnext,hfin,hal,hall,hlive⟩:=h1
      have hcl:A.cell.length≤256:=Aa4 hok.cell
      simp only [stN]at hn
      obtain⟨row,hrow⟩:=Ad (l:=A.next) (k:=n) (by omega)
      obtain⟨c,hc⟩:=Ad (l:=A.cell) (k:=b) (by rw [hok.cell];exact hb8)
      have hrl:=(hok.rows row (Aae hrow)).1
      have hcp:=hok.places c (Aae hc)
      obtain⟨t,ht⟩:=Ad (l:=row) (k:=c) (by omega)
      (conv=>whnf);refine XR Kt ?_
      (conv=>whnf);refine Ar.lex rfl (by kernel_rfl) ?_
      (conv=>whnf);refine fa F5 ?_
      (conv=>whnf);refine ld1 DZ (by rw [hb.cell,Aab];exact EW hcl) trivial ?_
      (conv=>whnf);refine ixr DH hnext hrow rfl ?_
      rintro b2 o2 cs2 hSb2 hcells2 ⟨ra,rc,rfl,hr⟩
      (conv=>whnf);refine ld1 CW hcells2.one trivial ?_
      (conv=>whnf);refine fa Ru ?_
      (conv=>whnf);refine ixa WV (by omega) (by omega) ?_
      (conv=>whnf);refine ld1 (v:=.int .u8 (c:Int)) ct5 (by rw [hb.cell,show 0+1+(b:Int).toNat*1=1+b by omega];exact T9 hc) trivial ?_
      (conv=>whnf);refine ixr AL hr ht rfl ?_
      rintro b3 o3 cs3 hSb3 hcells3 ⟨rfl,-⟩
      (conv=>whnf);refine ld1 ct3 hcells3.one trivial ?_
      (conv=>whnf);exact⟨by rw [hst t (by simp [hrow,hc,ht,Aat])],ha1⟩
def Kw(o:Option AM)(s:ByteArray)(k:Nat):Int:=(s.data.toList.take k).foldl (fun q b=>C4 o q b.toNat) 0
theorem JS{o:Option AM}{s:ByteArray}{k:Nat}{b:UInt8}(h:s.data[k]? =some b):Kw o s (k+1)=C4 o (Kw o s k) b.toNat:=by
 unfold Kw
 rw [Ac (x:=b) (by rw [Array.getElem?_toList];exact h),Aao];rfl
theorem strT:Tryz.prog.underlying 9=some .string:=rfl
theorem L0{s:ByteArray}{k:Nat}(h:k<s.size):∃b,s.data[k]? =some b:=⟨s.data[k]'h,Array.getElem?_eq_getElem h⟩
def Fb(o:Option AM)(s:ByteArray):Bool:=HU o (Kw o s s.size)
theorem J6{S:Nat→Prop}{H:Aa}{v:Value}{o:Option AM}{s:ByteArray}(hS:∀k,S k→k<H.size)(h:Db S H v o)(hs:s.size≤maxLen):
  B8 Tryz.prog 17 #[v,.string s] H (.bool (Fb o s)):=by
 unfold maxLen at hs
 refine Al.of_vc Tryz.func17 rfl (Tryz.call17 _) ?_
 (conv=>whnf)
 refine A3.mk [5,9] (fun k:Nat=>[.int .i64 (Kw o s k),.int .i64 k]) (fun k H2=>k≤s.size∧Agr (Old H) H H2) (fun k _=>s.size - k) ?_ ?_
 ·(conv=>whnf);exact⟨0,rfl,by omega,Agr.refl _ _⟩
 ·rintro k H2 junk ⟨hk,ha2⟩
  have h2:=h.frame (ha2.mono hS)
  (conv=>whnf);refine AB.mk (fun h=>?_) (fun h=>?_)<;>simp only [decide_eq_true_eq,decide_eq_false_iff_not]at h
  ·obtain⟨b,hb⟩:=L0 (s:=s) (k:=k) (by omega)
   (conv=>whnf);refine Dg strT rfl hb ?_
   (conv=>whnf);refine Ao (Vg (fun k hk=>As ha2 (hS k hk)) h2 (UInt8.toNat_lt b)) fun H3 ha3=>?_
   (conv=>whnf);rw [w64 (x:=(k:Int)+1) (by omega) (by omega)]
   exact⟨rfl,k+1,by rw [JS hb];simp,⟨by omega,ha2.trans (ha3.mono fun k hk=>As ha2 hk)⟩,by omega⟩
  ·obtain rfl:k=s.size:=by omega
   (conv=>whnf);refine Ao (Rr h2) fun H3 ha3=>?_
   (conv=>whnf);exact⟨rfl,ha2.trans (ha3.mono fun k hk=>As ha2 hk)⟩
open Classical in
noncomputable def E8:Option AM→Int→Bool
 | none,_=>false
 | some A,q=>decide (GL A.next A.final q.toNat)
open Classical in
theorem T0{A:AM}{al:List Bool}(hall:al.length=A.next.length)(hlive:∀q:Nat,q<A.next.length→(al[q]? =some true↔GL A.next A.final q)){q:Nat}(h:q<A.next.length):al[q]? =some (E8 (some A) (q:Int)):=by
 obtain⟨f,hf⟩:=Ad (l:=al) (k:=q) (by omega)
 have:=hlive q h
 rw [hf]at this ⊢
 congr 1
 simp only [E8,Aah]
 cases f with
 | true=>exact(decide_eq_true (this.1 rfl)).symm
 | false=>exact(decide_eq_false fun hl=>by have:=this.2 hl;simp at this).symm
theorem VN{S:Nat→Prop}{H:Aa}{v:Value}{o:Option AM}(h:Db S H v o):B8 Tryz.prog 42 #[v] H (.bool (!E8 o 0)):=by
 refine Al.of_vc Tryz.func42 rfl (Tryz.call42 _) ?_
 cases o with
 | none=>
   obtain rfl:=h
   (conv=>whnf);refine Wx Kt ?_
   (conv=>whnf);exact⟨rfl,Agr.refl _ _⟩
 | some A=>
   obtain⟨pb,rfl,hown,hok,ac,cc,an,cn,af,cf,aa,ca,al,hb,hsets,hnext,hfin,hal,hall,hlive⟩:=h
   have hcl:A.cell.length≤256:=Aa4 hok.cell
   have hf:=T0 hall hlive (q:=0) hok.n1
   (conv=>whnf);refine XR Kt ?_
   (conv=>whnf);refine fa IZ ?_
   (conv=>whnf);refine ld1 FM (by rw [hb.cell,Aab];exact HD hcl) trivial ?_
   (conv=>whnf);refine ixr Cs hal hf rfl ?_
   rintro b3 o3 cs3 hSb3 hcells3 rfl
   (conv=>whnf);refine ld1 ct4 hcells3.one trivial ?_
   (conv=>whnf);exact⟨rfl,Agr.refl _ _⟩
theorem Pw{A:AM}(hok:A.Ok){q:Int}{b:Nat}(h0:0≤q)(h1:q<A.next.length)(hb:b<256):0≤C4 (some A) q b∧C4 (some A) q b<A.next.length:=by
 obtain⟨n,rfl⟩:=AaS h0
 obtain⟨row,hrow⟩:=Ad (l:=A.next) (k:=n) (by omega)
 obtain⟨c,hc⟩:=Ad (l:=A.cell) (k:=b) (by rw [hok.cell];exact hb)
 have hrl:=hok.rows row (Aae hrow)
 have hcp:=hok.places c (Aae hc)
 obtain⟨t,ht⟩:=Ad (l:=row) (k:=c) (by omega)
 unfold C4
 rw [if_neg (by simp [stN];omega)]
 simp only [Aah,hrow,Aat,hc,Abh,ht]
 exact hrl.2 t (Aae ht)
theorem LL{A:AM}(hok:A.Ok)(s:ByteArray):∀k,k≤s.size→0≤Kw (some A) s k∧Kw (some A) s k<A.next.length
 | 0,_=>⟨Int.le_refl _,by have:=hok.n1;simp only [Kw,AaE,Aa5];omega⟩
 | k+1,hk=>by
   obtain⟨b,hb⟩:=L0 (s:=s) (k:=k) (by omega)
   obtain⟨h0,h1⟩:=LL hok s k (by omega)
   rw [JS hb]
   exact Pw hok h0 h1 (UInt8.toNat_lt b)
end Go.Proofs.YtfbghcpdinlmcaaGreatDoor
namespace Go.Proofs.YtfbghcpdinlmcaaGreatDoor
open Go.VC
def Vl:AM:=Dp [Aas 256] [[1],[0]] [false,true]
theorem Tl:BK [Aas 256] [[1],[0]] 2=true:=by rfl
theorem Zp:stN (some Vl)=2:=rfl
theorem Zn:Fb (some Vl) ⟨#[97]⟩=true:=by kernel_rfl
theorem Yk:Fb (some Vl) ⟨#[97,98]⟩=false:=by kernel_rfl
attribute [local irreducible] Cp
theorem SlD.ofBlk{α:Type}{T:Ty α}{S:Nat→Prop}{H:Aa}{b n:Nat}{e:TypeId}{l:List Value}{xs:List α}(hb:Blk H b e l)(hS:S b)(hr:T.reps S H l xs)(hn:n=xs.length)(hm:n≤maxLen):SlD T S H (some ⟨b,0,none⟩) n xs:=
 SlD.intro hS (Aa4 hn.symm) hm (hb.cells (fun j v hv=>by rw [Aab];exact hv)) hr
def Lk:Option AM→List (BitVec 256)
 | none=>[Aas 256]
 | some A=>A.sets
def D9(H H':Aa)(k:Nat):Prop:=H.size≤k∧k<H'.size
theorem Zo(H:Aa):Al Tryz.prog 70 #[] H fun v' H'=>Agr (Old H) H H'∧H.size≤H'.size∧Db (D9 H H') H' v' (some Vl):=by
 refine Al.of_vc Tryz.func70 rfl (Tryz.call70 _) ?_
 (conv=>whnf);refine Ao (Fu 0 255 (by decide) (by decide) H) fun H1 ha1=>?_
 rw [IF]
 have hs1:=Bx ha1
 (conv=>whnf);refine A2 DU (Af (Aas 256)) rfl rfl (by decide) (by decide) ?_
 intro b2 H2 hb2 hs2 hk2 ha2
 (conv=>whnf);refine A2 AL [.int .i64 1] rfl rfl (by decide) (by decide) ?_
 intro b3 H3 hb3 hs3 hk3 ha3
 (conv=>whnf);refine A2 AL [.int .i64 0] rfl rfl (by decide) (by decide) ?_
 intro b4 H4 hb4 hs4 hk4 ha4
 (conv=>whnf);refine Sg DH [.slice (some ⟨b3,0,none⟩) 1 1] [.slice (some ⟨b4,0,none⟩) 1 1] rfl rfl rfl rfl (by decide) (by decide) ?_
 intro b5 H5 hb5 hs5 hk5 ha5
 (conv=>whnf);refine Sg Cs [.bool false] [.bool true] rfl rfl rfl rfl (by decide) (by decide) ?_
 intro b6 H6 hb6 hs6 hk6 ha6
 have hk5':=hk5.agr ha6 (show b5<b6 by omega)
 have hk4':=(hk4.agr ha5 (show b4<b5 by omega)).agr ha6 (show b4<b6 by omega)
 have hk3':=((hk3.agr ha4 (show b3<b4 by omega)).agr ha5 (show b3<b5 by omega)).agr ha6 (show b3<b6 by omega)
 have hk2':=(((hk2.agr ha3 (show b2<b3 by omega)).agr ha4 (show b2<b4 by omega)).agr ha5 (show b2<b5 by omega)).agr ha6 (show b2<b6 by omega)
 have hA6:Agr (Old H) H H6:=((((ha1.trans (ha2.mono fun k hk=>by unfold Old at hk;omega)).trans (ha3.mono fun k hk=>by unfold Old at hk;omega)).trans (ha4.mono fun k hk=>by unfold Old at hk;omega)).trans (ha5.mono fun k hk=>by unfold Old at hk;omega)).trans (ha6.mono fun k hk=>by unfold Old at hk;omega)
 have i1:SlD tI (D9 H H6) H6 (some ⟨b3,0,none⟩) 1 [1]:=SlD.ofBlk hk3' ⟨by omega,by omega⟩ (Ty.reps_one ⟨rfl,Bs (by decide)⟩) rfl (by decide)
 have i2:SlD tI (D9 H H6) H6 (some ⟨b4,0,none⟩) 1 [0]:=SlD.ofBlk hk4' ⟨by omega,by omega⟩ (Ty.reps_one ⟨rfl,Bs (by decide)⟩) rfl (by decide)
 (conv=>whnf)
 refine Ag.mk (Xi (some ⟨b2,0,none⟩) (some ⟨b5,0,none⟩) (some ⟨b6,0,none⟩) 1 2 2 [Aas 256] [[1],[0]] [false,true] (D9 H H6) H6 (fun k hk=>hk.2)
  (SlD.ofBlk hk2' ⟨by omega,by omega⟩ (Ty.reps_one rfl) rfl (by decide)) (SlD.ofBlk hk5' ⟨by omega,by omega⟩ ⟨[_],[_],rfl,⟨_,_,rfl,i1⟩,Ty.reps_one ⟨_,_,rfl,i2⟩⟩ rfl (by decide)) (SlD.ofBlk hk6 ⟨by omega,by omega⟩ ⟨[_],[_],rfl,rfl,Ty.reps_one rfl⟩ rfl (by decide))) ?_
 rintro v7 H7 ⟨ha7,hs7,hv7⟩
 rw [show BK [Aas 256] [[1],[0]] [false,true].length=true from Tl]at hv7
 (conv=>whnf)
 exact⟨hA6.trans (ha7.mono fun k hk=>by unfold Old at*;omega),by omega,hv7.mono fun k hk=>⟨by omega,hk.2⟩⟩
theorem Ps(H:Aa):B8 Tryz.prog 32 #[] H (.bool true):=by
 refine Al.of_vc Tryz.func32 rfl (Tryz.call32 _) ?_
 (conv=>whnf);refine Ag.mk (Zo H) ?_
 rintro v1 H1 ⟨ha1,hs1,pb,rfl,ha⟩
 have hv:Db (D9 H H1) H1 (.pointer (some ⟨pb,0,none⟩)) (some Vl):=⟨pb,rfl,ha⟩
 (conv=>whnf);refine RO Kt ?_
 (conv=>whnf);refine Ao (LT hv) fun H2 ha2=>?_
 have hv2:=hv.frame (ha2.mono fun k hk=>hk.2)
 rw [Zp]
 (conv=>whnf);refine Ao (J6 (fun k hk=>As ha2 hk.2) hv2 (by decide)) fun H3 ha3=>?_
 have hv3:=hv2.frame (ha3.mono fun k hk=>As ha2 hk.2)
 rw [Zn]
 (conv=>whnf);refine Ao (J6 (fun k hk=>As ha3 (As ha2 hk.2)) hv3 (by decide)) fun H4 ha4=>?_
 rw [Yk]
 (conv=>whnf)
 exact⟨rfl,((ha1.trans (ha2.mono fun k hk=>As ha1 hk)).trans (ha3.mono fun k hk=>As ha2 (As ha1 hk))).trans (ha4.mono fun k hk=>As ha3 (As ha2 (As ha1 hk)))⟩
end Go.Proofs.YtfbghcpdinlmcaaGreatDoor
namespace Go.Proofs.YtfbghcpdinlmcaaGreatDoor
open Go.VC
attribute [local irreducible] Cp
end Go.Proofs.YtfbghcpdinlmcaaGreatDoor
