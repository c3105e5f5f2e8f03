import Derived.Test.YtfbghcpdinlmcaaGreatDoorKLy5
set_option maxHeartbeats 0
open Array renaming replicate -> AkL
open List renaming replicate -> AkU
set_option maxRecDepth 100000
open Go.Proofs.Tryz
open Go renaming Value -> v_, Program -> w_, TypeId -> x_, World -> y_, Operand -> z_
open Option renaming some -> zY, none -> zV
open Bool renaming true -> zW, false -> zU
open Decidable renaming decide -> zT
set_option linter.unusedVariables false
set_option linter.unusedSimpArgs false
set_option linter.defProp false
namespace Go.Proofs.YtfbghcpdinlmcaaGreatDoor
variable{x:BitVec 256}{i k e c a:Nat}{H H0:Aa}{t:ByteArray}{B S:Nat->Prop}{ps:List Pc}{p:Pc}{va:v_}{n:Int}{f:AF}{fs:List AF}{K:v_->Prop}{A:x_}{w:RwM}{na:Option Addr}{r:ReM}
open Go.Lib
def OF(x:BitVec 256):Av x=Df λb=>x.getLsbD b:=by unfold Av Fw Df;refine List.map_congr_left λb a=>?_;rw[m_ (List.mem_range.1 a),wX]
def Z3{f:Nat->Bool}(h:∀b,b<256->f b=x.getLsbD b):Df f=Av x:=by rw[OF];exact Dq h
def MJ(x y:BitVec 256)(b:Nat):(x ||| y).getLsbD b=(x.getLsbD b|| y.getLsbD b):=BitVec.getLsbD_or
def WK(x:BitVec 256)(b:Nat)(a:b<256):(~~~x).getLsbD b= !x.getLsbD b:=by rw[BitVec.getLsbD_not,m_ a,wX]
def U0(b:Nat):(0#256).getLsbD b=zU:=BitVec.getLsbD_zero
def Hb(f:Nat->Bool)(h:k<256)(v:Bool):(Df f).set k (.bool v)=Df λb=>if b=k then v else f b:=by apply yW;intro j;by_cases c:j<256;{rw[IG _ c];by_cases a:k=j;{subst a;rw[yP (by rw[C2];exact h),I_ rfl]};{rw[xC a,IG _ c,G_ (Ne.symm a)]}};{rw[zE (by rw[yF,C2];omega),zE (by rw[C2];omega)]}
def lH(nt:Bool)(M:Sum Nat (BitVec 256×Nat)):Sum Nat (BitVec 256×Nat):=match M with
 | .inl e=>.inl e
 | .inr (x,k)=>.inr (if nt then ~~~x else x,k)
def HP:v_:=.agg (Av 0#256).toArray
def Fa:(prog.info? 157).bind (·.zero)=zY HP:=zX
def EE(t:ByteArray)(i:Nat)(v:v_):Prop:=match Cc t i with
 | .inl e=>v= .tuple #[HP,A_ 0,A_ 10,A_ e]
 | .inr (x,j)=>v= .tuple #[.agg (Av x).toArray,A_ j,A_ 0,A_ 0]
def rrP(q4 q8:Nat)(x:BitVec 256):List Pc:=[pB 157 q4 (Av 0#256),pB 157 q8 (Av x)]
def xM(q4 q8:Nat)(f:Nat->Bool):List Pc:=[pB 157 q4 (Av 0#256),pB 157 q8 (Df f)]
def EN{q4:Nat}{f:Nat->Bool}(h:∀b,b<256->f b=x.getLsbD b):xM q4 a f=rrP q4 a x:=by unfold xM rrP;rw[Z3 h]
structure MemD(H:Aa)(t:ByteArray)(q4 q8:Nat)(M:Sum Nat (BitVec 256×Nat))(y:Nat×Nat×BitVec 256)(G:Aa):Prop where
 le:y.1<=t.size
 fuel:t.size<y.2.1+y.1
 eq:DD t y.2.1 y.1 y.2.2=M
 st:St H G (rrP q4 q8 y.2.2)
def CA{b:Nat}(h:R_ H b 157 (Av x)):Bn H b 0 (Av x):=h.cells (λj v a=>by rw[K_];exact a)
def wI(x:BitVec 256):GG prog 157 (Av x).length:=by rw[Ax];exact Nf
def vH(x:BitVec 256):(prog.info? 157).map (·.size)=zY (Av x).length:=by rw[Ax];rfl
def vF(x:BitVec 256):(Av x).all (·.oneCell')=zW:=FM x 256
def XR(ht:t.size<=1152921504606846976)(hi:i<t.size):
  Aj prog 81 #[.string t,A_ i] H λv H'=>C_ (H_ H) H H'/\EE t i v:=by
 refine Aj.of_vcL func81 rfl (call81 _) ?_;have⟨b,J,K,br⟩:=DQ hi;refine Ag HP (Av 0#256) Fa rfl ?_;intro u H1 b9 bd ap be;have J_:=(St.nil H).box b9 bd ap be;refine Ag HP (Av 0#256) Fa rfl ?_;intro F H2 bf bg aq bh;have Z:St H H2 (rrP u F 0#256):=J_.box bf bg aq bh;have d1:zT ((i:Int)<0)=zU:=Z_;have d2:zT ((i:Int)>=(t.size:Int))=zU:=Z_;(conv=>whnf);rw[d1];(conv=>whnf);rw[d2];refine ED GU rfl J ?_;rw[<-K];by_cases a5:bt t i=46
 ·have d3:((bt t i:Int)==(46:Int))=zW:=by rw[a5];rfl
  (conv=>whnf);rw[d3];(conv=>whnf);refine Ay.mk [9] (λk:Nat=>[A_ k]) (λk G=>k<=256/\St H G (xM u F λb=>zT (b<k)&& !zT (b=10))) (λk _=>256-k) ?_ ?_
  ·(conv=>whnf);exact⟨0,rfl,zO,by rw[EN (x:=0#256) (λb X=>by rw[U0];simp)];exact Z⟩
  ·rintro k G bp ⟨hk,L⟩;refine AD.m2 (λP=>?_) (λP=>?_)
   ·(conv=>whnf);try refine Au.run ?_
    have d4:((k:Int) != (10:Int))= !zT (k=10):=by
     by_cases h:k=10
     ·subst h;rfl
     ·rw[j_ h];rw[Bool.not_false,bne_iff_ne];omega
    (conv=>whnf);rw[d4];refine s_ CC zO zO ?_;refine AZ L 1 M' rfl (by rw[C2];omega) rfl λG2 a6=>?_;have N:0+(k:Int).toNat*1=k:=zO
    rw[N]at a6;have a0:St H G2 (xM u F λb=>zT (b<k+1)&& !zT (b=10)):=by
     have e2:(Df λb=>zT (b<k)&& !zT (b=10)).set k (.bool (!zT (k=10)))=Df λb=>zT (b<k+1)&& !zT (b=10):=by
      rw[Hb _ zO];refine Dq λb X=>?_;by_cases h:b=k
      ·subst h;rw[I_ rfl,m_ (zO:b<b+1),wX]
      ·rw[G_ h]
       congr 1
       exact decide_eq_decide.2 zO
     have:=a6;unfold xM at this ⊢;simp only[vW,tO]at this;rwa [e2]at this
    (conv=>whnf);rw[Q_ k zO];exact⟨rfl,k+1,rfl,⟨zO,a0⟩,zO⟩
   ·obtain rfl:k=256:=zO
    have hx:∀b,b<256->(zT (b<256)&& !zT (b=10))=(~~~(AL 10 10)).getLsbD b:=λb X=>by
     rw[WK _ _ X,Dl _ _ _ X,m_ X,wX]
     congr 1
     by_cases h:b=10
     ·subst h;rfl
     ·rw[j_ h];by_cases h2:10<=b
      ·rw[m_ h2,j_ (show¬b<=10 by omega)];rfl
      ·rw[j_ h2];rfl
    rw[EN hx]at L;refine lN (cs:=Av (~~~(AL 10 10))) (wI _) (CA (L.blk 1 rfl)) ?_;(conv=>whnf);rw[Q_ i zO];refine A9 (cs:=Av (~~~(AL 10 10))) L 0 (vH _) rfl (by simp[Ax]) (vF _) λZ1 d=>?_;have g:R_ Z1 u 157 (Av (~~~(AL 10 10))):=by
     have:=d.blk 0 rfl;rwa [AT (by simp[Ax])]at this
    refine lN (cs:=Av (~~~(AL 10 10))) (wI _) (CA g) ?_;exact⟨d.old,by unfold EE Cc;rw[I_ a5]<;>rfl⟩
 have d3:((bt t i:Int)==(46:Int))=zU:=beq_eq_false_iff_ne.2 zO;(conv=>whnf);rw[d3];refine ED GU rfl J ?_;rw[<-K];by_cases a9:bt t i=91
 case neg=>
  have d4:((bt t i:Int) != (91:Int))=zW:=by rw[bne_iff_ne];omega
  have l:Cc t i=match BW t FA i with | .inl e=>.inl e | .inr (b,k)=>.inr (AL b b,k):=by unfold Cc;rw[G_ a5,G_ a9]<;>rfl
  (conv=>whnf);rw[d4];refine Al (FX (i:=i) (inner:=zU) ht zO) λH3 bi=>?_;have a0:=Z.call bi;unfold NG;simp only[uH,if_false];cases O:BW t FA i with
  | inl e=>
    rw[O]at l;(conv=>whnf);refine L_ (cs:=Av 0#256) (wI _) (CA (a0.blk 1 rfl)) zA (A9 (cs:=Av 0#256) a0 0 (vH _) rfl (by simp[Ax]) (vF _) λZ1 d=>?_);have g:R_ Z1 u 157 (Av 0#256):=by
     have:=d.blk 0 rfl;rwa [AT (by simp[Ax])]at this
    refine lN (cs:=Av 0#256) (wI _) (CA g) ?_;exact⟨d.old,by unfold EE;rw[l];rfl⟩
  | inr p=>
    have⟨c,j⟩:=p;rw[O]at l;have ar:=DN O;(conv=>whnf);rw[U_ (x:=(c:Int)) zO];refine s_ CC zO zO ?_;refine AZ a0 1 M' rfl (by rw[Ax];omega) rfl λH4 au=>?_;have N:0+(c:Int).toNat*1=c:=zO
    rw[N]at au;have aw:St H H4 (rrP u F (AL c c)):=by
     have e2:(Av 0#256).set c (.bool zW)=Av (AL c c):=by
      rw[OF,OF,Hb _ zO];refine Dq λb X=>?_;rw[Dl _ _ _ X,U0];by_cases h:b=c
      ·subst h;rw[I_ rfl,m_ (N_ _)]<;>rfl
      ·rw[G_ h];by_cases h2:c<=b
       ·rw[m_ h2,j_ (show¬b<=c by omega)];rfl
       ·rw[j_ h2];rfl
     have:=au;unfold rrP at this ⊢;simp only[vW,tO]at this;rwa [e2]at this
    refine L_ (cs:=Av (AL c c)) (wI _) (CA (aw.blk 1 rfl)) zA (A9 (cs:=Av (AL c c)) aw 0 (vH _) rfl (by simp[Ax]) (vF _) λZ1 d=>?_);have g:R_ Z1 u 157 (Av (AL c c)):=by
     have:=d.blk 0 rfl;rwa [AT (by simp[Ax])]at this
    refine lN (cs:=Av (AL c c)) (wI _) (CA g) ?_;exact⟨d.old,by unfold EE;rw[l];rfl⟩
 have d4:((bt t i:Int) != (91:Int))=zU:=by rw[a9];rfl
 (conv=>whnf);rw[d4];(conv=>whnf);rw[Q_ i zO];have l:Cc t i=JM t (i+1):=by unfold Cc;rw[G_ a5,I_ a9]
 obtain⟨W,Q⟩:∃W:Bool,W=zT (bt t (i+1)=94):=⟨_,rfl⟩;have ax:JM t (i+1)=lH W (DD t (t.size+1) (if W then i+1+1 else i+1) 0#256):=by
  unfold JM;rw[Q];by_cases h:bt t (i+1)=94
  ·simp only[h,if_true,decide_true];cases DD t (t.size+1) (i+1+1) 0#256<;>rfl
  ·simp only[h,if_false,decide_false,uH];cases DD t (t.size+1) (i+1) 0#256<;>rfl
 obtain⟨M,hM⟩:∃M,M=DD t (t.size+1) (if W then i+1+1 else i+1) 0#256:=⟨_,rfl⟩;rw[<-hM]at ax;rw[ax]at l;have ay:(if W then i+1+1 else i+1)<=t.size:=by
  cases Y:W with
  | false=>exact hi
  | true=>
    rw[Y]at Q;have bu:=of_decide_eq_true Q.symm;exact Ei zO
 by_cases az:i+1<t.size
 case neg=>
  have a7:=CX az;have b0:W=zU:=by rw[Q,j_];omega
  have d5:zT ((i:Int)+1<(t.size:Int))=zU:=Z_;(conv=>whnf);rw[d5];(conv=>whnf);refine Au.cut [13] (λ_:Unit=>[A_ ((if W then i+1+1 else i+1:Nat):Int)]) (λ_ G=>St H G (rrP u F 0#256)) ?_ ?_
  ·(conv=>whnf);exact⟨rfl,(),by rw[b0];rfl,Z⟩
  ·rintro⟨⟩ G ab L;(conv=>whnf);refine Ay.mk [13] (λy:Nat×Nat×BitVec 256=>[A_ (y.1:Int)]) (λy G=>MemD H t u F M y G) (λy _=>t.size-y.1) ?_ ?_
   ·(conv=>whnf);exact⟨((if W then i+1+1 else i+1),t.size+1,0#256),rfl,⟨ay,by simp only;omega,hM.symm,L⟩⟩
   ·rintro⟨j,n,x⟩ J0 ae ⟨hj,ag,B,A⟩;simp only at hj ag B A;obtain⟨n,rfl⟩:∃m,n=m+1:=⟨n-1,zO⟩;by_cases a1:j<t.size
    case neg=>
     have ah:=CX a1;have d7:zT ((j:Int)>=(t.size:Int))=zW:=l_;have O:BW t E6 j= .inl j:=by unfold BW;rw[ah,G_ zQ,I_ (.inr (.inl zQ))]
     have f:M= .inl j:=by rw[<-B,DD,G_ zO,O]
     rw[f]at l;(conv=>whnf);rw[d7];(conv=>whnf);try refine Au.run ?_
     refine Al (FX (i:=j) (inner:=zW) ht hj) λJ1 R=>?_;have r:=A.call R;unfold NG;simp only[if_true];rw[O];refine Ct CC HP Fa (Av 0#256) rfl (A9 (cs:=Av 0#256) r 0 (vH _) rfl (by simp[Ax]) (vF _) λZ1 d=>?_);have g:R_ Z1 u 157 (Av 0#256):=by
      have:=d.blk 0 rfl;rwa [AT (by simp[Ax])]at this
     refine lN (cs:=Av 0#256) (wI _) (CA g) ?_;exact⟨d.old,by unfold EE;rw[l];rfl⟩
    have⟨b5,ai,aj,bj⟩:=DQ a1;have d7:zT ((j:Int)>=(t.size:Int))=zU:=Z_;(conv=>whnf);rw[d7];refine ED (i:=j) GU rfl ai ?_;rw[<-aj];by_cases I:bt t j=93
    ·have d8:((bt t j:Int) != (93:Int))=zU:=by rw[I];rfl
     have f:M= .inr (x,j+1):=by rw[<-B,DD,I_ I]
     rw[f]at l;(conv=>whnf);rw[d8];(conv=>whnf);have Y:=b0;(conv=>whnf);try refine Au.run ?_
     refine lN (cs:=Av x) (wI _) (CA (A.blk 1 rfl)) ?_;(conv=>whnf);rw[Q_ j zO];refine A9 (cs:=Av x) A 0 (vH _) rfl (by simp[Ax]) (vF _) λZ1 d=>?_;have g:R_ Z1 u 157 (Av x):=by
      have:=d.blk 0 rfl;rwa [AT (by simp[Ax])]at this
     refine lN (cs:=Av x) (wI _) (CA g) ?_;exact⟨d.old,by unfold EE;rw[l,Y];rfl⟩
    have d8:((bt t j:Int) != (93:Int))=zW:=by rw[bne_iff_ne];omega
    (conv=>whnf);rw[d8];(conv=>whnf);try refine Au.run ?_
    refine Al (FX (i:=j) (inner:=zW) ht hj) λJ1 R=>?_;have r:=A.call R;unfold NG;simp only[if_true];cases O:BW t E6 j with
    | inl e=>
      have f:M= .inl e:=by rw[<-B,DD,G_ I,O]
      rw[f]at l;refine Ct CC HP Fa (Av 0#256) rfl (A9 (cs:=Av 0#256) r 0 (vH _) rfl (by simp[Ax]) (vF _) λZ1 d=>?_);have g:R_ Z1 u 157 (Av 0#256):=by
       have:=d.blk 0 rfl;rwa [AT (by simp[Ax])]at this
      refine lN (cs:=Av 0#256) (wI _) (CA g) ?_;exact⟨d.old,by unfold EE;rw[l];rfl⟩
    | inr p=>
      have⟨lo,z⟩:=p;have ar:=DN O;have f:M=IC t lo z x (DD t n):=by rw[<-B,DD,G_ I,O]
      unfold IC at f;by_cases a2:z<t.size
      case neg=>
       have a7:=CX a2;have d9:zT ((z:Int)<(t.size:Int))=zU:=Z_;rw[G_ zO]at f;(conv=>whnf);try refine Au.run ?_
       (conv=>whnf);rw[d9];(conv=>whnf);rw[U_ (x:=(lo:Int)) zO];(conv=>whnf);refine Ay.mk [20] (λb:Nat=>[A_ b]) (λb G=>lo<=b/\b<=lo+1/\St H G (xM u F λa=>x.getLsbD a|| (zT (lo<=a)&&zT (a<b)))) (λb _=>lo+1-b) ?_ ?_
       ·(conv=>whnf);refine⟨lo,rfl,N_ _,zO,?_⟩;rw[EN (x:=x) (λa C=>by
         by_cases h:lo<=a
         ·rw[j_ (show¬a<lo by omega),tK,uC]
         ·rw[j_ h,wZ,uC])]
        exact r
       ·rintro b I0 D ⟨J,K,q⟩;(conv=>whnf);rw[U_ (x:=(lo:Int)) zO];refine AD.m2 (λP=>?_) (λP=>?_)
        ·(conv=>whnf);try refine Au.run ?_
         refine s_ CC zO zO ?_;refine AZ q 1 M' rfl (by rw[C2];omega) rfl λI2 o=>?_;have N:0+(b:Int).toNat*1=b:=zO
         rw[N]at o;have w:St H I2 (xM u F λa=>x.getLsbD a|| (zT (lo<=a)&&zT (a<b+1))):=by
          have e2:(Df λa=>x.getLsbD a|| (zT (lo<=a)&&zT (a<b))).set b (.bool zW)=Df λa=>x.getLsbD a|| (zT (lo<=a)&&zT (a<b+1)):=by
           rw[Hb _ zO];refine Dq λa C=>?_;by_cases h:a=b
           ·subst h;rw[I_ rfl,m_ (zO:lo<=a),m_ (zO:a<a+1),wX,rL]
           ·rw[G_ h]
            congr 2
            exact decide_eq_decide.2 zO
          have:=o;unfold xM at this ⊢;simp only[vW,tO]at this;rwa [e2]at this
         (conv=>whnf);rw[Q_ b zO];exact⟨rfl,b+1,rfl,⟨zO,zO,w⟩,zO⟩
        ·obtain rfl:b=lo+1:=zO
         rw[EN (x:=x ||| AL lo lo) (λa C=>by
          rw[MJ,Dl _ _ _ C]
          congr 2
          exact decide_eq_decide.2 zO)]at q
         (conv=>whnf);exact⟨rfl,(z,n,x ||| AL lo lo),rfl,⟨by simp only;omega,by simp only;omega,f.symm,q⟩,by simp only;omega⟩
      have⟨b8,ak,am,b4⟩:=DQ a2;have d9:zT ((z:Int)<(t.size:Int))=zW:=l_;(conv=>whnf);try refine Au.run ?_
      (conv=>whnf);rw[d9];refine ED (i:=z) GU rfl ak ?_;rw[<-am];by_cases S:bt t z=45
      case neg=>
       have T:((bt t z:Int)==(45:Int))=zU:=beq_eq_false_iff_ne.2 zO;rw[G_ S]at f;(conv=>whnf);rw[T];(conv=>whnf);rw[U_ (x:=(lo:Int)) zO];(conv=>whnf);refine Ay.mk [20] (λb:Nat=>[A_ b]) (λb G=>lo<=b/\b<=lo+1/\St H G (xM u F λa=>x.getLsbD a|| (zT (lo<=a)&&zT (a<b)))) (λb _=>lo+1-b) ?_ ?_
       ·(conv=>whnf);refine⟨lo,rfl,N_ _,zO,?_⟩;rw[EN (x:=x) (λa C=>by
         by_cases h:lo<=a
         ·rw[j_ (show¬a<lo by omega),tK,uC]
         ·rw[j_ h,wZ,uC])]
        exact r
       ·rintro b I0 D ⟨J,K,q⟩;(conv=>whnf);rw[U_ (x:=(lo:Int)) zO];refine AD.m2 (λP=>?_) (λP=>?_)
        ·(conv=>whnf);try refine Au.run ?_
         refine s_ CC zO zO ?_;refine AZ q 1 M' rfl (by rw[C2];omega) rfl λI2 o=>?_;have N:0+(b:Int).toNat*1=b:=zO
         rw[N]at o;have w:St H I2 (xM u F λa=>x.getLsbD a|| (zT (lo<=a)&&zT (a<b+1))):=by
          have e2:(Df λa=>x.getLsbD a|| (zT (lo<=a)&&zT (a<b))).set b (.bool zW)=Df λa=>x.getLsbD a|| (zT (lo<=a)&&zT (a<b+1)):=by
           rw[Hb _ zO];refine Dq λa C=>?_;by_cases h:a=b
           ·subst h;rw[I_ rfl,m_ (zO:lo<=a),m_ (zO:a<a+1),wX,rL]
           ·rw[G_ h]
            congr 2
            exact decide_eq_decide.2 zO
          have:=o;unfold xM at this ⊢;simp only[vW,tO]at this;rwa [e2]at this
         (conv=>whnf);rw[Q_ b zO];exact⟨rfl,b+1,rfl,⟨zO,zO,w⟩,zO⟩
        ·obtain rfl:b=lo+1:=zO
         rw[EN (x:=x ||| AL lo lo) (λa C=>by
          rw[MJ,Dl _ _ _ C]
          congr 2
          exact decide_eq_decide.2 zO)]at q
         (conv=>whnf);exact⟨rfl,(z,n,x ||| AL lo lo),rfl,⟨by simp only;omega,by simp only;omega,f.symm,q⟩,by simp only;omega⟩
      have T:((bt t z:Int)==(45:Int))=zW:=by rw[S];rfl
      rw[I_ S]at f;(conv=>whnf);rw[T];(conv=>whnf);rw[Q_ z zO];refine Al (FX (i:=z+1) (inner:=zW) ht zO) λJ2 ao=>?_;have E:=r.call ao;unfold NG;simp only[if_true];cases U:BW t E6 (z+1)with
      | inl e=>
        rw[U]at f;rw[f]at l;refine Ct CC HP Fa (Av 0#256) rfl (A9 (cs:=Av 0#256) E 0 (vH _) rfl (by simp[Ax]) (vF _) λZ1 d=>?_);have g:R_ Z1 u 157 (Av 0#256):=by
         have:=d.blk 0 rfl;rwa [AT (by simp[Ax])]at this
        refine lN (cs:=Av 0#256) (wI _) (CA g) ?_;exact⟨d.old,by unfold EE;rw[l];rfl⟩
      | inr p2=>
        have⟨s,j2⟩:=p2;have b6:=DN U;rw[U]at f;by_cases a3:s<lo
        ·have V:zT ((s:Int)<(lo:Int))=zW:=l_;simp only[I_ a3]at f;rw[f]at l;(conv=>whnf);rw[V];refine Ct CC HP Fa (Av 0#256) rfl (A9 (cs:=Av 0#256) E 0 (vH _) rfl (by simp[Ax]) (vF _) λZ1 d=>?_);have g:R_ Z1 u 157 (Av 0#256):=by
          have:=d.blk 0 rfl;rwa [AT (by simp[Ax])]at this
         refine lN (cs:=Av 0#256) (wI _) (CA g) ?_;exact⟨d.old,by unfold EE;rw[l];rfl⟩
        ·have V:zT ((s:Int)<(lo:Int))=zU:=Z_;simp only[G_ a3]at f;(conv=>whnf);rw[V];(conv=>whnf);rw[U_ (x:=(lo:Int)) zO];(conv=>whnf);refine Ay.mk [20] (λb:Nat=>[A_ b]) (λb G=>lo<=b/\b<=s+1/\St H G (xM u F λa=>x.getLsbD a|| (zT (lo<=a)&&zT (a<b)))) (λb _=>s+1-b) ?_ ?_
         ·(conv=>whnf);refine⟨lo,rfl,N_ _,zO,?_⟩;rw[EN (x:=x) (λa C=>by
           by_cases h:lo<=a
           ·rw[j_ (show¬a<lo by omega),tK,uC]
           ·rw[j_ h,wZ,uC])]
          exact E
         ·rintro b I0 D ⟨J,K,q⟩;(conv=>whnf);rw[U_ (x:=(s:Int)) zO];refine AD.m2 (λP=>?_) (λP=>?_)
          ·(conv=>whnf);try refine Au.run ?_
           refine s_ CC zO zO ?_;refine AZ q 1 M' rfl (by rw[C2];omega) rfl λI2 o=>?_;have N:0+(b:Int).toNat*1=b:=zO
           rw[N]at o;have w:St H I2 (xM u F λa=>x.getLsbD a|| (zT (lo<=a)&&zT (a<b+1))):=by
            have e2:(Df λa=>x.getLsbD a|| (zT (lo<=a)&&zT (a<b))).set b (.bool zW)=Df λa=>x.getLsbD a|| (zT (lo<=a)&&zT (a<b+1)):=by
             rw[Hb _ zO];refine Dq λa C=>?_;by_cases h:a=b
             ·subst h;rw[I_ rfl,m_ (zO:lo<=a),m_ (zO:a<a+1),wX,rL]
             ·rw[G_ h]
              congr 2
              exact decide_eq_decide.2 zO
            have:=o;unfold xM at this ⊢;simp only[vW,tO]at this;rwa [e2]at this
           (conv=>whnf);rw[Q_ b zO];exact⟨rfl,b+1,rfl,⟨zO,zO,w⟩,zO⟩
          ·obtain rfl:b=s+1:=zO
           rw[EN (x:=x ||| AL lo s) (λa C=>by
            rw[MJ,Dl _ _ _ C]
            congr 2
            exact decide_eq_decide.2 zO)]at q
           (conv=>whnf);exact⟨rfl,(j2,n,x ||| AL lo s),rfl,⟨by simp only;omega,by simp only;omega,f.symm,q⟩,by simp only;omega⟩
 have⟨b1,bm,bn,bv⟩:=DQ az;have d5:zT ((i:Int)+1<(t.size:Int))=zW:=l_;have d6:((bt t (i+1):Int)==(94:Int))=W:=by
  rw[Q];by_cases h:bt t (i+1)=94
  ·rw[h];rfl
  ·rw[j_ h];exact beq_eq_false_iff_ne.2 zO
 (conv=>whnf);rw[d5];refine ED (i:=i+1) GU rfl bm ?_;rw[<-bn];(conv=>whnf);rw[d6];(conv=>whnf);refine Au.cut [13] (λ_:Unit=>[A_ ((if W then i+1+1 else i+1:Nat):Int)]) (λ_ G=>St H G (rrP u F 0#256)) ?_ ?_
 ·refine AD.mk (λY=>?_) (λY=>?_)
  ·have bq:bt t (i+1)=94:=by rw[Y]at Q;exact of_decide_eq_true Q.symm
   (conv=>whnf);rw[U_ (x:=(i:Int)+1+1) zO];exact⟨rfl,(),by rw[Y];rfl,Z⟩
  ·(conv=>whnf);exact⟨rfl,(),by rw[Y];rfl,Z⟩
 ·rintro⟨⟩ G ab L;(conv=>whnf);refine Ay.mk [13] (λy:Nat×Nat×BitVec 256=>[A_ (y.1:Int)]) (λy G=>MemD H t u F M y G) (λy _=>t.size-y.1) ?_ ?_
  ·(conv=>whnf);exact⟨((if W then i+1+1 else i+1),t.size+1,0#256),rfl,⟨ay,by simp only;omega,hM.symm,L⟩⟩
  ·rintro⟨j,n,x⟩ J0 ae ⟨hj,ag,B,A⟩;simp only at hj ag B A;obtain⟨n,rfl⟩:∃m,n=m+1:=⟨n-1,zO⟩;by_cases a1:j<t.size
   case neg=>
    have ah:=CX a1;have d7:zT ((j:Int)>=(t.size:Int))=zW:=l_;have O:BW t E6 j= .inl j:=by unfold BW;rw[ah,G_ zQ,I_ (.inr (.inl zQ))]
    have f:M= .inl j:=by rw[<-B,DD,G_ zO,O]
    rw[f]at l;(conv=>whnf);rw[d7];(conv=>whnf);try refine Au.run ?_
    refine Al (FX (i:=j) (inner:=zW) ht hj) λJ1 R=>?_;have r:=A.call R;unfold NG;simp only[if_true];rw[O];refine Ct CC HP Fa (Av 0#256) rfl (A9 (cs:=Av 0#256) r 0 (vH _) rfl (by simp[Ax]) (vF _) λZ1 d=>?_);have g:R_ Z1 u 157 (Av 0#256):=by
     have:=d.blk 0 rfl;rwa [AT (by simp[Ax])]at this
    refine lN (cs:=Av 0#256) (wI _) (CA g) ?_;exact⟨d.old,by unfold EE;rw[l];rfl⟩
   have⟨b5,ai,aj,bj⟩:=DQ a1;have d7:zT ((j:Int)>=(t.size:Int))=zU:=Z_;(conv=>whnf);rw[d7];refine ED (i:=j) GU rfl ai ?_;rw[<-aj];by_cases I:bt t j=93
   ·have d8:((bt t j:Int) != (93:Int))=zU:=by rw[I];rfl
    have f:M= .inr (x,j+1):=by rw[<-B,DD,I_ I]
    rw[f]at l;(conv=>whnf);rw[d8];(conv=>whnf);(conv=>whnf);try refine Au.run ?_
    refine AD.mk (λY=>?_) (λY=>?_)
    ·skip
     (conv=>whnf);try refine Au.run ?_
     (conv=>whnf);refine Ay.mk [21] (λk:Nat=>[A_ k]) (λk G=>k<=256/\St H G (xM u F λb=>if b<k then !x.getLsbD b else x.getLsbD b)) (λk _=>256-k) ?_ ?_
     ·(conv=>whnf);exact⟨0,rfl,zO,by rw[EN (x:=x) (λb X=>by rw[G_ zO])];exact A⟩
     ·rintro k K0 bo ⟨hk,a4⟩;refine AD.m2 (λP=>?_) (λP=>?_)
      ·(conv=>whnf);try refine Au.run ?_
       refine s_ CC zO zO (D_ (v:=.bool (x.getLsbD k)) M' ?_ zA ?_)
       ·rw[(a4.blk 1 rfl).cell,(zO:0+(k:Int).toNat*1=k),IG _ zO,G_ zO]
       refine s_ CC zO zO ?_;refine AZ a4 1 M' rfl (by rw[C2];omega) rfl λK2 a8=>?_;have N:0+(k:Int).toNat*1=k:=zO
       rw[N]at a8;have b7:St H K2 (xM u F λb=>if b<k+1 then !x.getLsbD b else x.getLsbD b):=by
        have e2:(Df λb=>if b<k then !x.getLsbD b else x.getLsbD b).set k (.bool (!x.getLsbD k))=Df λb=>if b<k+1 then !x.getLsbD b else x.getLsbD b:=by
         rw[Hb _ zO];refine Dq λb X=>?_;by_cases h:b=k
         ·subst h;rw[I_ rfl,I_ zO]
         ·rw[G_ h];by_cases h2:b<k
          ·rw[I_ h2,I_ zO]
          ·rw[G_ h2,G_ zO]
        have:=a8;unfold xM at this ⊢;simp only[vW,tO]at this;rwa [e2]at this
       (conv=>whnf);rw[Q_ k zO];exact⟨rfl,k+1,rfl,⟨zO,b7⟩,zO⟩
      ·obtain rfl:k=256:=zO
       rw[EN (x:= ~~~x) (λb X=>by rw[I_ X,WK _ _ X])]at a4;refine lN (cs:=Av (~~~x)) (wI _) (CA (a4.blk 1 rfl)) ?_;(conv=>whnf);rw[Q_ j zO];refine A9 (cs:=Av (~~~x)) a4 0 (vH _) rfl (by simp[Ax]) (vF _) λZ1 d=>?_;have g:R_ Z1 u 157 (Av (~~~x)):=by
        have:=d.blk 0 rfl;rwa [AT (by simp[Ax])]at this
       refine lN (cs:=Av (~~~x)) (wI _) (CA g) ?_;exact⟨d.old,by unfold EE;rw[l,Y];rfl⟩
    ·skip
     (conv=>whnf);try refine Au.run ?_
     refine lN (cs:=Av x) (wI _) (CA (A.blk 1 rfl)) ?_;(conv=>whnf);rw[Q_ j zO];refine A9 (cs:=Av x) A 0 (vH _) rfl (by simp[Ax]) (vF _) λZ1 d=>?_;have g:R_ Z1 u 157 (Av x):=by
      have:=d.blk 0 rfl;rwa [AT (by simp[Ax])]at this
     refine lN (cs:=Av x) (wI _) (CA g) ?_;exact⟨d.old,by unfold EE;rw[l,Y];rfl⟩
   have d8:((bt t j:Int) != (93:Int))=zW:=by rw[bne_iff_ne];omega
   (conv=>whnf);rw[d8];(conv=>whnf);try refine Au.run ?_
   refine Al (FX (i:=j) (inner:=zW) ht hj) λJ1 R=>?_;have r:=A.call R;unfold NG;simp only[if_true];cases O:BW t E6 j with
   | inl e=>
     have f:M= .inl e:=by rw[<-B,DD,G_ I,O]
     rw[f]at l;refine Ct CC HP Fa (Av 0#256) rfl (A9 (cs:=Av 0#256) r 0 (vH _) rfl (by simp[Ax]) (vF _) λZ1 d=>?_);have g:R_ Z1 u 157 (Av 0#256):=by
      have:=d.blk 0 rfl;rwa [AT (by simp[Ax])]at this
     refine lN (cs:=Av 0#256) (wI _) (CA g) ?_;exact⟨d.old,by unfold EE;rw[l];rfl⟩
   | inr p=>
     have⟨lo,z⟩:=p;have ar:=DN O;have f:M=IC t lo z x (DD t n):=by rw[<-B,DD,G_ I,O]
     unfold IC at f;by_cases a2:z<t.size
     case neg=>
      have a7:=CX a2;have d9:zT ((z:Int)<(t.size:Int))=zU:=Z_;rw[G_ zO]at f;(conv=>whnf);try refine Au.run ?_
      (conv=>whnf);rw[d9];(conv=>whnf);rw[U_ (x:=(lo:Int)) zO];(conv=>whnf);refine Ay.mk [20] (λb:Nat=>[A_ b]) (λb G=>lo<=b/\b<=lo+1/\St H G (xM u F λa=>x.getLsbD a|| (zT (lo<=a)&&zT (a<b)))) (λb _=>lo+1-b) ?_ ?_
      ·(conv=>whnf);refine⟨lo,rfl,N_ _,zO,?_⟩;rw[EN (x:=x) (λa C=>by
        by_cases h:lo<=a
        ·rw[j_ (show¬a<lo by omega),tK,uC]
        ·rw[j_ h,wZ,uC])]
       exact r
      ·rintro b I0 D ⟨J,K,q⟩;(conv=>whnf);rw[U_ (x:=(lo:Int)) zO];refine AD.m2 (λP=>?_) (λP=>?_)
       ·(conv=>whnf);try refine Au.run ?_
        refine s_ CC zO zO ?_;refine AZ q 1 M' rfl (by rw[C2];omega) rfl λI2 o=>?_;have N:0+(b:Int).toNat*1=b:=zO
        rw[N]at o;have w:St H I2 (xM u F λa=>x.getLsbD a|| (zT (lo<=a)&&zT (a<b+1))):=by
         have e2:(Df λa=>x.getLsbD a|| (zT (lo<=a)&&zT (a<b))).set b (.bool zW)=Df λa=>x.getLsbD a|| (zT (lo<=a)&&zT (a<b+1)):=by
          rw[Hb _ zO];refine Dq λa C=>?_;by_cases h:a=b
          ·subst h;rw[I_ rfl,m_ (zO:lo<=a),m_ (zO:a<a+1),wX,rL]
          ·rw[G_ h]
           congr 2
           exact decide_eq_decide.2 zO
         have:=o;unfold xM at this ⊢;simp only[vW,tO]at this;rwa [e2]at this
        (conv=>whnf);rw[Q_ b zO];exact⟨rfl,b+1,rfl,⟨zO,zO,w⟩,zO⟩
       ·obtain rfl:b=lo+1:=zO
        rw[EN (x:=x ||| AL lo lo) (λa C=>by
         rw[MJ,Dl _ _ _ C]
         congr 2
         exact decide_eq_decide.2 zO)]at q
        (conv=>whnf);exact⟨rfl,(z,n,x ||| AL lo lo),rfl,⟨by simp only;omega,by simp only;omega,f.symm,q⟩,by simp only;omega⟩
     have⟨b8,ak,am,b4⟩:=DQ a2;have d9:zT ((z:Int)<(t.size:Int))=zW:=l_;(conv=>whnf);try refine Au.run ?_
     (conv=>whnf);rw[d9];refine ED (i:=z) GU rfl ak ?_;rw[<-am];by_cases S:bt t z=45
     case neg=>
      have T:((bt t z:Int)==(45:Int))=zU:=beq_eq_false_iff_ne.2 zO;rw[G_ S]at f;(conv=>whnf);rw[T];(conv=>whnf);rw[U_ (x:=(lo:Int)) zO];(conv=>whnf);refine Ay.mk [20] (λb:Nat=>[A_ b]) (λb G=>lo<=b/\b<=lo+1/\St H G (xM u F λa=>x.getLsbD a|| (zT (lo<=a)&&zT (a<b)))) (λb _=>lo+1-b) ?_ ?_
      ·(conv=>whnf);refine⟨lo,rfl,N_ _,zO,?_⟩;rw[EN (x:=x) (λa C=>by
        by_cases h:lo<=a
        ·rw[j_ (show¬a<lo by omega),tK,uC]
        ·rw[j_ h,wZ,uC])]
       exact r
      ·rintro b I0 D ⟨J,K,q⟩;(conv=>whnf);rw[U_ (x:=(lo:Int)) zO];refine AD.m2 (λP=>?_) (λP=>?_)
       ·(conv=>whnf);try refine Au.run ?_
        refine s_ CC zO zO ?_;refine AZ q 1 M' rfl (by rw[C2];omega) rfl λI2 o=>?_;have N:0+(b:Int).toNat*1=b:=zO
        rw[N]at o;have w:St H I2 (xM u F λa=>x.getLsbD a|| (zT (lo<=a)&&zT (a<b+1))):=by
         have e2:(Df λa=>x.getLsbD a|| (zT (lo<=a)&&zT (a<b))).set b (.bool zW)=Df λa=>x.getLsbD a|| (zT (lo<=a)&&zT (a<b+1)):=by
          rw[Hb _ zO];refine Dq λa C=>?_;by_cases h:a=b
          ·subst h;rw[I_ rfl,m_ (zO:lo<=a),m_ (zO:a<a+1),wX,rL]
          ·rw[G_ h]
           congr 2
           exact decide_eq_decide.2 zO
         have:=o;unfold xM at this ⊢;simp only[vW,tO]at this;rwa [e2]at this
        (conv=>whnf);rw[Q_ b zO];exact⟨rfl,b+1,rfl,⟨zO,zO,w⟩,zO⟩
       ·obtain rfl:b=lo+1:=zO
        rw[EN (x:=x ||| AL lo lo) (λa C=>by
         rw[MJ,Dl _ _ _ C]
         congr 2
         exact decide_eq_decide.2 zO)]at q
        (conv=>whnf);exact⟨rfl,(z,n,x ||| AL lo lo),rfl,⟨by simp only;omega,by simp only;omega,f.symm,q⟩,by simp only;omega⟩
     have T:((bt t z:Int)==(45:Int))=zW:=by rw[S];rfl
     rw[I_ S]at f;(conv=>whnf);rw[T];(conv=>whnf);rw[Q_ z zO];refine Al (FX (i:=z+1) (inner:=zW) ht zO) λJ2 ao=>?_;have E:=r.call ao;unfold NG;simp only[if_true];cases U:BW t E6 (z+1)with
     | inl e=>
       rw[U]at f;rw[f]at l;refine Ct CC HP Fa (Av 0#256) rfl (A9 (cs:=Av 0#256) E 0 (vH _) rfl (by simp[Ax]) (vF _) λZ1 d=>?_);have g:R_ Z1 u 157 (Av 0#256):=by
        have:=d.blk 0 rfl;rwa [AT (by simp[Ax])]at this
       refine lN (cs:=Av 0#256) (wI _) (CA g) ?_;exact⟨d.old,by unfold EE;rw[l];rfl⟩
     | inr p2=>
       have⟨s,j2⟩:=p2;have b6:=DN U;rw[U]at f;by_cases a3:s<lo
       ·have V:zT ((s:Int)<(lo:Int))=zW:=l_;simp only[I_ a3]at f;rw[f]at l;(conv=>whnf);rw[V];refine Ct CC HP Fa (Av 0#256) rfl (A9 (cs:=Av 0#256) E 0 (vH _) rfl (by simp[Ax]) (vF _) λZ1 d=>?_);have g:R_ Z1 u 157 (Av 0#256):=by
         have:=d.blk 0 rfl;rwa [AT (by simp[Ax])]at this
        refine lN (cs:=Av 0#256) (wI _) (CA g) ?_;exact⟨d.old,by unfold EE;rw[l];rfl⟩
       ·have V:zT ((s:Int)<(lo:Int))=zU:=Z_;simp only[G_ a3]at f;(conv=>whnf);rw[V];(conv=>whnf);rw[U_ (x:=(lo:Int)) zO];(conv=>whnf);refine Ay.mk [20] (λb:Nat=>[A_ b]) (λb G=>lo<=b/\b<=s+1/\St H G (xM u F λa=>x.getLsbD a|| (zT (lo<=a)&&zT (a<b)))) (λb _=>s+1-b) ?_ ?_
        ·(conv=>whnf);refine⟨lo,rfl,N_ _,zO,?_⟩;rw[EN (x:=x) (λa C=>by
          by_cases h:lo<=a
          ·rw[j_ (show¬a<lo by omega),tK,uC]
          ·rw[j_ h,wZ,uC])]
         exact E
        ·rintro b I0 D ⟨J,K,q⟩;(conv=>whnf);rw[U_ (x:=(s:Int)) zO];refine AD.m2 (λP=>?_) (λP=>?_)
         ·(conv=>whnf);try refine Au.run ?_
          refine s_ CC zO zO ?_;refine AZ q 1 M' rfl (by rw[C2];omega) rfl λI2 o=>?_;have N:0+(b:Int).toNat*1=b:=zO
          rw[N]at o;have w:St H I2 (xM u F λa=>x.getLsbD a|| (zT (lo<=a)&&zT (a<b+1))):=by
           have e2:(Df λa=>x.getLsbD a|| (zT (lo<=a)&&zT (a<b))).set b (.bool zW)=Df λa=>x.getLsbD a|| (zT (lo<=a)&&zT (a<b+1)):=by
            rw[Hb _ zO];refine Dq λa C=>?_;by_cases h:a=b
            ·subst h;rw[I_ rfl,m_ (zO:lo<=a),m_ (zO:a<a+1),wX,rL]
            ·rw[G_ h]
             congr 2
             exact decide_eq_decide.2 zO
           have:=o;unfold xM at this ⊢;simp only[vW,tO]at this;rwa [e2]at this
          (conv=>whnf);rw[Q_ b zO];exact⟨rfl,b+1,rfl,⟨zO,zO,w⟩,zO⟩
         ·obtain rfl:b=s+1:=zO
          rw[EN (x:=x ||| AL lo s) (λa C=>by
           rw[MJ,Dl _ _ _ C]
           congr 2
           exact decide_eq_decide.2 zO)]at q
          (conv=>whnf);exact⟨rfl,(j2,n,x ||| AL lo s),rfl,⟨by simp only;omega,by simp only;omega,f.symm,q⟩,by simp only;omega⟩
abbrev pC(t:ByteArray)(i:Nat)(ov:v_):List v_:=[.string t,A_ i,ov]
abbrev pSc(s:Nat)(t:ByteArray)(i:Nat)(ov:v_):Pc:=pB 139 s (pC t i ov)
def Gf{s:Nat}{b:v_}(a:R_ H s 139 (pC t i b)):BZ prog 73 #[Y_ s] H (.bool (zT (t.size<=i))):=by refine Aj.of_vc func73 rfl (call73 _) (Ap.lex rfl zX (F_ AV ?_));refine D_ (v:=A_ i) E_ (by rw[a.cell];rfl) zA ?_;refine F_ NS ?_;refine D_ (v:=.string t) tR (by rw[a.cell];rfl) zA ?_;(conv=>whnf);refine⟨?_,C_.refl _ _⟩;congr 1;rw[decide_eq_decide];omega
def Ez{s:Nat}{c:v_}(a:R_ H s 139 (pC t i c))(d:i<t.size):BZ prog 129 #[Y_ s] H (.int .u8 (bt t i:Int)):=by refine Aj.of_vc func129 rfl (call129 _) (Ap.lex rfl zX (F_ AV ?_));refine D_ (v:=A_ i) E_ (by rw[a.cell];rfl) zA ?_;refine F_ NS ?_;refine D_ (v:=.string t) tR (by rw[a.cell];rfl) zA ?_;have⟨b,e,f,h⟩:=DQ d;have g:zT ((i:Int)<(t.size:Int))=zW:=l_;(conv=>whnf);rw[g];refine Ap.lex rfl zX (F_ NS ?_);refine D_ (v:=.string t) tR (by rw[a.cell];rfl) zA ?_;refine F_ AV ?_;refine D_ (v:=A_ i) E_ (by rw[a.cell];rfl) zA ?_;refine ED GU rfl e ?_;(conv=>whnf);refine⟨?_,C_.refl _ _⟩;rw[f]
def D6{s:Nat}:Cv prog 74 #[Y_ s,A_ c,A_ e] H (λ_ _=>False) (λx H'=>x=Fg c e/\H'=H):=by refine Cv.of_vc func74 rfl (call74 _) (Az underlying68 rfl _ rfl [A_ c,A_ e,.string ⟨#[]⟩] rfl ?_);(conv=>whnf);exact⟨rfl,rfl⟩
def Sk{s:Nat}{q:v_}(T:t.size<=1152921504606846976)(U:i<=t.size)(N:B_ B H H ps)(A:ps[k]?=zY (pSc s t i q)):
  Cv prog 231 #[Y_ s] H (λv H'=>EG t i=zW/\v= .int .i64 (((Cm t 3 i 0).1:Nat):Int)/\B_ B H H' (ps.set k (pSc s t (Cm t 3 i 0).2 q)))
   (λx H'=>EG t i=zU/\x=Fg 20 i/\C_ B H H'):=by
 refine Cv.of_vc func231 rfl (call231 _) (CV.of (Ap.lex rfl zX (F_ AV ?_)));refine lT (v:=A_ i) E_ ((N.blk k A).ce rfl) ?_;(conv=>whnf);refine FJ.mk [3] (λx:Nat×Nat=>match x with | (_,v)=>[A_ v]) (λx G=>match x with | (n,v)=>n<=3/\v<10^n/\Cm t 3 i 0=Cm t (3-n) (i+n) v/\(n=0\/EG t i=zW)/\B_ B H G (ps.set k (pSc s t (i+n) q))) (λx _=>match x with | (n,_)=>3-n) ?_ ?_
 ·(conv=>whnf);exact⟨(0,0),rfl,zO,zQ,rfl,.inl rfl,by rw[Nat.add_zero,Ds A];exact N⟩
 ·rintro⟨n,v⟩ G O ⟨C,D,P,j,r⟩;have a:(ps.set k (pSc s t (i+n) q))[k]?=zY (pSc s t (i+n) q):=KL A;have out:(n=3\/EG t (i+n)=zU)->Cm t 3 i 0=(v,i+n):=λh=>by
   rw[P];rcases h with rfl | h
   ·rfl
   ·cases z:3-n with
    | zero=>rfl
    | succ m=>unfold Cm;rw[h];rfl
  refine Ao.of (Al (Gf (r.blk k a)) λG1 E=>?_);have J_:=r.call E;by_cases p:i+n<t.size
  ·obtain⟨V,-,-,R⟩:=DQ p;rw[j_ (show¬t.size<=i+n by omega)];refine F_ AV ?_;refine lT (v:=A_ ((i+n:Nat):Int)) E_ ((J_.blk k a).ce rfl) ?_;(conv=>whnf);rw[U_ (x:=(i:Int)+3) zO];by_cases Q:n=3
   ·have F:zT (((i+n:Nat):Int)<(i:Int)+3)=zU:=Z_;(conv=>whnf);rw[F];refine Bq.run (F_ AV ?_);refine lT (v:=A_ ((i+n:Nat):Int)) E_ ((J_.blk k a).ce rfl) ?_;have l:=out (.inl Q);by_cases b:n=0
    ·have d:(((i+n:Nat):Int)==(i:Int))=zW:=by rw[b];exact beq_self_eq_true _
     (conv=>whnf);rw[d];refine F_ AV ?_;refine lT (v:=A_ ((i+n:Nat):Int)) E_ ((J_.blk k a).ce rfl) ?_;refine Ao.mk (D6 (c:=20) (e:=i+n)) (λ_ _ h=>h.elim) ?_;rintro _ _ ⟨rfl,rfl⟩;subst b
     exact⟨by
       rcases(.inl Q:0=3\/EG t (i+0)=zU)with h | h
       ·omega
       ·exact h,rfl,J_.old⟩
    ·have d:(((i+n:Nat):Int)==(i:Int))=zU:=beq_eq_false_iff_ne.2 zO;(conv=>whnf);rw[d];(conv=>whnf);rw[l];exact⟨j.resolve_left b,rfl,J_⟩
   ·have F:zT (((i+n:Nat):Int)<(i:Int)+3)=zW:=l_;(conv=>whnf);rw[F];refine Ao.of (Al (Ez (J_.blk k a) p) λG2 I=>?_);have f:=J_.call I;by_cases J:48<=bt t (i+n)
    ·have S:zT (((bt t (i+n):Nat):Int)>=48)=zW:=l_;have o:zT (48<=((bt t (i+n):Nat):Int))=zW:=S;(conv=>whnf);rw[o];refine Ao.of (Al (Ez (f.blk k a) p) λG3 K=>?_);have g:=f.call K;by_cases z:bt t (i+n)<=57
     ·have L:zT (((bt t (i+n):Nat):Int)<=57)=zW:=l_;have u:EG t (i+n)=zW:=m_ ⟨J,z⟩;(conv=>whnf);rw[L];refine Ao.of (Al (Ez (g.blk k a) p) λG4 M=>?_);have w:=g.call M;(conv=>whnf);rw[yE (x:=10*(v:Int)) (by have:v<1000:=vN D (uI zO C);omega) (by have:v<1000:=vN D (uI zO C);omega)];(conv=>whnf);rw[w8 (x:=((bt t (i+n):Nat):Int)-48) zO zO];(conv=>whnf);rw[yE (x:=((bt t (i+n):Nat):Int)-48) zO zO];(conv=>whnf);rw[yE (x:=10*(v:Int)+(((bt t (i+n):Nat):Int)-48)) zO (by have:v<1000:=vN D (uI zO C);omega)];refine F_ AV ?_;refine lT (v:=A_ ((i+n:Nat):Int)) E_ ((w.blk k a).ce rfl) ?_;(conv=>whnf);rw[U_ (x:=((i+n:Nat):Int)+1) zO];refine F_ AV (AZ w k E_ a zZ rfl λG5 y=>?_);refine⟨rfl,(n+1,10*v+(bt t (i+n)-48)),?_,⟨zO,?_,?_,.inr ?_,?_⟩,by show 3-(n+1)<3-n;omega⟩
      ·show [Value.int .i64 (10*(v:Int)+(((bt t (i+n):Nat):Int)-48))]=[A_ ((10*v+(bt t (i+n)-48):Nat):Int)]
       congr 2;omega
      ·rw[sN];omega
      ·rw[P,(zO:3-n=(3-(n+1))+1),Cm,u];rfl
      ·rcases j with rfl | j
       ·exact u
       ·exact j
      ·rw[vD]at y;exact y
     ·have L:zT (((bt t (i+n):Nat):Int)<=57)=zU:=Z_;(conv=>whnf);rw[L];refine Bq.run (F_ AV ?_);refine lT (v:=A_ ((i+n:Nat):Int)) E_ ((g.blk k a).ce rfl) ?_;have l:=out (.inr (j_ λh=>z h.2));by_cases b:n=0
      ·have d:(((i+n:Nat):Int)==(i:Int))=zW:=by rw[b];exact beq_self_eq_true _
       (conv=>whnf);rw[d];refine F_ AV ?_;refine lT (v:=A_ ((i+n:Nat):Int)) E_ ((g.blk k a).ce rfl) ?_;refine Ao.mk (D6 (c:=20) (e:=i+n)) (λ_ _ h=>h.elim) ?_;rintro _ _ ⟨rfl,rfl⟩;subst b
       exact⟨by
         rcases(.inr (j_ λh=>z h.2):0=3\/EG t (i+0)=zU)with h | h
         ·omega
         ·exact h,rfl,g.old⟩
      ·have d:(((i+n:Nat):Int)==(i:Int))=zU:=beq_eq_false_iff_ne.2 zO;(conv=>whnf);rw[d];(conv=>whnf);rw[l];exact⟨j.resolve_left b,rfl,g⟩
    ·have o:zT (48<=((bt t (i+n):Nat):Int))=zU:=Z_;(conv=>whnf);rw[o];refine Bq.run (F_ AV ?_);refine lT (v:=A_ ((i+n:Nat):Int)) E_ ((f.blk k a).ce rfl) ?_;have l:=out (.inr (j_ λh=>J h.1));by_cases b:n=0
     ·have d:(((i+n:Nat):Int)==(i:Int))=zW:=by rw[b];exact beq_self_eq_true _
      (conv=>whnf);rw[d];refine F_ AV ?_;refine lT (v:=A_ ((i+n:Nat):Int)) E_ ((f.blk k a).ce rfl) ?_;refine Ao.mk (D6 (c:=20) (e:=i+n)) (λ_ _ h=>h.elim) ?_;rintro _ _ ⟨rfl,rfl⟩;subst b
      exact⟨by
        rcases(.inr (j_ λh=>J h.1):0=3\/EG t (i+0)=zU)with h | h
        ·omega
        ·exact h,rfl,f.old⟩
     ·have d:(((i+n:Nat):Int)==(i:Int))=zU:=beq_eq_false_iff_ne.2 zO;(conv=>whnf);rw[d];(conv=>whnf);rw[l];exact⟨j.resolve_left b,rfl,f⟩
  ·rw[m_ (zO:t.size<=i+n)];refine Bq.run (F_ AV ?_);refine lT (v:=A_ ((i+n:Nat):Int)) E_ ((J_.blk k a).ce rfl) ?_;have l:=out (.inr (j_ λh=>by have:=CX p;omega));by_cases b:n=0
   ·have d:(((i+n:Nat):Int)==(i:Int))=zW:=by rw[b];exact beq_self_eq_true _
    (conv=>whnf);rw[d];refine F_ AV ?_;refine lT (v:=A_ ((i+n:Nat):Int)) E_ ((J_.blk k a).ce rfl) ?_;refine Ao.mk (D6 (c:=20) (e:=i+n)) (λ_ _ h=>h.elim) ?_;rintro _ _ ⟨rfl,rfl⟩;subst b
    exact⟨by
      rcases(.inr (j_ λh=>by have:=CX p;omega):0=3\/EG t (i+0)=zU)with h | h
      ·omega
      ·exact h,rfl,J_.old⟩
   ·have d:(((i+n:Nat):Int)==(i:Int))=zU:=beq_eq_false_iff_ne.2 zO;(conv=>whnf);rw[d];(conv=>whnf);rw[l];exact⟨j.resolve_left b,rfl,J_⟩
def Sp{l:List Pc}{q r:Pc}(a:ps[k]?=zY p):(ps.set k q++l).set k r=ps.set k r++l:=by rw[oT (KL a),vD]
def HR{l:List Pc}{q:Pc}(a:ps[k]?=zY p):(ps.set k q++l)[k]?=zY q:=oS (KL a)
structure Yv(B:Nat->Prop)(H:Aa)(ps:List Pc)(k s:Nat)(t:ByteArray)(j:Nat)(ov:v_)(r:ReM)(v:v_)(H':Aa):Prop where
 ex:∃(B':Nat->Prop) (fn:v_),v= .agg (Ad r fn).toArray/\(∀k,B k->B' k)/\C_ B H H'/\B_ B' H' H' (ps.set k (pSc s t j ov))/\Dg B' H' fn r
def FV{d:Nat}(h:c≠d):((c:Int)==(d:Int))=zU:=beq_eq_false_iff_ne.2 zO
def YI{s:Nat}{M:v_}{a:ReM}(ht:t.size<=1152921504606846)(hc:bt t i=123)(st:B_ B H H ps)(l:ps[k]?=zY (pSc s t i M))(ga:Dg B H va a):
  Cv prog 217 #[Y_ s,.agg (Ad a va).toArray] H (λv H'=>∃m n j,C0 t i= .inr (m,n,j)/\Yv B H ps k s t j M (C3 a m n) v H')
   (λx H'=>∃c p:Nat,C0 t i= .inl (c,p)/\x=Fg c p/\C_ B H H'):=by
 have hi:i<t.size:=Ei zO;obtain⟨g1,I,rfl⟩:=ga.fn;refine Cv.of_vc func217 rfl (call217 _) (Cd (Ad a (.func (.func g1) #[] I)) rfl ?_);intro O H1 a0 a1 a2 a5;have J_:=st.box a0 a1 a2 a5;refine Ag (.agg Ar.toArray) Ar DO rfl ?_;intro P H2 a6 a7 a9 ab;have C:=J_.box a6 a7 a9 ab;rw[zN]at C;replace C:B_ B H H2 (ps++[pB 142 O (Ad a (.func (.func g1) #[] I)),pB 142 P Ar]):=C;have Q:(ps++[pB 142 O (Ad a (.func (.func g1) #[] I)),pB 142 P Ar])[k]?=zY (pSc s t i M):=oS l;refine F_ AV ?_;refine lT (v:=A_ i) E_ ((C.blk k Q).ce rfl) ?_;refine F_ AV ?_;refine lT (v:=A_ i) E_ ((C.blk k Q).ce rfl) ?_;(conv=>whnf);rw[U_ (x:=(i:Int)+1) zO];refine F_ AV (AZ C k E_ Q zZ rfl λH3 E=>?_);rw[oT l]at E;replace E:B_ B H H3 (ps.set k (pSc s t (i+1) M)++[pB 142 O (Ad a (.func (.func g1) #[] I)),pB 142 P Ar]):=E;have a3:=E.old;refine Ao.mk (Sk zO zO E.rebase (HR l)) ?_ ?_;rotate_left
 {rintro _ H4 ⟨hd,rfl,J⟩;exact⟨20,i+1,by unfold C0;rw[hd];rfl,rfl,a3.trans J⟩}
 rintro _ H4 ⟨hd,rfl,y⟩;have J:=a3.trans y.old;rw[Sp l]at y;replace y:=y.rebase;obtain⟨-,-,W⟩:=Ij (t:=t) 3 (i+1) 0;replace W:=W zO;have hm:=Ol (t:=t) 3 (i+1) 0;have f:C0 t i=(match upM t (Cm t 3 (i+1) 0).1 (Cm t 3 (i+1) 0).2 with
  | .inl e=>.inl e
  | .inr (n,j)=>GK t i (Cm t 3 (i+1) 0).1 n j):=by unfold C0;rw[I_ hd];cases upM t (Cm t 3 (i+1) 0).1 (Cm t 3 (i+1) 0).2<;>rfl
 generalize Cm t 3 (i+1) 0=q at*;have⟨m,j⟩:=q;replace hm:m<1000:=hm;replace W:j<=t.size:=W;replace f:C0 t i=(match upM t m j with
  | .inl e=>.inl e
  | .inr (n,j)=>GK t i m n j):=f
 replace y:B_ B H4 H4 (ps.set k (pSc s t j M)++[pB 142 O (Ad a (.func (.func g1) #[] I)),pB 142 P Ar]):=y;(conv=>whnf);refine Bq.cut [7] (λx:Int×Nat=>match x with | (n,_)=>[A_ n]) (λx G=>match x with | (n,e)=>upM t m j= .inr (n,e)/\e<=t.size/\ -1<=n/\n<1000/\C_ B H G/\B_ B G G (ps.set k (pSc s t e M)++[pB 142 O (Ad a (.func (.func g1) #[] I)),pB 142 P Ar])) ?_ ?_;{refine Ao.of (Al (Gf (y.blk k (HR l))) λH5 R=>?_);have r:=y.call R;by_cases X:j<t.size;{rw[j_ (show¬t.size<=j by omega)];refine Ao.of (Al (Ez (r.blk k (HR l)) X) λH6 S=>?_);have u:=r.call S;by_cases N:bt t j=44;{have F:(((bt t j:Nat):Int)==44)=zW:=by{rw[N];rfl};have D:upM t m j=(if bt t (j+1)=125 then .inr (-1,j+1)else if EG t (j+1)then .inr (((Cm t 3 (j+1) 0).1:Int),(Cm t 3 (j+1) 0).2)else .inl (20,j+1)):=by{unfold upM;rw[I_ N]};(conv=>whnf);rw[F];refine F_ AV ?_;refine D_ (v:=A_ j) E_ (by rw[(u.blk k (HR l)).cell];rfl) zA ?_;(conv=>whnf);rw[U_ (x:=(j:Int)+1) zO];refine F_ AV (AZ u k E_ (HR l) zZ rfl λH7 b=>?_);rw[Sp l]at b;replace b:B_ B H4 H7 (ps.set k (pSc s t (j+1) M)++[pB 142 O (Ad a (.func (.func g1) #[] I)),pB 142 P Ar]):=b;refine Ao.of (Al (Gf (b.blk k (HR l))) λH8 ae=>?_);have w:=b.call ae;by_cases h2:j+1<t.size;{rw[j_ (show¬t.size<=j+1 by omega)];refine Ao.of (Al (Ez (w.blk k (HR l)) h2) λH9 T=>?_);have d:=w.call T;by_cases h3:bt t (j+1)=125;{have F:(((bt t (j+1):Nat):Int) != 125)=zU:=by{rw[h3];rfl};(conv=>whnf);rw[F];(conv=>whnf);exact⟨rfl,(-1,j+1),rfl,by rw[D,I_ h3],zO,zO,zO,J.trans d.old,d.rebase⟩};{have F:(((bt t (j+1):Nat):Int) != 125)=zW:=bne_iff_ne.2 zO;rw[G_ h3]at D;(conv=>whnf);rw[F];refine Ao.mk (Sk zO zO d.rebase (HR l)) ?_ ?_;{rintro _ H10 ⟨z,rfl,g⟩;rw[I_ z]at D;rw[Sp l]at g;obtain⟨-,-,U⟩:=Ij (t:=t) 3 (j+1) 0;have ah:=Ol (t:=t) 3 (j+1) 0;(conv=>whnf);exact⟨rfl,(_,_),rfl,D,U zO,zO,zO,(J.trans d.old).trans g.old,g.rebase⟩};{rintro _ H10 ⟨z,rfl,V⟩;rw[G_ (by rw[z];decide)]at D;exact⟨20,j+1,by rw[f,D],rfl,(J.trans d.old).trans V⟩}}};{rw[m_ (zO:t.size<=j+1)];rw[G_ (by rw[CX h2];omega)]at D;refine Ao.mk (Sk zO zO w.rebase (HR l)) ?_ ?_;{rintro _ H10 ⟨z,rfl,g⟩;rw[I_ z]at D;rw[Sp l]at g;obtain⟨-,-,U⟩:=Ij (t:=t) 3 (j+1) 0;have ah:=Ol (t:=t) 3 (j+1) 0;(conv=>whnf);exact⟨rfl,(_,_),rfl,D,U zO,zO,zO,(J.trans w.old).trans g.old,g.rebase⟩};{rintro _ H10 ⟨z,rfl,V⟩;rw[G_ (by rw[z];decide)]at D;exact⟨20,j+1,by rw[f,D],rfl,(J.trans w.old).trans V⟩}}};{have F:(((bt t j:Nat):Int)==44)=zU:=FV N;(conv=>whnf);rw[F];(conv=>whnf);exact⟨rfl,((m:Int),j),rfl,by unfold upM;rw[G_ N],W,zO,zO,J.trans u.old,u.rebase⟩}};{rw[m_ (zO:t.size<=j)];(conv=>whnf);exact⟨rfl,((m:Int),j),rfl,by unfold upM;rw[G_ (by rw[CX X];omega)],W,zO,zO,J.trans r.old,r.rebase⟩}};{rintro⟨n,e⟩ G aj ⟨D,he,Y,ak,K,Z⟩;rw[D]at f;replace f:C0 t i=GK t i m n e:=f;refine Bq.run (Ao.of (Al (Gf (Z.blk k (HR l))) λH5 R=>?_));have r:=Z.call R;by_cases X:e<t.size;{rw[j_ (show¬t.size<=e by omega)];refine Ao.of (Al (Ez (r.blk k (HR l)) X) λH6 S=>?_);have u:=r.call S;by_cases N:bt t e=125;{have F:(((bt t e:Nat):Int) != 125)=zU:=by{rw[N];rfl};have o:GK t i m n e=(if 255<m\/255<n\/(0<=n/\n<(m:Int))then .inl (22,i)else .inr (m,n,e+1)):=by{unfold GK;rw[I_ N]};(conv=>whnf);rw[F];refine F_ AV ?_;refine D_ (v:=A_ e) E_ (by rw[(u.blk k (HR l)).cell];rfl) zA ?_;(conv=>whnf);rw[U_ (x:=(e:Int)+1) zO];refine F_ AV (AZ u k E_ (HR l) zZ rfl λH7 b=>?_);rw[Sp l]at b;replace b:B_ B G H7 (ps.set k (pSc s t (e+1) M)++[pB 142 O (Ad a (.func (.func g1) #[] I)),pB 142 P Ar]):=b;refine Bq.run ?_;(conv=>whnf);by_cases w1:255<m;{have e1:zT (255<(m:Int))=zW:=l_;(conv=>whnf);rw[e1];rw[I_ (.inl w1)]at o;refine Ao.mk (D6 (c:=22) (e:=i)) (λ_ _ h=>h.elim) ?_;rintro _ _ ⟨rfl,rfl⟩;exact⟨22,i,by rw[f,o],rfl,K.trans b.old⟩};{have e1:zT (255<(m:Int))=zU:=Z_;(conv=>whnf);rw[e1];by_cases L:255<n;{have e2:zT (255<n)=zW:=m_ L;(conv=>whnf);rw[e2];rw[I_ (.inr (.inl L))]at o;refine Ao.mk (D6 (c:=22) (e:=i)) (λ_ _ h=>h.elim) ?_;rintro _ _ ⟨rfl,rfl⟩;exact⟨22,i,by rw[f,o],rfl,K.trans b.old⟩};{have e2:zT (255<n)=zU:=j_ L;(conv=>whnf);rw[e2];by_cases c3:0<=n;{have e3:zT (0<=n)=zW:=m_ c3;(conv=>whnf);rw[e3];by_cases c4:n<(m:Int);{have e4:zT (n<(m:Int))=zW:=m_ c4;(conv=>whnf);rw[e4];rw[I_ (.inr (.inr ⟨c3,c4⟩))]at o;refine Ao.mk (D6 (c:=22) (e:=i)) (λ_ _ h=>h.elim) ?_;rintro _ _ ⟨rfl,rfl⟩;exact⟨22,i,by rw[f,o],rfl,K.trans b.old⟩};{have e4:zT (n<(m:Int))=zU:=j_ c4;(conv=>whnf);rw[e4];rw[G_ zO]at o;refine L_ (cs:=Ad a (.func (.func g1) #[] I)) Bg (A0 (b.blk _ (Ft _ _))) zA (Ao.of (Ae.mk (Xc b (ga.frame (K.trans b.old) λk A=>A) zO Y zO zO) ?_));rintro _ H8 ⟨B1,f1,rfl,s1,a8,w,gs⟩;obtain⟨g2,L,rfl⟩:=gs.fn;refine BC (cs:=Ad (C3 a m n) (.func (.func g2) #[] L)) w _ rfl (S_ _ _ 1) (by simp[Ad,Ar]) rfl λH9 d T ai=>?_;rw[N',CT rfl]at d;refine lN (cs:=Ad (C3 a m n) (.func (.func g2) #[] L)) Bg (A0 (d.blk _ (S_ _ _ 1))) ?_;exact⟨m,n,e+1,by rw[f,o],B1,_,rfl,s1,((K.trans b.old).trans (a8.mono λk A=>b.up A)).trans λk A=>d.old k (s1 k A),d.lft.rebase,gs.frame d.old λk A=>A⟩}};{have e3:zT (0<=n)=zU:=j_ c3;(conv=>whnf);rw[e3];rw[G_ zO]at o;refine L_ (cs:=Ad a (.func (.func g1) #[] I)) Bg (A0 (b.blk _ (Ft _ _))) zA (Ao.of (Ae.mk (Xc b (ga.frame (K.trans b.old) λk A=>A) zO Y zO zO) ?_));rintro _ H8 ⟨B1,f1,rfl,s1,a8,w,gs⟩;obtain⟨g2,L,rfl⟩:=gs.fn;refine BC (cs:=Ad (C3 a m n) (.func (.func g2) #[] L)) w _ rfl (S_ _ _ 1) (by simp[Ad,Ar]) rfl λH9 d T ai=>?_;rw[N',CT rfl]at d;refine lN (cs:=Ad (C3 a m n) (.func (.func g2) #[] L)) Bg (A0 (d.blk _ (S_ _ _ 1))) ?_;exact⟨m,n,e+1,by rw[f,o],B1,_,rfl,s1,((K.trans b.old).trans (a8.mono λk A=>b.up A)).trans λk A=>d.old k (s1 k A),d.lft.rebase,gs.frame d.old λk A=>A⟩}}}};{have F:(((bt t e:Nat):Int) != 125)=zW:=bne_iff_ne.2 zO;(conv=>whnf);rw[F];refine F_ AV ?_;refine D_ (v:=A_ e) E_ (by rw[(u.blk k (HR l)).cell];rfl) zA ?_;refine Ao.mk (D6 (c:=20) (e:=e)) (λ_ _ h=>h.elim) ?_;rintro _ _ ⟨rfl,rfl⟩;exact⟨20,e,by rw[f];unfold GK;rw[G_ N],rfl,K.trans u.old⟩}};{rw[m_ (zO:t.size<=e)];refine F_ AV ?_;refine D_ (v:=A_ e) E_ (by rw[(r.blk k (HR l)).cell];rfl) zA ?_;refine Ao.mk (D6 (c:=20) (e:=e)) (λ_ _ h=>h.elim) ?_;rintro _ _ ⟨rfl,rfl⟩;exact⟨20,e,by rw[f];unfold GK;rw[G_ (by rw[CX X];omega)],rfl,K.trans r.old⟩}}
def HJ{m:Nat}{a:ReM}(b:f.factor=zY a)(c:GT (bt t i)=zW)(d:FI t i= .inr (m,n,k)):
  CE t ⟨i,f,fs⟩= .inr ⟨k,{f with factor:=zY (C3 a m n)},fs⟩:=by unfold CE;show(if GT (bt t i)then _ else _)=_;rw[I_ c,b];show(match FI t i with | .inl e=>_ | .inr (m,n,k)=>_)=_;rw[d]
def Nw{e:Nat×Nat}{a:ReM}(b:f.factor=zY a)(c:GT (bt t i)=zW)(d:FI t i= .inl e):
  CE t ⟨i,f,fs⟩= .inl e:=by unfold CE;show(if GT (bt t i)then _ else _)=_;rw[I_ c,b];show(match FI t i with | .inl e=>_ | .inr (m,n,k)=>_)=_;rw[d]
def TX(h:c=42\/c=43\/c=63\/c=123):GT c=zW:=by rcases h with rfl | rfl | rfl | rfl<;>rfl
def Mk(a:c≠42)(b:c≠43)(d:c≠63)(e:c≠123):GT c=zU:=by unfold GT;rw[beq_eq_false_iff_ne.2 a,beq_eq_false_iff_ne.2 b,beq_eq_false_iff_ne.2 d,beq_eq_false_iff_ne.2 e];rfl
structure RepI(B:Nat->Prop)(H:Aa)(ps:List Pc)(k s q1 q2 i:Nat)(t:ByteArray)(ov:v_)(f:AF)(fs:List AF)(j:Nat)(G:Aa):Prop where
 ex:∃(a:ReM) (B':Nat->Prop) (fn:v_),Cx t ⟨i,f,fs⟩=Cx t ⟨j,{f with factor:=zY a},fs⟩/\i<=j/\j<=t.size/\(∀k,B k->B' k)/\C_ B H G/\
  B_ B' G G (ps.set k (pSc s t j ov)++[pB 142 q1 (Ad a fn),pB 142 q2 Ar])/\Dg B' G fn a
def XT{s:Nat}{I:v_}{a:ReM}(ht:t.size<=1152921504606846)(hi:i<=t.size)(hf:f.factor=zY a)(st:B_ B H H ps)(D:ps[k]?=zY (pSc s t i I))(ga:Dg B H va a):
  Cv prog 192 #[Y_ s,.agg (Ad a va).toArray] H
   (λv H'=>∃j r,i<=j/\j<=t.size/\GT (bt t j)=zU/\Cx t ⟨i,f,fs⟩=Cx t ⟨j,{f with factor:=zY r},fs⟩/\Yv B H ps k s t j I r v H')
   (λx H'=>∃c p:Nat,Cx t ⟨i,f,fs⟩= .inl (c,(p:Int))/\x=Fg c p/\C_ B H H'):=by obtain⟨g1,c1,rfl⟩:=ga.fn;refine Cv.of_vc func192 rfl (call192 _) (Cd (Ad a (.func (.func g1) #[] c1)) rfl ?_);intro J H1 a9 ab Y Z;have J_:=st.box a9 ab Y Z;refine Ag (.agg Ar.toArray) Ar DO rfl ?_;intro R H2 ae ah a0 a1;have z:=J_.box ae ah a0 a1;rw[zN]at z;replace z:B_ B H H2 (ps++[pB 142 J (Ad a (.func (.func g1) #[] c1)),pB 142 R Ar]):=z;rw[<-Ds D]at z;(conv=>whnf);refine FJ.mk [] (λ_:Nat=>[]) (λj G=>RepI B H ps k s J R i t I f fs j G) (λj _=>t.size-j) ?_ ?_;{(conv=>whnf);refine⟨i,rfl,⟨a,B,.func (.func g1) #[] c1,?_,N_ _,hi,λk b=>b,z.old,z.rebase,ga.frame z.old λk b=>b⟩⟩;rw[<-hf]};{rintro j G ao ⟨a',B1,f1,K,a2,hj,q,S,a4,P⟩;obtain⟨u,w,rfl⟩:=P.fn;clear st J_ z ga Y a0 Z a1;have T:(ps.set k (pSc s t j I)++[pB 142 J (Ad a' (.func (.func u) #[] w)),pB 142 R Ar])[k]?=zY (pSc s t j I):=HR D;refine Ao.of (Al (Gf (a4.blk k T)) λG1 ai=>?_);have L:=a4.call ai;by_cases h0:j<t.size;{rw[j_ (show¬t.size<=j by omega)];refine Bq.run (Ao.of (Al (Ez (L.blk k T) h0) λG2 aj=>?_));have g:=L.call aj;have M:∀{m k2:Nat} {n:Int},(bt t j=42\/bt t j=43\/bt t j=63\/bt t j=123)->FI t j= .inr (m,n,k2)->Cx t ⟨i,f,fs⟩=Cx t ⟨k2,{f with factor:=zY (C3 a' m n)},fs⟩:=λhc D=>by{rw[K];exact Fl (s:=⟨j,{f with factor:=zY a'},fs⟩) h0 (HJ rfl (TX hc) D)};by_cases N:bt t j=42;{have d1:(((bt t j:Nat):Int)==42)=zW:=by{rw[N];rfl};(conv=>whnf);rw[d1];refine L_ (cs:=Ad a' (.func (.func u) #[] w)) Bg (A0 (g.blk _ (Ft _ _))) zA (Ao.of (Ae.mk (PF g (P.frame g.old λk b=>b)) ?_));rintro _ G3 ⟨B2,f2,rfl,F,U,y,E⟩;have A:C_ B H G3:=(S.trans λk b=>g.old k (q k b)).trans (U.mono λk b=>g.up (q k b));obtain⟨g2,l,rfl⟩:=E.fn;refine BC (cs:=Ad (.star a') (.func (.func g2) #[] l)) y _ rfl (Ft _ _) (by simp[Ad]) rfl λG4 d ja js=>?_;rw[TE]at d;have V:Ak (Ad a' (.func (.func u) #[] w)) 0 (Ad (.star a') (.func (.func g2) #[] l))=Ad (.star a') (.func (.func g2) #[] l):=CT rfl;replace d:B_ B2 G3 G4 (ps.set k (pSc s t j I)++[pB 142 J (Ak (Ad a' (.func (.func u) #[] w)) 0 (Ad (.star a') (.func (.func g2) #[] l))),pB 142 R Ar]):=d;rw[V]at d;refine F_ AV ?_;refine D_ (v:=A_ j) E_ (by rw[(d.blk k (HR D)).cell];rfl) zA ?_;(conv=>whnf);rw[U_ (x:=(j:Int)+1) zO];refine F_ AV (AZ d k E_ (HR D) zZ rfl λG5 h=>?_);rw[Sp D]at h;have C:C_ B G3 G5:=λk b=>h.old k (F k (q k b));exact⟨rfl,j+1,rfl,⟨.star a',B2,.func (.func g2) #[] l,M (m:=0) (n:= -1) (.inl N) (by unfold FI;rw[I_ N]),zO,zO,λk b=>F k (q k b),A.trans C,h.rebase,E.frame h.old λk b=>b⟩,zO⟩};{have d1:(((bt t j:Nat):Int)==42)=zU:=FV N;(conv=>whnf);rw[d1];by_cases Q:bt t j=43;{have d2:(((bt t j:Nat):Int)==43)=zW:=by{rw[Q];rfl};(conv=>whnf);rw[d2];refine CV.of (Ap.heldZ (H_ G2) [4] (sq [0,1] (.f 2 (.f 3 (.f 4 .e)))) rfl zX (L_ (cs:=Ad a' (.func (.func u) #[] w)) Bg (A0 (g.blk _ (Ft _ _))) ((g.in_ _ (Ft _ _) (k:=J) rfl).2) (L_ (cs:=Ad a' (.func (.func u) #[] w)) Bg (A0 (g.blk _ (Ft _ _))) ((g.in_ _ (Ft _ _) (k:=J) rfl).2) (Ae.mk (PF g (P.frame g.old λk b=>b)) ?_))));rintro _ G6 ⟨B6,f6,rfl,s6,a6,ak,am⟩;refine⟨a6,?_⟩;refine Ae.mk (GM .cat ak ((P.frame g.old λk b=>b).frame (a6.mono λk b=>g.up b) s6) am) ?_;rintro _ G3 ⟨B7,f7,rfl,s7,a7,y,E⟩;have a5:=a6.trans (a7.mono λk b=>Af a6 b);refine⟨a5,?_⟩;have A:C_ B H G3:=(S.trans λk b=>g.old k (q k b)).trans (a5.mono λk b=>g.up (q k b));obtain⟨B2,a8⟩:∃B2,B2=B7:=⟨_,rfl⟩;rw[<-a8]at y E;have F:∀k,B1 k->B2 k:=λk b=>by{rw[a8];exact s7 k (s6 k b)};obtain⟨g2,l,rfl⟩:=E.fn;refine BC (cs:=Ad (opR .cat a' (.star a')) (.func (.func g2) #[] l)) y _ rfl (Ft _ _) (by simp[Ad]) rfl λG4 d ja js=>?_;rw[TE]at d;have V:Ak (Ad a' (.func (.func u) #[] w)) 0 (Ad (opR .cat a' (.star a')) (.func (.func g2) #[] l))=Ad (opR .cat a' (.star a')) (.func (.func g2) #[] l):=CT rfl;replace d:B_ B2 G3 G4 (ps.set k (pSc s t j I)++[pB 142 J (Ak (Ad a' (.func (.func u) #[] w)) 0 (Ad (opR .cat a' (.star a')) (.func (.func g2) #[] l))),pB 142 R Ar]):=d;rw[V]at d;refine F_ AV ?_;refine D_ (v:=A_ j) E_ (by rw[(d.blk k (HR D)).cell];rfl) zA ?_;(conv=>whnf);rw[U_ (x:=(j:Int)+1) zO];refine F_ AV (AZ d k E_ (HR D) zZ rfl λG5 h=>?_);rw[Sp D]at h;have C:C_ B G3 G5:=λk b=>h.old k (F k (q k b));exact⟨rfl,j+1,rfl,⟨opR .cat a' (.star a'),B2,.func (.func g2) #[] l,M (m:=1) (n:= -1) (.inr (.inl Q)) (by unfold FI;rw[G_ N,I_ Q]),zO,zO,λk b=>F k (q k b),A.trans C,h.rebase,E.frame h.old λk b=>b⟩,zO⟩};{have d2:(((bt t j:Nat):Int)==43)=zU:=FV Q;(conv=>whnf);rw[d2];by_cases W:bt t j=63;{have d3:(((bt t j:Nat):Int)==63)=zW:=by{rw[W];rfl};(conv=>whnf);rw[d3];refine L_ (cs:=Ad a' (.func (.func u) #[] w)) Bg (A0 (g.blk _ (Ft _ _))) zA (Ao.of (Ae.mk (Oh g (P.frame g.old λk b=>b)) ?_));rintro _ G3 ⟨B2,f2,rfl,F,U,y,E⟩;have A:C_ B H G3:=(S.trans λk b=>g.old k (q k b)).trans (U.mono λk b=>g.up (q k b));obtain⟨g2,l,rfl⟩:=E.fn;refine BC (cs:=Ad (B8 a') (.func (.func g2) #[] l)) y _ rfl (Ft _ _) (by simp[Ad]) rfl λG4 d ja js=>?_;rw[TE]at d;have V:Ak (Ad a' (.func (.func u) #[] w)) 0 (Ad (B8 a') (.func (.func g2) #[] l))=Ad (B8 a') (.func (.func g2) #[] l):=CT rfl;replace d:B_ B2 G3 G4 (ps.set k (pSc s t j I)++[pB 142 J (Ak (Ad a' (.func (.func u) #[] w)) 0 (Ad (B8 a') (.func (.func g2) #[] l))),pB 142 R Ar]):=d;rw[V]at d;refine F_ AV ?_;refine D_ (v:=A_ j) E_ (by rw[(d.blk k (HR D)).cell];rfl) zA ?_;(conv=>whnf);rw[U_ (x:=(j:Int)+1) zO];refine F_ AV (AZ d k E_ (HR D) zZ rfl λG5 h=>?_);rw[Sp D]at h;have C:C_ B G3 G5:=λk b=>h.old k (F k (q k b));exact⟨rfl,j+1,rfl,⟨B8 a',B2,.func (.func g2) #[] l,M (m:=0) (n:=1) (.inr (.inr (.inl W))) (by unfold FI;rw[G_ N,G_ Q,I_ W]),zO,zO,λk b=>F k (q k b),A.trans C,h.rebase,E.frame h.old λk b=>b⟩,zO⟩};{have d3:(((bt t j:Nat):Int)==63)=zU:=FV W;(conv=>whnf);rw[d3];by_cases X:bt t j=123;{have d4:(((bt t j:Nat):Int)==123)=zW:=by{rw[X];rfl};(conv=>whnf);rw[d4];refine L_ (cs:=Ad a' (.func (.func u) #[] w)) Bg (A0 (g.blk _ (Ft _ _))) zA (Ao.mk (YI ht X g.rebase T (P.frame g.old λk b=>b)) ?_ ?_);{rintro _ G3 ⟨m,n,j2,O,⟨B2,f2,rfl,F,U,y,E⟩⟩;have ap:=Lh O;rw[Sp D]at y;obtain⟨g2,l,rfl⟩:=E.fn;refine BC (cs:=Ad (C3 a' m n) (.func (.func g2) #[] l)) y _ rfl (Ft _ _) (by simp[Ad]) rfl λG4 d ja js=>?_;rw[TE]at d;have V:Ak (Ad a' (.func (.func u) #[] w)) 0 (Ad (C3 a' m n) (.func (.func g2) #[] l))=Ad (C3 a' m n) (.func (.func g2) #[] l):=CT rfl;replace d:B_ B2 G3 G4 (ps.set k (pSc s t j2 I)++[pB 142 J (Ak (Ad a' (.func (.func u) #[] w)) 0 (Ad (C3 a' m n) (.func (.func g2) #[] l))),pB 142 R Ar]):=d;rw[V]at d;(conv=>whnf);have A:C_ B H G3:=(S.trans λk b=>g.old k (q k b)).trans (U.mono λk b=>q k b);have C:C_ B G3 G4:=λk b=>d.old k (F k (q k b));exact⟨rfl,j2,rfl,⟨C3 a' m n,B2,.func (.func g2) #[] l,M (m:=m) (n:=n) (.inr (.inr (.inr X))) (by unfold FI;rw[G_ N,G_ Q,G_ W];exact O),zO,zO,λk b=>F k (q k b),A.trans C,d.rebase,E.frame d.old λk b=>b⟩,zO⟩};{rintro _ G3 ⟨c,p,O,rfl,U⟩;refine⟨c,p,?_,rfl,(S.trans λk b=>g.old k (q k b)).trans (U.mono λk b=>q k b)⟩;rw[K];exact F7 (s:=⟨j,{f with factor:=zY a'},fs⟩) h0 (Nw rfl (TX (.inr (.inr (.inr X)))) (by unfold FI;rw[G_ N,G_ Q,G_ W];exact O))}};{have d4:(((bt t j:Nat):Int)==123)=zU:=FV X;(conv=>whnf);rw[d4];refine L_ (cs:=Ad a' (.func (.func u) #[] w)) Bg (A0 (g.blk _ (Ft _ _))) zA (BC (cs:=Ad a' (.func (.func u) #[] w)) g _ rfl (S_ _ _ 1) (by simp[Ad,Ar]) rfl λG9 o ja js=>?_);rw[N',CT rfl]at o;refine lN (cs:=Ad a' (.func (.func u) #[] w)) Bg (A0 (o.blk _ (S_ _ _ 1))) ?_;exact⟨j,a',a2,hj,Mk N Q W X,K,B1,_,rfl,q,S.trans λk b=>o.old k (q k b),o.lft.rebase,P.frame o.old λk b=>b⟩}}}}};{rw[m_ (zO:t.size<=j)];refine L_ (cs:=Ad a' (.func (.func u) #[] w)) Bg (A0 (L.blk _ (Ft _ _))) zA (BC (cs:=Ad a' (.func (.func u) #[] w)) L _ rfl (S_ _ _ 1) (by simp[Ad,Ar]) rfl λG9 o ja js=>?_);rw[N',CT rfl]at o;refine lN (cs:=Ad a' (.func (.func u) #[] w)) Bg (A0 (o.blk _ (S_ _ _ 1))) ?_;exact⟨j,a',a2,hj,by rw[CX h0];rfl,K,B1,_,rfl,q,S.trans λk b=>o.old k (q k b),o.lft.rebase,P.frame o.old λk b=>b⟩}}
def uR{a:IntKind}(c:i<t.size)(k:K (.int .u8 (bt t i:Int))):AO prog (Instr.index 9 (.string t) (.int a (i:Int))) S H K:=by have⟨b,d,e,f⟩:=DQ c;refine ED GU rfl d ?_;rw[<-e];exact k
def XQ(c:Nat)(H:Aa):BZ prog 76 #[.int .u8 (c:Int)] H (.bool (GT c)):=by refine Aj.of_vc func76 rfl (call76 _) ?_;(conv=>whnf);by_cases b:c=42;{have d:((c:Int)==42)=zW:=by{rw[b];rfl};(conv=>whnf);rw[d];(conv=>whnf);refine⟨?_,C_.refl _ _⟩;rw[b];rfl};{have d:((c:Int)==42)=zU:=FV b;(conv=>whnf);rw[d];clear d;by_cases e:c=43;{have d:((c:Int)==43)=zW:=by{rw[e];rfl};(conv=>whnf);rw[d];(conv=>whnf);refine⟨?_,C_.refl _ _⟩;rw[e];rfl};{have d:((c:Int)==43)=zU:=FV e;(conv=>whnf);rw[d];clear d;by_cases f:c=63;{have d:((c:Int)==63)=zW:=by{rw[f];rfl};(conv=>whnf);rw[d];(conv=>whnf);refine⟨?_,C_.refl _ _⟩;rw[f];rfl};{have d:((c:Int)==63)=zU:=FV f;(conv=>whnf);rw[d];clear d;by_cases a:c=123;{have d:((c:Int)==123)=zW:=by{rw[a];rfl};(conv=>whnf);rw[d];(conv=>whnf);refine⟨?_,C_.refl _ _⟩;rw[a];rfl};{have d:((c:Int)==123)=zU:=FV a;(conv=>whnf);rw[d];clear d;(conv=>whnf);refine⟨?_,C_.refl _ _⟩;rw[Mk b e f a]}}}}
def NO(H:Aa):BZ prog 132 #[.string t,A_ i] H (.bool (EG t i)):=by refine Aj.of_vc func132 rfl (call132 _) ?_;by_cases a:i<t.size;{have b:zT ((i:Int)<(t.size:Int))=zW:=l_;(conv=>whnf);rw[b];refine uR a ?_;by_cases d:48<=bt t i;{have c:zT (48<=((bt t i:Nat):Int))=zW:=l_;(conv=>whnf);rw[c];refine uR a ?_;(conv=>whnf);refine⟨?_,C_.refl _ _⟩;congr 1;unfold EG;rw[decide_eq_decide];omega};{have c:zT (48<=((bt t i:Nat):Int))=zU:=Z_;(conv=>whnf);rw[c];(conv=>whnf);refine⟨?_,C_.refl _ _⟩;congr 1;exact(j_ λh=>d h.1).symm}};{have b:zT ((i:Int)<(t.size:Int))=zU:=Z_;(conv=>whnf);rw[b];(conv=>whnf);refine⟨?_,C_.refl _ _⟩;congr 1;exact(j_ λh=>by have:=CX a;omega).symm}
def frZ:List v_:=[A_ 0,A_ 0,A_ 0,.int .u8 0,A_ 0,A_ 0]
def qO:(prog.info? 150).bind (·.zero)=zY (.agg frZ.toArray):=zX
def uN(p:Int):List v_:=[A_ p,A_ (-1),A_ (-1),.int .u8 0,A_ (-1),A_ (-1)]
def ZS(p:Int)(H:Aa):Aj prog 75 #[A_ p] H λv H'=>v= .agg (uN p).toArray/\C_ (H_ H) H H':=by refine Aj.of_vc func75 rfl (call75 _) (Ag (.agg frZ.toArray) frZ qO rfl ?_);intro q H1 f g b c;refine Az underlying150 rfl (.agg frZ.toArray) qO (uN p) rfl (wM (cs:=uN p) rfl b (N_ _) rfl ?_);intro H2 a d h;rw[AT (show(uN p).length=frZ.length from rfl)]at a;refine L_ (cs:=uN p) Ai8 (a.cells λj v i=>by rw[K_];exact i) zA ?_;exact⟨rfl,(c.mono λk e=>by have:k<H.size:=e;have:q=H.size:=f;omega).trans (d.mono λk e=>by have:k<H.size:=e;have:q=H.size:=f;omega)⟩
def wR(t:ByteArray)(i:Nat)(v:v_):Prop:=match C0 t i with
 | .inl (c,p)=>v= .tuple #[A_ 0,A_ 0,A_ 0,A_ c,A_ p]
 | .inr (m,n,j)=>v= .tuple #[A_ m,A_ n,A_ j,A_ 0,A_ 0]
abbrev sZ(q:Nat)(x y:Int):Pc:=pB 129 q [A_ x,A_ y]
def mT:(prog.info? 129).bind (·.zero)=zY (.agg #[A_ 0,A_ 0]):=zX
def WL{w:Nat}(h:EG t e=zU):∀k,Cm t k e w=(w,e)
 | 0=>rfl
 | k+1=>by unfold Cm;rw[h];rfl
structure BrI(t:ByteArray)(i k e:Nat)(x0 x1:Int):Prop where
 le:e<=t.size
 z:k=0->e=i+1/\x0=0/\x1=0
 one:k=1->EG t (i+1)=zW/\x0=((Cm t 3 (i+1) 0).1:Int)/\x1=0/\e=(Cm t 3 (i+1) 0).2+1/\bt t (Cm t 3 (i+1) 0).2=44/\bt t e≠125
 two:k=2->EG t (i+1)=zW/\x0=((Cm t 3 (i+1) 0).1:Int)/\x1= -1/\upM t (Cm t 3 (i+1) 0).1 (Cm t 3 (i+1) 0).2= .inr (-1,e)
 le2:k<=2
def AiJ(a:EG t (i+1)=zW)(b:upM t (Cm t 3 (i+1) 0).1 (Cm t 3 (i+1) 0).2= .inr (n,e)):C0 t i=GK t i (Cm t 3 (i+1) 0).1 n e:=by unfold C0;rw[I_ a,b]
def AiK(a:EG t (i+1)=zU):C0 t i= .inl (20,i+1):=by unfold C0;rw[a];rfl
def Xx(ht:t.size<=1048576)(hi:i<t.size):
  Aj prog 77 #[.string t,A_ i] H λv H'=>C_ (H_ H) H H'/\wR t i v:=by refine Aj.of_vcL func77 rfl (call77 _) ?_;(conv=>whnf);rw[Q_ i zO];refine Ag (.agg #[A_ 0,A_ 0]) [A_ 0,A_ 0] mT rfl ?_;intro q H1 a1 a2 a3 a4;have J_:=(St.nil H).box a1 a2 a3 a4;(conv=>whnf);refine Au.cut [11,9] (λx:Nat×Nat×Int×Int=>match x with | (k,e,_,_)=>[A_ k,A_ e]) (λx G=>match x with | (k,e,g,w)=>((k=1\/k=2)/\e<=t.size/\EG t (i+1)=zW/\g=((Cm t 3 (i+1) 0).1:Int)/\(∃n:Int,upM t (Cm t 3 (i+1) 0).1 (Cm t 3 (i+1) 0).2= .inr (n,e)/\ -1<=n/\n<1000/\(k=1->n=g)/\(k=2->n=w)))/\St H G [sZ q g w]) ?_ ?_;{(conv=>whnf);refine Ay.mk [11,9] (λx:Nat×Nat×Int×Int=>match x with | (k,e,_,_)=>[A_ k,A_ e]) (λx G=>match x with | (k,e,g,w)=>BrI t i k e g w/\St H G [sZ q g w]) (λx _=>match x with | (k,_,_,_)=>2-k) ?_ ?_;{(conv=>whnf);exact⟨(0,i+1,0,0),rfl,⟨hi,λ_=>⟨rfl,rfl,rfl⟩,λh=>absurd h zQ,λh=>absurd h zQ,zO⟩,J_⟩};{rintro⟨k,e,g,w⟩ G a0 ⟨P,d⟩;have Q:=P.le;refine AD.m2 (λhz=>?_) (λhz=>?_);{have ab:k<2:=zO;rcases(zO:k=0\/k=1)with rfl | rfl;{(conv=>whnf);(try refine Au.run ?_);obtain⟨rfl,rfl,rfl⟩:=P.z rfl;refine Al (NO (i:=(i+1)) G) λG1 R=>?_;have J:=d.call R;cases O:EG t (i+1)with|false=>(conv=>whnf);refine⟨J.old,?_⟩;unfold wR;rw[AiK O];rfl|true=>{(conv=>whnf);have s:=O;(conv=>whnf);refine Ay.mk [12,9] (λx:Nat×Nat=>match x with | (a,_)=>[A_ a,A_ (((i+1)+a:Nat):Int)]) (λx G=>match x with | (a,v)=>a<=3/\v<10^a/\(i+1)+a<=t.size/\Cm t 3 (i+1) 0=Cm t (3-a) ((i+1)+a) v/\St H G [sZ q (v:Int) 0]) (λx _=>match x with | (a,_)=>3-a) ?_ ?_;{(conv=>whnf);exact⟨(0,0),rfl,zO,zQ,Q,rfl,J⟩};{rintro⟨a,v⟩ G2 S ⟨T,hv,B,K,j⟩;have a5:v<1000:=vN hv (uI zO T);have y:(a=3\/EG t ((i+1)+a)=zU)->Cm t 3 (i+1) 0=(v,(i+1)+a):=λh=>by{rw[K];rcases h with rfl | h;{rfl};{exact WL h _}};clear P;by_cases a6:a<3;{have C:zT ((a:Int)<3)=zW:=l_;(conv=>whnf);rw[C];refine Al (NO (i:=(i+1)+a) G2) λG3 U=>?_;replace j:=j.call U;cases u:EG t ((i+1)+a)with|true=>have V:(i+1)+a<t.size:=by{unfold EG at u;have:=of_decide_eq_true u;exact Ei zO};have a7:48<=bt t ((i+1)+a)/\bt t ((i+1)+a)<=57:=by{unfold EG at u;exact of_decide_eq_true u};(conv=>whnf);(try refine Au.run ?_);refine Ap.heldZ (λk=>k=q) [12] (sq [0,1,2,3,4,5,6,7,8,9,10,11] (.f 12 .e)) rfl zX (s_ CW zQ zQ ?_);refine D_ (v:=A_ v) E_ ((j.blk 0 rfl).ce rfl) rfl ?_;(conv=>whnf);rw[U_ (x:=10*(v:Int)) zO];refine uR V ?_;(conv=>whnf);rw[w8 (x:=((bt t ((i+1)+a):Nat):Int)-48) zO zO];(conv=>whnf);rw[yE (x:=((bt t ((i+1)+a):Nat):Int)-48) zO zO];(conv=>whnf);rw[yE (x:=10*(v:Int)+(((bt t ((i+1)+a):Nat):Int)-48)) zO zO];refine s_ CW zQ zQ ?_;refine AZ j 0 E_ rfl (by show _<(2:Nat);decide) rfl λG5 L=>?_;(conv=>whnf);rw[yE (x:=(((i+1)+a:Nat):Int)+1) zO zO];(conv=>whnf);rw[Q_ a zO];have ev:10*(v:Int)+(((bt t ((i+1)+a):Nat):Int)-48)=((10*v+(bt t ((i+1)+a)-48):Nat):Int):=zO;rw[ev]at L;refine⟨rfl,(a+1,10*v+(bt t ((i+1)+a)-48)),rfl,⟨zO,by rw[sN];omega,zO,?_,L⟩,by show 3-(a+1)<3-a;omega⟩;rw[K,(zO:3-a=(3-(a+1))+1),Cm,u];rfl|false=>{(conv=>whnf);(try refine Au.run ?_);(conv=>whnf);have D:Cm t 3 (i+1) 0=(v,(i+1)+a):=y (.inr u);have c:Cm t 3 (i+1) 0=(v,(i+1)+a):=D;by_cases h0:(i+1)+a<t.size;{have E:zT ((t.size:Int)<=(((i+1)+a:Nat):Int))=zU:=Z_;(conv=>whnf);rw[E];refine uR h0 ?_;by_cases p:bt t ((i+1)+a)=44;{have F:(((bt t ((i+1)+a):Nat):Int) != 44)=zU:=by{rw[p];rfl};(conv=>whnf);rw[F];(conv=>whnf);rw[yE (x:=(((i+1)+a:Nat):Int)+1) zO zO];(conv=>whnf);(try refine Au.run ?_);(conv=>whnf);by_cases W:(i+1)+a+1<t.size;{have X:zT ((((i+1)+a:Nat):Int)+1<(t.size:Int))=zW:=l_;(conv=>whnf);rw[X];refine uR (i:=(i+1)+a+1) W ?_;by_cases b:bt t ((i+1)+a+1)=125;{have Y:(((bt t ((i+1)+a+1):Nat):Int)==125)=zW:=by{rw[b];rfl};(conv=>whnf);rw[Y];refine s_ CW zQ zQ ?_;refine AZ j 0 E_ rfl (by show _<(2:Nat);decide) rfl λG7 I=>?_;replace I:St H G7 [sZ q (v:Int) (-1)]:=I;(conv=>whnf);exact⟨rfl,(2,(i+1)+a+1,(v:Int),-1),rfl,⟨⟨zO,λh=>absurd h zQ,λh=>absurd h zQ,λ_=>⟨s,by rw[c],rfl,by rw[c];unfold upM;rw[I_ p,I_ b]⟩,zO⟩,I⟩,by show 2-2<2-0;omega⟩};{have Y:(((bt t ((i+1)+a+1):Nat):Int)==125)=zU:=FV b;(conv=>whnf);rw[Y];(conv=>whnf);exact⟨rfl,(1,(i+1)+a+1,(v:Int),0),rfl,⟨⟨zO,λh=>absurd h zQ,λ_=>⟨s,by rw[c],rfl,by rw[c],by rw[c];exact p,b⟩,λh=>absurd h zQ,zO⟩,j⟩,by show 2-1<2-0;omega⟩}};{have X:zT ((((i+1)+a:Nat):Int)+1<(t.size:Int))=zU:=Z_;(conv=>whnf);rw[X];(conv=>whnf);exact⟨rfl,(1,(i+1)+a+1,(v:Int),0),rfl,⟨⟨zO,λh=>absurd h zQ,λ_=>⟨s,by rw[c],rfl,by rw[c],by rw[c];exact p,by rw[CX W];decide⟩,λh=>absurd h zQ,zO⟩,j⟩,by show 2-1<2-0;omega⟩}};{have F:(((bt t ((i+1)+a):Nat):Int) != 44)=zW:=bne_iff_ne.2 zO;(conv=>whnf);rw[F];(conv=>whnf);exact⟨rfl,(1,(i+1)+a,(v:Int),0),rfl,⟨⟨.inl rfl,B,(by first | exact s | rfl),by rw[c],(v:Int),by rw[c];unfold upM;rw[G_ p],zO,zO,λ_=>rfl,λh=>absurd h zQ⟩,j⟩⟩}};{have E:zT ((t.size:Int)<=(((i+1)+a:Nat):Int))=zW:=l_;(conv=>whnf);rw[E];(conv=>whnf);exact⟨rfl,(1,(i+1)+a,(v:Int),0),rfl,⟨⟨.inl rfl,B,(by first | exact s | rfl),by rw[c],(v:Int),by rw[c];unfold upM;rw[G_ (by rw[CX h0];omega)],zO,zO,λ_=>rfl,λh=>absurd h zQ⟩,j⟩⟩}}};{have C:zT ((a:Int)<3)=zU:=Z_;(conv=>whnf);rw[C];(conv=>whnf);(try refine Au.run ?_);(conv=>whnf);have D:Cm t 3 (i+1) 0=(v,(i+1)+a):=y (.inl zO);have c:Cm t 3 (i+1) 0=(v,(i+1)+a):=D;by_cases h0:(i+1)+a<t.size;{have E:zT ((t.size:Int)<=(((i+1)+a:Nat):Int))=zU:=Z_;(conv=>whnf);rw[E];refine uR h0 ?_;by_cases p:bt t ((i+1)+a)=44;{have F:(((bt t ((i+1)+a):Nat):Int) != 44)=zU:=by{rw[p];rfl};(conv=>whnf);rw[F];(conv=>whnf);rw[yE (x:=(((i+1)+a:Nat):Int)+1) zO zO];(conv=>whnf);(try refine Au.run ?_);(conv=>whnf);by_cases W:(i+1)+a+1<t.size;{have X:zT ((((i+1)+a:Nat):Int)+1<(t.size:Int))=zW:=l_;(conv=>whnf);rw[X];refine uR (i:=(i+1)+a+1) W ?_;by_cases b:bt t ((i+1)+a+1)=125;{have Y:(((bt t ((i+1)+a+1):Nat):Int)==125)=zW:=by{rw[b];rfl};(conv=>whnf);rw[Y];refine s_ CW zQ zQ ?_;refine AZ j 0 E_ rfl (by show _<(2:Nat);decide) rfl λG7 I=>?_;replace I:St H G7 [sZ q (v:Int) (-1)]:=I;(conv=>whnf);exact⟨rfl,(2,(i+1)+a+1,(v:Int),-1),rfl,⟨⟨zO,λh=>absurd h zQ,λh=>absurd h zQ,λ_=>⟨s,by rw[c],rfl,by rw[c];unfold upM;rw[I_ p,I_ b]⟩,zO⟩,I⟩,by show 2-2<2-0;omega⟩};{have Y:(((bt t ((i+1)+a+1):Nat):Int)==125)=zU:=FV b;(conv=>whnf);rw[Y];(conv=>whnf);exact⟨rfl,(1,(i+1)+a+1,(v:Int),0),rfl,⟨⟨zO,λh=>absurd h zQ,λ_=>⟨s,by rw[c],rfl,by rw[c],by rw[c];exact p,b⟩,λh=>absurd h zQ,zO⟩,j⟩,by show 2-1<2-0;omega⟩}};{have X:zT ((((i+1)+a:Nat):Int)+1<(t.size:Int))=zU:=Z_;(conv=>whnf);rw[X];(conv=>whnf);exact⟨rfl,(1,(i+1)+a+1,(v:Int),0),rfl,⟨⟨zO,λh=>absurd h zQ,λ_=>⟨s,by rw[c],rfl,by rw[c],by rw[c];exact p,by rw[CX W];decide⟩,λh=>absurd h zQ,zO⟩,j⟩,by show 2-1<2-0;omega⟩}};{have F:(((bt t ((i+1)+a):Nat):Int) != 44)=zW:=bne_iff_ne.2 zO;(conv=>whnf);rw[F];(conv=>whnf);exact⟨rfl,(1,(i+1)+a,(v:Int),0),rfl,⟨⟨.inl rfl,B,(by first | exact s | rfl),by rw[c],(v:Int),by rw[c];unfold upM;rw[G_ p],zO,zO,λ_=>rfl,λh=>absurd h zQ⟩,j⟩⟩}};{have E:zT ((t.size:Int)<=(((i+1)+a:Nat):Int))=zW:=l_;(conv=>whnf);rw[E];(conv=>whnf);exact⟨rfl,(1,(i+1)+a,(v:Int),0),rfl,⟨⟨.inl rfl,B,(by first | exact s | rfl),by rw[c],(v:Int),by rw[c];unfold upM;rw[G_ (by rw[CX h0];omega)],zO,zO,λ_=>rfl,λh=>absurd h zQ⟩,j⟩⟩}}}}};{(conv=>whnf);(try refine Au.run ?_);obtain⟨s,A,rfl,Z,p,b⟩:=P.one rfl;refine Al (NO (i:=e) G) λG1 R=>?_;have J:=d.call R;cases O:EG t e with|false=>(conv=>whnf);refine⟨J.old,?_⟩;unfold wR;have hu:upM t (Cm t 3 (i+1) 0).1 (Cm t 3 (i+1) 0).2= .inl (20,e):=by{unfold upM;rw[I_ p,<-Z,G_ b,O]<;>rfl};have hb:C0 t i= .inl (20,e):=by{unfold C0;rw[I_ s,hu]};rw[hb];rfl|true=>{(conv=>whnf);(conv=>whnf);refine Ay.mk [12,9] (λx:Nat×Nat=>match x with | (a,_)=>[A_ a,A_ ((e+a:Nat):Int)]) (λx G=>match x with | (a,v)=>a<=3/\v<10^a/\e+a<=t.size/\Cm t 3 e 0=Cm t (3-a) (e+a) v/\St H G [sZ q g (v:Int)]) (λx _=>match x with | (a,_)=>3-a) ?_ ?_;{(conv=>whnf);exact⟨(0,0),rfl,zO,zQ,Q,rfl,J⟩};{rintro⟨a,v⟩ G2 S ⟨T,hv,B,K,j⟩;have a5:v<1000:=vN hv (uI zO T);have y:(a=3\/EG t (e+a)=zU)->Cm t 3 e 0=(v,e+a):=λh=>by{rw[K];rcases h with rfl | h;{rfl};{exact WL h _}};clear P;by_cases a6:a<3;{have C:zT ((a:Int)<3)=zW:=l_;(conv=>whnf);rw[C];refine Al (NO (i:=e+a) G2) λG3 U=>?_;replace j:=j.call U;cases u:EG t (e+a)with|true=>have V:e+a<t.size:=by{unfold EG at u;have:=of_decide_eq_true u;exact Ei zO};have a7:48<=bt t (e+a)/\bt t (e+a)<=57:=by{unfold EG at u;exact of_decide_eq_true u};(conv=>whnf);(try refine Au.run ?_);refine Ap.heldZ (λk=>k=q) [12] (sq [0,1,2,3,4,5,6,7,8,9,10,11] (.f 12 .e)) rfl zX (s_ CW zQ zQ ?_);refine D_ (v:=A_ v) E_ ((j.blk 0 rfl).ce rfl) rfl ?_;(conv=>whnf);rw[U_ (x:=10*(v:Int)) zO];refine uR V ?_;(conv=>whnf);rw[w8 (x:=((bt t (e+a):Nat):Int)-48) zO zO];(conv=>whnf);rw[yE (x:=((bt t (e+a):Nat):Int)-48) zO zO];(conv=>whnf);rw[yE (x:=10*(v:Int)+(((bt t (e+a):Nat):Int)-48)) zO zO];refine s_ CW zQ zQ ?_;refine AZ j 0 E_ rfl (by show _<(2:Nat);decide) rfl λG5 L=>?_;(conv=>whnf);rw[U_ (x:=((e+a:Nat):Int)+1) zO];(conv=>whnf);rw[Q_ a zO];have ev:10*(v:Int)+(((bt t (e+a):Nat):Int)-48)=((10*v+(bt t (e+a)-48):Nat):Int):=zO;rw[ev]at L;refine⟨rfl,(a+1,10*v+(bt t (e+a)-48)),rfl,⟨zO,by rw[sN];omega,zO,?_,L⟩,by show 3-(a+1)<3-a;omega⟩;rw[K,(zO:3-a=(3-(a+1))+1),Cm,u];rfl|false=>(conv=>whnf);(try refine Au.run ?_);(conv=>whnf);have D:Cm t 3 e 0=(v,e+a):=y (.inr u);exact⟨rfl,(2,e+a,g,(v:Int)),rfl,⟨⟨.inr rfl,B,s,A,(v:Int),by unfold upM;rw[I_ p,<-Z,G_ b,O];show(if zW=zW then _ else _)=_;rw[I_ rfl,D],zO,zO,λh=>absurd h zQ,λ_=>rfl⟩,j⟩⟩};{have C:zT ((a:Int)<3)=zU:=Z_;(conv=>whnf);rw[C];(conv=>whnf);(try refine Au.run ?_);(conv=>whnf);have D:Cm t 3 e 0=(v,e+a):=y (.inl zO);exact⟨rfl,(2,e+a,g,(v:Int)),rfl,⟨⟨.inr rfl,B,s,A,(v:Int),by unfold upM;rw[I_ p,<-Z,G_ b,O];show(if zW=zW then _ else _)=_;rw[I_ rfl,D],zO,zO,λh=>absurd h zQ,λ_=>rfl⟩,j⟩⟩}}}}};{have hk:k=2:=by{have:=P.le2;omega};subst hk;have⟨W,h2,h3,h4⟩:=P.two rfl;(conv=>whnf);exact⟨rfl,(2,e,g,w),rfl,⟨⟨.inr rfl,Q,W,h2,-1,h4,zO,zO,λh=>absurd h zQ,λ_=>h3.symm⟩,d⟩⟩}}};{rintro⟨k,e,g,w⟩ G a0 ⟨⟨hk,he,O,A,n,hu,ae,ag,a8,a9⟩,d⟩;have r:=AiJ O hu;obtain⟨m,hm⟩:∃m,m=(Cm t 3 (i+1) 0).1:=⟨_,rfl⟩;rw[<-hm]at r A;clear hu hm J_;rcases hk with rfl | rfl;{have M:=a8 rfl;refine Au.run (s_ CW zQ zQ ?_);refine lT (v:=A_ (g)) E_ ((d.blk 0 rfl).ce rfl) ?_;refine s_ CW zQ zQ ?_;refine AZ d 0 E_ rfl (by show _<(2:Nat);decide) rfl λG2 o=>?_;replace o:St H G2 [sZ q g g]:=o;(conv=>whnf);(try refine Au.run ?_);(conv=>whnf);by_cases N:e<t.size;{have d1:zT ((t.size:Int)<=(e:Int))=zU:=Z_;(conv=>whnf);rw[d1];refine uR N ?_;by_cases b:bt t e=125;{have C:(((bt t e:Nat):Int) != 125)=zU:=by{rw[b];rfl};have l:GK t i m n e=(if 255<m\/255<n\/(0<=n/\n<(m:Int))then .inl (22,i)else .inr (m,n,e+1)):=by{unfold GK;rw[I_ b]};(conv=>whnf);rw[C];refine s_ CW zQ zQ ?_;refine lT (v:=A_ (g)) E_ ((o.blk 0 rfl).ce rfl) ?_;by_cases c1:255<g;{have d3:zT (255<g)=zW:=m_ c1;(conv=>whnf);rw[d3];(conv=>whnf);refine⟨o.old,?_⟩;unfold wR;rw[r,l,I_ (.inl zO)]<;>rfl};{have d3:zT (255<g)=zU:=j_ c1;(conv=>whnf);rw[d3];refine s_ CW zQ zQ ?_;refine lT (v:=A_ (g)) E_ ((o.blk 0 rfl).ce rfl) ?_;by_cases c2:255<n;{have d4:zT (255<g)=zW:=l_;(conv=>whnf);rw[d4];(conv=>whnf);refine⟨o.old,?_⟩;unfold wR;rw[r,l,I_ (.inr (.inl c2))]<;>rfl};{have d4:zT (255<g)=zU:=Z_;(conv=>whnf);rw[d4];refine s_ CW zQ zQ ?_;refine lT (v:=A_ (g)) E_ ((o.blk 0 rfl).ce rfl) ?_;by_cases c3:0<=n;{have E:zT (0<=g)=zW:=l_;(conv=>whnf);rw[E];refine s_ CW zQ zQ ?_;refine lT (v:=A_ (g)) E_ ((o.blk 0 rfl).ce rfl) ?_;refine s_ CW zQ zQ ?_;refine lT (v:=A_ (g)) E_ ((o.blk 0 rfl).ce rfl) ?_;by_cases c4:n<(m:Int);{have F:zT (g<g)=zW:=l_;(conv=>whnf);rw[F];(conv=>whnf);refine⟨o.old,?_⟩;unfold wR;rw[r,l,I_ (.inr (.inr ⟨c3,c4⟩))]<;>rfl};{have F:zT (g<g)=zU:=Z_;(conv=>whnf);rw[F];refine Ap.lex rfl zX (s_ CW zQ zQ ?_);refine lT (v:=A_ (g)) E_ ((o.blk 0 rfl).ce rfl) ?_;refine s_ CW zQ zQ ?_;refine lT (v:=A_ (g)) E_ ((o.blk 0 rfl).ce rfl) ?_;(conv=>whnf);rw[Q_ e zO];(conv=>whnf);refine⟨o.old,?_⟩;unfold wR;rw[r,l,G_ zO,M,A]<;>rfl}};{have E:zT (0<=g)=zU:=Z_;(conv=>whnf);rw[E];refine Ap.lex rfl zX (s_ CW zQ zQ ?_);refine lT (v:=A_ (g)) E_ ((o.blk 0 rfl).ce rfl) ?_;refine s_ CW zQ zQ ?_;refine lT (v:=A_ (g)) E_ ((o.blk 0 rfl).ce rfl) ?_;(conv=>whnf);rw[Q_ e zO];(conv=>whnf);refine⟨o.old,?_⟩;unfold wR;rw[r,l,G_ zO,M,A]<;>rfl}}}};{have C:(((bt t e:Nat):Int) != 125)=zW:=bne_iff_ne.2 zO;have l:GK t i m n e= .inl (20,e):=by{unfold GK;rw[G_ b]};(conv=>whnf);rw[C];(conv=>whnf);refine⟨o.old,?_⟩;unfold wR;rw[r,l];rfl}};{have d1:zT ((t.size:Int)<=(e:Int))=zW:=l_;have l:GK t i m n e= .inl (20,e):=by{unfold GK;rw[G_ (by rw[CX N];omega)]};(conv=>whnf);rw[d1];(conv=>whnf);refine⟨o.old,?_⟩;unfold wR;rw[r,l];rfl}};{have M:=a9 rfl;refine Au.run ?_;(conv=>whnf);(try refine Au.run ?_);(conv=>whnf);by_cases N:e<t.size;{have d1:zT ((t.size:Int)<=(e:Int))=zU:=Z_;(conv=>whnf);rw[d1];refine uR N ?_;by_cases b:bt t e=125;{have C:(((bt t e:Nat):Int) != 125)=zU:=by{rw[b];rfl};have l:GK t i m n e=(if 255<m\/255<n\/(0<=n/\n<(m:Int))then .inl (22,i)else .inr (m,n,e+1)):=by{unfold GK;rw[I_ b]};(conv=>whnf);rw[C];refine s_ CW zQ zQ ?_;refine lT (v:=A_ (g)) E_ ((d.blk 0 rfl).ce rfl) ?_;by_cases c1:255<g;{have d3:zT (255<g)=zW:=m_ c1;(conv=>whnf);rw[d3];(conv=>whnf);refine⟨d.old,?_⟩;unfold wR;rw[r,l,I_ (.inl zO)]<;>rfl};{have d3:zT (255<g)=zU:=j_ c1;(conv=>whnf);rw[d3];refine s_ CW zQ zQ ?_;refine lT (v:=A_ (w)) E_ ((d.blk 0 rfl).ce rfl) ?_;by_cases c2:255<n;{have d4:zT (255<w)=zW:=l_;(conv=>whnf);rw[d4];(conv=>whnf);refine⟨d.old,?_⟩;unfold wR;rw[r,l,I_ (.inr (.inl c2))]<;>rfl};{have d4:zT (255<w)=zU:=Z_;(conv=>whnf);rw[d4];refine s_ CW zQ zQ ?_;refine lT (v:=A_ (w)) E_ ((d.blk 0 rfl).ce rfl) ?_;by_cases c3:0<=n;{have E:zT (0<=w)=zW:=l_;(conv=>whnf);rw[E];refine s_ CW zQ zQ ?_;refine lT (v:=A_ (w)) E_ ((d.blk 0 rfl).ce rfl) ?_;refine s_ CW zQ zQ ?_;refine lT (v:=A_ (g)) E_ ((d.blk 0 rfl).ce rfl) ?_;by_cases c4:n<(m:Int);{have F:zT (w<g)=zW:=l_;(conv=>whnf);rw[F];(conv=>whnf);refine⟨d.old,?_⟩;unfold wR;rw[r,l,I_ (.inr (.inr ⟨c3,c4⟩))]<;>rfl};{have F:zT (w<g)=zU:=Z_;(conv=>whnf);rw[F];refine Ap.lex rfl zX (s_ CW zQ zQ ?_);refine lT (v:=A_ (g)) E_ ((d.blk 0 rfl).ce rfl) ?_;refine s_ CW zQ zQ ?_;refine lT (v:=A_ (w)) E_ ((d.blk 0 rfl).ce rfl) ?_;(conv=>whnf);rw[Q_ e zO];(conv=>whnf);refine⟨d.old,?_⟩;unfold wR;rw[r,l,G_ zO,M,A]<;>rfl}};{have E:zT (0<=w)=zU:=Z_;(conv=>whnf);rw[E];refine Ap.lex rfl zX (s_ CW zQ zQ ?_);refine lT (v:=A_ (g)) E_ ((d.blk 0 rfl).ce rfl) ?_;refine s_ CW zQ zQ ?_;refine lT (v:=A_ (w)) E_ ((d.blk 0 rfl).ce rfl) ?_;(conv=>whnf);rw[Q_ e zO];(conv=>whnf);refine⟨d.old,?_⟩;unfold wR;rw[r,l,G_ zO,M,A]<;>rfl}}}};{have C:(((bt t e:Nat):Int) != 125)=zW:=bne_iff_ne.2 zO;have l:GK t i m n e= .inl (20,e):=by{unfold GK;rw[G_ b]};(conv=>whnf);rw[C];(conv=>whnf);refine⟨d.old,?_⟩;unfold wR;rw[r,l];rfl}};{have d1:zT ((t.size:Int)<=(e:Int))=zW:=l_;have l:GK t i m n e= .inl (20,e):=by{unfold GK;rw[G_ (by rw[CX N];omega)]};(conv=>whnf);rw[d1];(conv=>whnf);refine⟨d.old,?_⟩;unfold wR;rw[r,l];rfl}}}
def Hh(c m:Nat)(n:Int):Nat:=
 if n<0 then(if m=0 then c+1 else m*c+m+c+1)else if n=0 then 1 else if m=0 then n.toNat*(c+2)+n.toNat-1 else m*c+m-1+(n.toNat-m)*(c+3)
def L4(a:ReM)(m:Nat):∀k,1<=k->((Cr a m k).getD .eps).nodes+1=min k m*(a.nodes+1)+(k-m)*(a.nodes+3)
 | 0,h=>absurd h (by decide)
 | 1,_=>by
   rw[Kk];by_cases b:0<m
   ·rw[I_ b,show min 1 m=1 by omega,show 1-m=0 by omega];simp
   ·rw[G_ b,show min 1 m=0 by omega,show 1-m=1 by omega];show 1+a.nodes+1+1=_;omega
 | k+2,_=>by
   have c:=L4 a m (k+1) zO;rw[DV a m (k+1) zO];show 1+_+(if k+1<m then a else B8 a).nodes+1=_;by_cases b:k+1<m
   ·rw[I_ b];rw[(zO:min (k+1) m=k+1),(zO:k+1-m=0)]at c;rw[(zO:min (k+2) m=k+1+1),(zO:k+2-m=0),Nat.add_mul (k+1) 1];omega
   ·rw[G_ b];rw[(zO:min (k+1) m=m)]at c;rw[(zO:min (k+2) m=m),(zO:k+2-m=(k+1-m)+1),Nat.add_mul (k+1-m) 1];show 1+_+(1+a.nodes+1)+1=_;omega
def V3(a:ReM)(m:Nat)(n:Int)(e:0<=n->(m:Int)<=n):(C3 a m n).nodes=Hh a.nodes m n:=by unfold C3 Hh;by_cases c:n<0;{rw[I_ c,I_ c];by_cases b:m=0;{rw[I_ b,I_ b];show 1+a.nodes=_;omega};{rw[G_ b,G_ b];have h:=L4 a m m zO;rw[Nat.min_self,Nat.sub_self,Nat.zero_mul,yT]at h;show 1+((Cr a m m).getD .eps).nodes+(1+a.nodes)=_;omega}};{rw[G_ c,G_ c];by_cases d:n=0;{rw[I_ d,I_ d]<;>rfl};{rw[G_ d,G_ d];obtain⟨k,rfl⟩:=xK (zO:0<=n);have f:m<=k:=by{have:=e zO;omega};have h:=L4 a m k zO;rw[zB];rw[(zO:min k m=m)]at h;by_cases b:m=0;{rw[I_ b];subst b;have g:k*(a.nodes+3)=k*(a.nodes+2)+k:=by{rw[(zO:a.nodes+3=a.nodes+2+1),yT (k) (a.nodes+2) 1,zG]};simp only[Nat.zero_mul,K_,Nat.sub_zero]at h;omega};{rw[G_ b];rw[yT,zG]at h;have:1<=m*a.nodes+m:=zO;omega}}}
def gP(c m:Nat)(n:Int)(d:0<=n->(m:Int)<=n):min (Hh (min c 2001) m n) 2001=min (Hh c m n) 2001:=by by_cases e:c<=2001;{rw[Nat.min_eq_left e]};{have f:Hh 2001 m n<=Hh c m n:=by{unfold Hh;split;{split;{omega};{have:=tP m (zO:2001<=c);omega}};{split;{omega};{split;{have:=tP n.toNat (zO:2001+2<=c+2);omega};{have f:=tP m (zO:2001<=c);have b:=tP (n.toNat-m) (zO:2001+3<=c+3);omega}}}};have b:n≠0->2001<=Hh 2001 m n:=by{intro a;unfold Hh;split;{split;{omega};{have:=vO 2001 (zO:1<=m);omega}};{have g:1<=n.toNat:=zO;split;{have:=vO (2001+2) g;omega};{have:=vO 2001 (zO:1<=m);have:=q_ ((n.toNat-m)*(2001+3));omega}}};rw[Nat.min_eq_right (zO:2001<=c)];by_cases a:n=0;{subst a;rfl};{have:=b a;omega}}
def bS(a:ReM)(m:Nat)(n:Int)(b:0<=n->(m:Int)<=n):W_ (C3 a m n)=min (Hh (W_ a) m n) 2001:=by unfold W_;rw[V3 a m n b,gP _ _ _ b]
def Ou(op:ROp)(a b:ReM):W_ (opR op a b)=min (1+W_ a+W_ b) 2001:=by unfold W_;rw[Q6];omega
def bX{m:Int}(s:c<=2001)(h:VR m n)(H:Aa):BZ prog 135 #[A_ c,A_ m,A_ n] H (.int .i64 ((Hh c (Bc m) n:Nat):Int)):=by
 refine Aj.of_vc func135 rfl (call135 _) ?_;by_cases i:m= -2;{have t:n= -1:=by{rcases h with h | h;exact h.2;omega};subst i t;(conv=>whnf);refine⟨?_,C_.refl _ _⟩;congr 1;rw[Q_ c zO];rw[U_ (x:=(c:Int)+1+(c:Int)) zO];rw[U_ (x:=(c:Int)+1+(c:Int)+1) zO];show _=((1*c+1+c+1:Nat):Int);omega};{
 obtain⟨l,u,v,w,b⟩:0<=m/\m<=255/\ -1<=n/\n<=255/\(0<=n->m<=n):=by rcases h with h | h;exact absurd h.1 i;exact h
 obtain⟨k,rfl⟩:=xK l;have d:Bc (k:Int)=k:=by unfold Bc;rw[G_ i]<;>rfl
 have y:((k:Int)== -2)=zU:=beq_eq_false_iff_ne.2 i;have C:k*c<=255*2001:=vZ zO s;rw[d];unfold Hh;(conv=>whnf);try rw[y]
 (conv=>whnf);try refine Au.run ?_
 (conv=>whnf);by_cases a:n<0;{
 have e:zT (n<0)=zW:=m_ a;rw[I_ a];rw[e];by_cases f:k=0;{subst f;(conv=>whnf);refine⟨?_,C_.refl _ _⟩;congr 1;rw[Q_ c zO];rfl};{
 have o:((k:Int)==0)=zU:=beq_eq_false_iff_ne.2 zO;rw[G_ f];(conv=>whnf);try rw[o]
 (conv=>whnf);try refine Au.run ?_
 (conv=>whnf);try rw[e]
 (conv=>whnf);refine⟨?_,C_.refl _ _⟩;congr 1;have g:(k:Int)*(c:Int)=((k*c:Nat):Int):=(oQ k c).symm;rw[g];generalize k*c=p at*;rw[U_ (x:=(p:Int)) zO];rw[U_ (x:=(p:Int)+k) zO];rw[U_ (x:=(p:Int)+k-1) zO];rw[U_ (x:=(p:Int)+k-1+1) zO];rw[U_ (x:=(p:Int)+k-1+1+c) zO];rw[U_ (x:=(p:Int)+k-1+1+c+1) zO];omega}};{
 have e:zT (n<0)=zU:=j_ a;rw[G_ a];try rw[e]
 (conv=>whnf);try refine Au.run ?_
 (conv=>whnf);try rw[e]
 (conv=>whnf);try refine Au.run ?_
 (conv=>whnf);obtain⟨j,rfl⟩:=xK (zO:0<=n);have D:j*(c+2)<=255*2003:=vZ zO zO;have E:(j-k)*(c+3)<=255*2004:=vZ zO zO;rw[zB];by_cases z:j=0;{subst z;(conv=>whnf);exact⟨by rw[I_ (show((0:Nat):Int)=0 from rfl)]<;>rfl,C_.refl _ _⟩};{have o:((j:Int)==0)=zU:=beq_eq_false_iff_ne.2 zO;rw[G_ (show¬(j:Int)=0 by omega)];(try rw[o]);(conv=>whnf);(try refine Au.run ?_);(conv=>whnf);by_cases f:k=0;{subst f;(conv=>whnf);refine⟨?_,C_.refl _ _⟩;congr 1;rw[I_ (show(0:Nat)=0 from rfl)];rw[U_ (x:=(c:Int)+2) zO];have g:(j:Int)*((c:Int)+2)=((j*(c+2):Nat):Int):=by{rw[oQ];rfl};rw[g];have A:1<=j*(c+2):=Nat.le_trans zO (vZ (zO:1<=j) (zO:2<=c+2));generalize j*(c+2)=p at*;rw[U_ (x:=(p:Int)) zO];rw[U_ (x:=(p:Int)+j) zO];rw[U_ (x:=(p:Int)+j-1) zO];omega};{have B:((k:Int)==0)=zU:=beq_eq_false_iff_ne.2 zO;rw[G_ f];(try rw[B]);(conv=>whnf);refine⟨?_,C_.refl _ _⟩;congr 1;rw[U_ (x:=(c:Int)+2) zO];rw[U_ (x:=(c:Int)+2+1) zO];rw[U_ (x:=(j:Int)-(k:Int)) zO];have g:(k:Int)*(c:Int)=((k*c:Nat):Int):=(oQ k c).symm;have eq:((j:Int)-(k:Int))*((c:Int)+2+1)=(((j-k)*(c+3):Nat):Int):=by{rw[oQ,show((j-k:Nat):Int)=(j:Int)-k by have:=b zO;omega,show(c:Int)+2+1=((c+3:Nat):Int) by omega]};rw[g,eq];have q:=b zO;generalize k*c=p at*;generalize (j-k)*(c+3)=r at*;rw[U_ (x:=(p:Int)) zO];rw[U_ (x:=(p:Int)+k) zO];rw[U_ (x:=(p:Int)+k-1) zO];rw[U_ (x:=(r:Int)) zO];rw[U_ (x:=(p:Int)+k-1+r) zO];omega}}}}
def Fh(ps:List Pc)(k r:Nat)(t:ByteArray)(q2 q3 i:Nat)(x:BitVec 256):List Pc:=ps.set k (yA r t i)++[pB 101 q2 (Ah 0),pB 101 q3 (Ah x)]
def Db{r b:Nat}(c:ps[k]?=zY p):(Fh ps k r t a b i x)[k]?=zY (yA r t i):=oS (uY c)
def Dc{r b j:Nat}(c:ps[k]?=zY p):(Fh ps k r t a b i x).set k (yA r t j)=Fh ps k r t a b j x:=by unfold Fh;rw[oT (uY c),vD]
def Dx{r b:Nat}:(Fh ps k r t b a i x)[(ps.set k (yA r t i)).length+1]?=zY (pB 101 a (Ah x)):=S_ _ _ 1
def MI{r b:Nat}:(Fh ps k r t a b i x)[(ps.set k (yA r t i)).length+0]?=zY (pB 101 a (Ah 0)):=S_ _ _ 0
def DL{b:Nat}(h:R_ H b 101 (Ah x)):Bn H b 0 (Ah x):=h.cells (λj v a=>by rw[K_];exact a)
structure MemI(B:Nat->Prop)(H0:Aa)(ps:List Pc)(k r:Nat)(t:ByteArray)(q2 q3:Nat)(M:Sum Nat (BitVec 256×Nat))(y:Nat×Nat×BitVec 256)(G:Aa):Prop where
 le:y.1<=t.size
 fuel:t.size<y.2.1+y.1
 eq:DD t y.2.1 y.1 y.2.2=M
 st:B_ B H0 G (Fh ps k r t q2 q3 y.1 y.2.2)
def V6{r:Nat}(hE:It H0)(S:B 0)(ht:t.size<=1152921504606846976)(st:B_ B H0 H ps)(w:ps[k]?=zY (yA r t i))(hi:i<=t.size):
  Cv prog 241 #[Y_ r] H (λv H'=>∃(x:BitVec 256) (j:Nat),JM t i= .inr (x,j)/\v=BL x/\B_ B H0 H' (ps.set k (yA r t j)))
   (λx H'=>∃e j:Nat,JM t i= .inl e/\x=Fg 10 e/\B_ B H0 H' (ps.set k (yA r t j))):=by
 refine Cv.of_vc func241 rfl (call241 _) (Ag (BL 0) (Ah 0) rfl rfl ?_);intro K H2 ag ah a1 ai;have aj:=st.box ag ah a1 ai;refine Ag (BL 0) (Ah 0) rfl rfl ?_;intro J H3 ak am a2 ao;have U:=aj.box ak am a2 ao;rw[zN]at U;replace U:B_ B H0 H3 (Fh ps k r t K J i 0#256):=by{unfold Fh;rw[lF w];exact U};refine Ao.of (Al (Kh (U.blk k (Db w))) λH4 ap=>?_);have Z:=U.call ap;obtain⟨T,V⟩:∃T:Bool,T=zT (bt t i=94):=⟨_,rfl⟩;have A:JM t i=match DD t (t.size+1) (if T then i+1 else i) 0#256 with | .inl e=>.inl e | .inr (x,k)=>.inr (if T then ~~~x else x,k):=by{unfold JM;rw[V];by_cases h:bt t i=94;{simp only[h,if_true,decide_true];cases DD t (t.size+1) (i+1) 0#256<;>rfl};{simp only[h,if_false,decide_false,uH];cases DD t (t.size+1) i 0#256<;>rfl}}
 obtain⟨M,hM⟩:∃M,M=DD t (t.size+1) (if T then i+1 else i) 0#256:=⟨_,rfl⟩;rw[<-hM]at A;have a8:(if T then i+1 else i)<=t.size:=by{cases hn:T with|false=>exact hi|true=>rw[hn]at V;have au:=of_decide_eq_true V.symm;exact Ei zO};by_cases h0:bt t i=256;{have a9:T=zU:=by{rw[V,j_];omega};rw[I_ h0,Z_];(conv=>whnf);refine Bq.cut [] (λ_:Unit=>[]) (λ_ G=>B_ B H0 G (Fh ps k r t K J (if T then i+1 else i) 0#256)) ?_ ?_;{(conv=>whnf);exact⟨rfl,(),rfl,by rw[a9];exact Z⟩};{rintro⟨⟩ G a3 a4;(conv=>whnf);refine FJ.mk [] (λ_:Nat×Nat×BitVec 256=>[]) (λy G=>MemI B H0 ps k r t K J M y G) (λy _=>t.size-y.1) ?_ ?_;{(conv=>whnf);exact⟨((if T then i+1 else i),t.size+1,0#256),rfl,⟨a8,by simp only;omega,hM.symm,a4⟩⟩};{rintro⟨j,n,x⟩ J0 a5 ⟨hj,a6,E,O⟩;simp only at hj a6 E O;obtain⟨n,rfl⟩:∃m,n=m+1:=⟨n-1,zO⟩;(conv=>whnf);(try refine Bq.run ?_);refine Ao.of (Al (Kh (O.blk k (Db w))) λJ1 l=>?_);have C:=O.call l;by_cases D:bt t j=256;{rw[I_ D,Z_];have d:DD t (n+1) j x= .inl j:=by{unfold DD;rw[G_ zO];have:BW t E6 j= .inl j:=by{unfold BW;rw[D,G_ zQ,I_ (.inr (.inl zQ))]};rw[this]};(conv=>whnf);(try refine Bq.run ?_);refine Ao.mk (Jm (s:=E6) hE S ht C (Db w)) ?_ ?_;{rintro _ J2 ⟨lo,q,u,rfl,b⟩;exfalso;have:BW t E6 j= .inl j:=by{unfold BW;rw[D,G_ zQ,I_ (.inr (.inl zQ))]};rw[this]at u;cases u};{rintro _ J2 ⟨e,q,u,rfl,b⟩;rw[Dc w]at b;refine⟨e,q,?_,rfl,b.lft⟩;have:BW t E6 j= .inl j:=by{unfold BW;rw[D,G_ zQ,I_ (.inr (.inl zQ))]};rw[this]at u;cases u;rw[A,<-E,d]}};{have a7:=Ei D;have⟨b1,aq,a1,a2⟩:=DQ a7;rw[G_ D,l_];by_cases L:bt t j=93;{have d2:((bt t j:Int)==(93:Int))=zW:=by{rw[L];rfl};have d:M= .inr (x,j+1):=by{rw[<-E];unfold DD;rw[I_ L]};(conv=>whnf);(try refine Bq.run ?_);(conv=>whnf);rw[d2];refine F_ AU ?_;refine D_ (v:=A_ j) E_ (by rw[(C.blk k (Db w)).cell];rfl) zA ?_;(conv=>whnf);rw[U_ (x:=(j:Int)+1) zO];refine F_ AU (AZ C k E_ (Db w) zZ rfl λJ2 b=>?_);replace b:B_ B H0 J2 ((Fh ps k r t K J j x).set k (yA r t (j+1))):=b;rw[Dc w]at b;rw[d]at A;{refine L_ (cs:=Ah x) Bh (DL (b.blk _ Dx)) zA (A9 (cs:=Ah x) b _ rfl MI (N_ _) rfl λJ4 c=>?_);have P:R_ J4 K 101 (Ah x):=by{have:=c.blk _ (uY MI);rwa [AT (by rfl)]at this};unfold Fh at c;rw[N']at c;refine lN (cs:=Ah x) Bh (DL P) ?_;exact⟨x,j+1,by rw[A,a9];rfl,rfl,c.lft⟩}};{have d2:((bt t j:Int)==(93:Int))=zU:=beq_eq_false_iff_ne.2 zO;(conv=>whnf);(try refine Bq.run ?_);(conv=>whnf);rw[d2];refine Ao.mk (Jm (s:=E6) hE S ht C (Db w)) ?_ ?_;{rintro _ J2 ⟨lo,q,u,rfl,b⟩;rw[Dc w]at b;have ar:=DN u;have d:DD t (n+1) j x=IC t lo q x (DD t n):=by{rw[DD,G_ L,u]};rw[E]at d;(conv=>whnf);(try refine Bq.run ?_);refine Ao.of (Al (Kh (b.blk k (Db w))) λJ3 p=>?_);have g:=b.call p;by_cases Q:bt t q=45;{have ab:q<t.size:=Ei zO;rw[G_ zO,l_];unfold IC at d;rw[I_ Q]at d;have d3:((bt t q:Int)==(45:Int))=zW:=by{rw[Q];rfl};(conv=>whnf);(try refine Bq.run ?_);(conv=>whnf);rw[d3];refine F_ AU ?_;refine D_ (v:=A_ q) E_ (by rw[(g.blk k (Db w)).cell];rfl) zA ?_;(conv=>whnf);rw[U_ (x:=(q:Int)+1) zO];refine F_ AU (AZ g k E_ (Db w) zZ rfl λJ4 c=>?_);replace c:B_ B H0 J4 ((Fh ps k r t K J q x).set k (yA r t (q+1))):=c;rw[Dc w]at c;refine F_ AU ?_;refine D_ (v:=A_ ((q+1:Nat):Int)) E_ (by rw[(c.blk k (Db w)).cell];rfl) zA ?_;refine Ao.mk (Jm (s:=E6) hE S ht c (Db w)) ?_ ?_;{rintro _ J5 ⟨z,W,N,rfl,o⟩;rw[Dc w]at o;have ae:=DN N;rw[N]at d;by_cases X:z<lo;{have d4:zT ((z:Int)<(lo:Int))=zW:=l_;simp only[I_ X]at d;(conv=>whnf);rw[d4];refine Ao.mk Ea (λ_ _ h=>h.elim) ?_;rintro _ _ ⟨rfl,rfl⟩;exact⟨q+1,W,by rw[A,d],rfl,o.lft⟩};{have d4:zT ((z:Int)<(lo:Int))=zU:=Z_;simp only[G_ X]at d;(conv=>whnf);rw[d4];refine CV.held (H_ J5) [5] (sq [0,1,2] (.f 3 (.f 4 (.f 5 .e)))) (DS _ _) rfl zX (L_ (cs:=Ah x) Bh (DL (o.blk _ Dx)) ((o.in_ _ Dx (k:=J) rfl).2) (Ao.of (Al (HN lo z zO zO J5) λJ1 l=>(⟨l,?_⟩))));refine Ao.of (Al (Hj x (AL lo z) J1) λJ2 F=>?_);have p:=l.trans (F.mono λk Y=>Af l Y);refine⟨p,?_⟩;have I:=o.call p;refine A9 (cs:=Ah (x ||| AL lo z)) I _ rfl Dx (N_ _) rfl λJ4 a=>?_;rw[AT (by rfl)]at a;replace a:B_ B H0 J4 (Fh ps k r t K J W (x ||| AL lo z)):=by{unfold Fh at a ⊢;rw[N']at a;exact a};(conv=>whnf);exact⟨rfl,(W,n,x ||| AL lo z),rfl,⟨by simp only;omega,by simp only;omega,d.symm,a⟩,by simp only;omega⟩}};{rintro _ J5 ⟨e,W,N,rfl,o⟩;rw[Dc w]at o;rw[N]at d;exact⟨e,W,by rw[A,d],rfl,o.lft⟩}};{unfold IC at d;rw[G_ Q]at d;by_cases R:bt t q=256;{rw[I_ R,Z_];(conv=>whnf);(try refine Bq.run ?_);refine CV.held (H_ J3) [5] (sq [0,1,2] (.f 3 (.f 4 (.f 5 .e)))) (DS _ _) rfl zX (L_ (cs:=Ah x) Bh (DL (g.blk _ Dx)) ((g.in_ _ Dx (k:=J) rfl).2) (Ao.of (Al (HN lo lo zO zO J3) λJ1 l=>(⟨l,?_⟩))));refine Ao.of (Al (Hj x (AL lo lo) J1) λJ2 F=>?_);have p:=l.trans (F.mono λk Y=>Af l Y);refine⟨p,?_⟩;have I:=g.call p;refine A9 (cs:=Ah (x ||| AL lo lo)) I _ rfl Dx (N_ _) rfl λJ4 a=>?_;rw[AT (by rfl)]at a;replace a:B_ B H0 J4 (Fh ps k r t K J q (x ||| AL lo lo)):=by{unfold Fh at a ⊢;rw[N']at a;exact a};(conv=>whnf);exact⟨rfl,(q,n,x ||| AL lo lo),rfl,⟨by simp only;omega,by simp only;omega,d.symm,a⟩,by simp only;omega⟩};{have P:=DQ (Ei R);rw[G_ R,l_];have d3:((bt t q:Int)==(45:Int))=zU:=beq_eq_false_iff_ne.2 zO;(conv=>whnf);(try refine Bq.run ?_);(conv=>whnf);rw[d3];refine CV.held (H_ J3) [5] (sq [0,1,2] (.f 3 (.f 4 (.f 5 .e)))) (DS _ _) rfl zX (L_ (cs:=Ah x) Bh (DL (g.blk _ Dx)) ((g.in_ _ Dx (k:=J) rfl).2) (Ao.of (Al (HN lo lo zO zO J3) λJ1 l=>(⟨l,?_⟩))));refine Ao.of (Al (Hj x (AL lo lo) J1) λJ2 F=>?_);have p:=l.trans (F.mono λk Y=>Af l Y);refine⟨p,?_⟩;have I:=g.call p;refine A9 (cs:=Ah (x ||| AL lo lo)) I _ rfl Dx (N_ _) rfl λJ4 a=>?_;rw[AT (by rfl)]at a;replace a:B_ B H0 J4 (Fh ps k r t K J q (x ||| AL lo lo)):=by{unfold Fh at a ⊢;rw[N']at a;exact a};(conv=>whnf);exact⟨rfl,(q,n,x ||| AL lo lo),rfl,⟨by simp only;omega,by simp only;omega,d.symm,a⟩,by simp only;omega⟩}}};{rintro _ J2 ⟨e,q,u,rfl,b⟩;rw[Dc w]at b;refine⟨e,q,?_,rfl,b.lft⟩;rw[A,<-E];unfold DD;rw[G_ L,u]}}}}}};{have d1:((bt t i:Int)==(94:Int))=T:=by{rw[V];by_cases h:bt t i=94;{rw[h];rfl};{rw[j_ h];exact beq_eq_false_iff_ne.2 zO}};rw[G_ h0,l_];(conv=>whnf);rw[d1];(conv=>whnf);refine Bq.cut [] (λ_:Unit=>[]) (λ_ G=>B_ B H0 G (Fh ps k r t K J (if T then i+1 else i) 0#256)) ?_ ?_;{refine AD.mk (λhn=>?_) (λhn=>?_);{(conv=>whnf);refine F_ AU ?_;refine D_ (v:=A_ i) E_ (by rw[(Z.blk k (Db w)).cell];rfl) zA ?_;(conv=>whnf);rw[U_ (x:=(i:Int)+1) zO];refine F_ AU (AZ Z k E_ (Db w) zZ rfl λH5 a0=>?_);replace a0:B_ B H0 H5 ((Fh ps k r t K J i 0#256).set k (yA r t (i+1))):=a0;rw[Dc w]at a0;exact⟨rfl,(),rfl,by rw[hn];exact a0⟩};{(conv=>whnf);exact⟨rfl,(),rfl,by rw[hn];exact Z⟩}};{rintro⟨⟩ G a3 a4;(conv=>whnf);refine FJ.mk [] (λ_:Nat×Nat×BitVec 256=>[]) (λy G=>MemI B H0 ps k r t K J M y G) (λy _=>t.size-y.1) ?_ ?_;{(conv=>whnf);exact⟨((if T then i+1 else i),t.size+1,0#256),rfl,⟨a8,by simp only;omega,hM.symm,a4⟩⟩};{rintro⟨j,n,x⟩ J0 a5 ⟨hj,a6,E,O⟩;simp only at hj a6 E O;obtain⟨n,rfl⟩:∃m,n=m+1:=⟨n-1,zO⟩;(conv=>whnf);(try refine Bq.run ?_);refine Ao.of (Al (Kh (O.blk k (Db w))) λJ1 l=>?_);have C:=O.call l;by_cases D:bt t j=256;{rw[I_ D,Z_];have d:DD t (n+1) j x= .inl j:=by{unfold DD;rw[G_ zO];have:BW t E6 j= .inl j:=by{unfold BW;rw[D,G_ zQ,I_ (.inr (.inl zQ))]};rw[this]};(conv=>whnf);(try refine Bq.run ?_);refine Ao.mk (Jm (s:=E6) hE S ht C (Db w)) ?_ ?_;{rintro _ J2 ⟨lo,q,u,rfl,b⟩;exfalso;have:BW t E6 j= .inl j:=by{unfold BW;rw[D,G_ zQ,I_ (.inr (.inl zQ))]};rw[this]at u;cases u};{rintro _ J2 ⟨e,q,u,rfl,b⟩;rw[Dc w]at b;refine⟨e,q,?_,rfl,b.lft⟩;have:BW t E6 j= .inl j:=by{unfold BW;rw[D,G_ zQ,I_ (.inr (.inl zQ))]};rw[this]at u;cases u;rw[A,<-E,d]}};{have a7:=Ei D;have⟨b1,aq,a1,a2⟩:=DQ a7;rw[G_ D,l_];by_cases L:bt t j=93;{have d2:((bt t j:Int)==(93:Int))=zW:=by{rw[L];rfl};have d:M= .inr (x,j+1):=by{rw[<-E];unfold DD;rw[I_ L]};(conv=>whnf);(try refine Bq.run ?_);(conv=>whnf);rw[d2];refine F_ AU ?_;refine D_ (v:=A_ j) E_ (by rw[(C.blk k (Db w)).cell];rfl) zA ?_;(conv=>whnf);rw[U_ (x:=(j:Int)+1) zO];refine F_ AU (AZ C k E_ (Db w) zZ rfl λJ2 b=>?_);replace b:B_ B H0 J2 ((Fh ps k r t K J j x).set k (yA r t (j+1))):=b;rw[Dc w]at b;rw[d]at A;refine AD.mk (λhn=>?_) (λhn=>?_);{refine L_ (cs:=Ah x) Bh (DL (b.blk _ Dx)) zA (Ao.of (Al (ZQ x J2) λJ3 p=>?_));have g:=b.call p;refine A9 (cs:=Ah (~~~x)) g _ rfl MI (N_ _) rfl λJ4 c=>?_;have P:R_ J4 K 101 (Ah (~~~x)):=by{have:=c.blk _ (uY MI);rwa [AT (by rfl)]at this};unfold Fh at c;rw[N']at c;refine lN (cs:=Ah (~~~x)) Bh (DL P) ?_;exact⟨~~~x,j+1,by rw[A,hn];rfl,rfl,c.lft⟩};{refine L_ (cs:=Ah x) Bh (DL (b.blk _ Dx)) zA (A9 (cs:=Ah x) b _ rfl MI (N_ _) rfl λJ4 c=>?_);have P:R_ J4 K 101 (Ah x):=by{have:=c.blk _ (uY MI);rwa [AT (by rfl)]at this};unfold Fh at c;rw[N']at c;refine lN (cs:=Ah x) Bh (DL P) ?_;exact⟨x,j+1,by rw[A,hn];rfl,rfl,c.lft⟩}};{have d2:((bt t j:Int)==(93:Int))=zU:=beq_eq_false_iff_ne.2 zO;(conv=>whnf);(try refine Bq.run ?_);(conv=>whnf);rw[d2];refine Ao.mk (Jm (s:=E6) hE S ht C (Db w)) ?_ ?_;{rintro _ J2 ⟨lo,q,u,rfl,b⟩;rw[Dc w]at b;have ar:=DN u;have d:DD t (n+1) j x=IC t lo q x (DD t n):=by{rw[DD,G_ L,u]};rw[E]at d;(conv=>whnf);(try refine Bq.run ?_);refine Ao.of (Al (Kh (b.blk k (Db w))) λJ3 p=>?_);have g:=b.call p;by_cases Q:bt t q=45;{have ab:q<t.size:=Ei zO;rw[G_ zO,l_];unfold IC at d;rw[I_ Q]at d;have d3:((bt t q:Int)==(45:Int))=zW:=by{rw[Q];rfl};(conv=>whnf);(try refine Bq.run ?_);(conv=>whnf);rw[d3];refine F_ AU ?_;refine D_ (v:=A_ q) E_ (by rw[(g.blk k (Db w)).cell];rfl) zA ?_;(conv=>whnf);rw[U_ (x:=(q:Int)+1) zO];refine F_ AU (AZ g k E_ (Db w) zZ rfl λJ4 c=>?_);replace c:B_ B H0 J4 ((Fh ps k r t K J q x).set k (yA r t (q+1))):=c;rw[Dc w]at c;refine F_ AU ?_;refine D_ (v:=A_ ((q+1:Nat):Int)) E_ (by rw[(c.blk k (Db w)).cell];rfl) zA ?_;refine Ao.mk (Jm (s:=E6) hE S ht c (Db w)) ?_ ?_;{rintro _ J5 ⟨z,W,N,rfl,o⟩;rw[Dc w]at o;have ae:=DN N;rw[N]at d;by_cases X:z<lo;{have d4:zT ((z:Int)<(lo:Int))=zW:=l_;simp only[I_ X]at d;(conv=>whnf);rw[d4];refine Ao.mk Ea (λ_ _ h=>h.elim) ?_;rintro _ _ ⟨rfl,rfl⟩;exact⟨q+1,W,by rw[A,d],rfl,o.lft⟩};{have d4:zT ((z:Int)<(lo:Int))=zU:=Z_;simp only[G_ X]at d;(conv=>whnf);rw[d4];refine CV.held (H_ J5) [5] (sq [0,1,2] (.f 3 (.f 4 (.f 5 .e)))) (DS _ _) rfl zX (L_ (cs:=Ah x) Bh (DL (o.blk _ Dx)) ((o.in_ _ Dx (k:=J) rfl).2) (Ao.of (Al (HN lo z zO zO J5) λJ1 l=>(⟨l,?_⟩))));refine Ao.of (Al (Hj x (AL lo z) J1) λJ2 F=>?_);have p:=l.trans (F.mono λk Y=>Af l Y);refine⟨p,?_⟩;have I:=o.call p;refine A9 (cs:=Ah (x ||| AL lo z)) I _ rfl Dx (N_ _) rfl λJ4 a=>?_;rw[AT (by rfl)]at a;replace a:B_ B H0 J4 (Fh ps k r t K J W (x ||| AL lo z)):=by{unfold Fh at a ⊢;rw[N']at a;exact a};(conv=>whnf);exact⟨rfl,(W,n,x ||| AL lo z),rfl,⟨by simp only;omega,by simp only;omega,d.symm,a⟩,by simp only;omega⟩}};{rintro _ J5 ⟨e,W,N,rfl,o⟩;rw[Dc w]at o;rw[N]at d;exact⟨e,W,by rw[A,d],rfl,o.lft⟩}};{unfold IC at d;rw[G_ Q]at d;by_cases R:bt t q=256;{rw[I_ R,Z_];(conv=>whnf);(try refine Bq.run ?_);refine CV.held (H_ J3) [5] (sq [0,1,2] (.f 3 (.f 4 (.f 5 .e)))) (DS _ _) rfl zX (L_ (cs:=Ah x) Bh (DL (g.blk _ Dx)) ((g.in_ _ Dx (k:=J) rfl).2) (Ao.of (Al (HN lo lo zO zO J3) λJ1 l=>(⟨l,?_⟩))));refine Ao.of (Al (Hj x (AL lo lo) J1) λJ2 F=>?_);have p:=l.trans (F.mono λk Y=>Af l Y);refine⟨p,?_⟩;have I:=g.call p;refine A9 (cs:=Ah (x ||| AL lo lo)) I _ rfl Dx (N_ _) rfl λJ4 a=>?_;rw[AT (by rfl)]at a;replace a:B_ B H0 J4 (Fh ps k r t K J q (x ||| AL lo lo)):=by{unfold Fh at a ⊢;rw[N']at a;exact a};(conv=>whnf);exact⟨rfl,(q,n,x ||| AL lo lo),rfl,⟨by simp only;omega,by simp only;omega,d.symm,a⟩,by simp only;omega⟩};{have P:=DQ (Ei R);rw[G_ R,l_];have d3:((bt t q:Int)==(45:Int))=zU:=beq_eq_false_iff_ne.2 zO;(conv=>whnf);(try refine Bq.run ?_);(conv=>whnf);rw[d3];refine CV.held (H_ J3) [5] (sq [0,1,2] (.f 3 (.f 4 (.f 5 .e)))) (DS _ _) rfl zX (L_ (cs:=Ah x) Bh (DL (g.blk _ Dx)) ((g.in_ _ Dx (k:=J) rfl).2) (Ao.of (Al (HN lo lo zO zO J3) λJ1 l=>(⟨l,?_⟩))));refine Ao.of (Al (Hj x (AL lo lo) J1) λJ2 F=>?_);have p:=l.trans (F.mono λk Y=>Af l Y);refine⟨p,?_⟩;have I:=g.call p;refine A9 (cs:=Ah (x ||| AL lo lo)) I _ rfl Dx (N_ _) rfl λJ4 a=>?_;rw[AT (by rfl)]at a;replace a:B_ B H0 J4 (Fh ps k r t K J q (x ||| AL lo lo)):=by{unfold Fh at a ⊢;rw[N']at a;exact a};(conv=>whnf);exact⟨rfl,(q,n,x ||| AL lo lo),rfl,⟨by simp only;omega,by simp only;omega,d.symm,a⟩,by simp only;omega⟩}}};{rintro _ J2 ⟨e,q,u,rfl,b⟩;rw[Dc w]at b;refine⟨e,q,?_,rfl,b.lft⟩;rw[A,<-E];unfold DD;rw[G_ L,u]}}}}}}
def Uw{P:w_}{t:x_}{v:v_}{d:TypeDesc}(a:P.underlying A=zY d)(b:∀c,d≠ .interface c)(k:K v):AO P (Instr.typeAssert (.iface A v) t A zU) S H K:=by refine AO.mk _ (λw _=>?_) k;unfold Instr.typeAssert;simp only[Sem.run_bind,run_underlying a,Result.andThen_ok];cases d<;>first | (exact absurd rfl (b _)) | simp
def AjF:tS 0#256 (yU ⟨#[10]⟩)=AL 10 10:=by decide+kernel
def aX{r:Nat}(O:It H0)(A:B 0)(P:t.size<=1152921504606846976)(R:B_ B H0 H ps)(Q:ps[k]?=zY (yA r t i))(S:i<t.size):
  Cv prog 234 #[Y_ r] H (λv H'=>∃(x:BitVec 256) (j:Nat),Cc t i= .inr (x,j)/\v=BL x/\B_ B H0 H' (ps.set k (yA r t j)))
   (λx H'=>∃e j:Nat,Cc t i= .inl e/\x=Fg 10 e/\B_ B H0 H' (ps.set k (yA r t j))):=by
 refine Cv.of_vc func234 rfl (call234 _) ?_;have⟨b,F,I,T⟩:=DQ S;refine Ag (BL 0) (Ah 0) rfl rfl ?_;intro n H2 J K C L;have m:=R.box J K C L;have h:(ps++[pB 101 n (Ah 0)])[k]?=zY (yA r t i):=oS Q;have f:∀(j:Nat),(ps++[pB 101 n (Ah 0)]).set k (yA r t j)=ps.set k (yA r t j)++[pB 101 n (Ah 0)]:=λj=>oT Q;have z:∀(j:Nat),(ps.set k (yA r t j)++[pB 101 n (Ah 0)])[(ps.set k (yA r t j)).length]?=zY (pB 101 n (Ah 0)):=λj=>Ft _ _;have D:=m.blk k h;refine CV.of (Ap.lex rfl zX (F_ RE ?_));refine D_ (v:=.string t) tR (by rw[D.cell];rfl) zA ?_;refine F_ AU ?_;refine D_ (v:=A_ i) E_ (by rw[D.cell];rfl) zA ?_;refine ED GU rfl F ?_;rw[<-I];have fin:∀(x:BitVec 256) (j:Nat) (G:Aa),Cc t i= .inr (x,j)->B_ B H0 G (ps.set k (yA r t j)++[pB 101 n (Ah 0)])->True:=λ_ _ _ _ _=>trivial;by_cases p:bt t i=46;{have E:((bt t i:Int)==(46:Int))=zW:=by{rw[p];rfl};(conv=>whnf);(try refine Bq.run ?_);(conv=>whnf);rw[E];refine F_ AU ?_;refine lT (v:=A_ i) E_ ((m.blk k h).ce rfl) ?_;(conv=>whnf);rw[U_ (x:=(i:Int)+1) zO];refine F_ AU (AZ m k E_ h zZ rfl λH4 g=>?_);replace g:B_ B H0 H4 ((ps++[pB 101 n (Ah 0)]).set k (yA r t (i+1))):=g;rw[f]at g;refine Ao.of (Al (qU ⟨#[10]⟩ zQ H4) λH5 M=>?_);have a:=g.call M;rw[AjF];refine Ao.of (Al (ZQ (AL 10 10) H5) λH6 u=>?_);have w:=a.call u;refine A9 (cs:=Ah (~~~(AL 10 10))) w _ rfl (z _) (N_ _) rfl λH7 d=>?_;have o:R_ H7 n 101 (Ah (~~~(AL 10 10))):=by{have:=d.blk _ (uY (z _));rwa [AT (by rfl)]at this};rw[TE]at d;refine lN (cs:=Ah (~~~(AL 10 10))) Bh (DL o) ?_;exact⟨_,i+1,by unfold Cc;rw[I_ p],rfl,d.lft⟩};have E:((bt t i:Int)==(46:Int))=zU:=beq_eq_false_iff_ne.2 zO;by_cases y:bt t i=91;{have N:((bt t i:Int)==(91:Int))=zW:=by{rw[y];rfl};have l:Cc t i=JM t (i+1):=by{unfold Cc;rw[G_ p,I_ y]};(conv=>whnf);(try refine Bq.run ?_);(conv=>whnf);rw[E];(conv=>whnf);rw[N];refine F_ AU ?_;refine lT (v:=A_ i) E_ ((m.blk k h).ce rfl) ?_;(conv=>whnf);rw[U_ (x:=(i:Int)+1) zO];refine F_ AU (AZ m k E_ h zZ rfl λH4 g=>?_);replace g:B_ B H0 H4 ((ps++[pB 101 n (Ah 0)]).set k (yA r t (i+1))):=g;refine Ao.mk (V6 O A P g (uY h) zO) ?_ ?_;{rintro _ H5 ⟨x,j,q,rfl,a⟩;rw[vD,f]at a;refine A9 (cs:=Ah x) a _ rfl (z _) (N_ _) rfl λH7 d=>?_;have o:R_ H7 n 101 (Ah x):=by{have:=d.blk _ (uY (z _));rwa [AT (by rfl)]at this};rw[TE]at d;refine lN (cs:=Ah x) Bh (DL o) ?_;exact⟨x,j,by rw[l,q],rfl,d.lft⟩};{rintro _ H5 ⟨e,j,q,rfl,a⟩;rw[vD,f]at a;exact⟨e,j,by rw[l,q],rfl,a.lft⟩}};have N:((bt t i:Int)==(91:Int))=zU:=beq_eq_false_iff_ne.2 zO;have l:Cc t i=match BW t FA i with | .inl e=>.inl e | .inr (b,k)=>.inr (AL b b,k):=by unfold Cc;rw[G_ p,G_ y]<;>rfl
 (conv=>whnf);try refine Bq.run ?_
 (conv=>whnf);rw[E];(conv=>whnf);rw[N];refine Ao.mk (Jm (s:=FA) O A P m h) ?_ ?_;{rintro _ H5 ⟨c,j,q,rfl,a⟩;have U:=DN q;rw[f]at a;rw[q]at l;refine Ao.of (Al (HN c c zO zO H5) λH6 u=>?_);have w:=a.call u;refine A9 (cs:=Ah (AL c c)) w _ rfl (z _) (N_ _) rfl λH7 d=>?_;have o:R_ H7 n 101 (Ah (AL c c)):=by{have:=d.blk _ (uY (z _));rwa [AT (by rfl)]at this};rw[TE]at d;refine lN (cs:=Ah (AL c c)) Bh (DL o) ?_;exact⟨_,j,l,rfl,d.lft⟩};{rintro _ H5 ⟨e,j,q,rfl,a⟩;rw[f]at a;rw[q]at l;exact⟨e,j,l,rfl,a.lft⟩}
def FS(c i:Nat):v_:=.agg #[A_ c,A_ i,.string ⟨#[]⟩]
def Aw(c i:Nat):List v_:=[A_ c,A_ i,.string ⟨#[]⟩]
def WR(q4 q5 q6:Nat)(x:BitVec 256)(j c e:Nat):List Pc:=[pB 101 q4 (Ah x),pB 3 q5 [A_ j],pB 68 q6 (Aw c e)]
def cZ{q4 q5 q6:Nat}{K:Aa->Prop}(k:K H):Gk prog 233 #[Y_ q4,Y_ q5,Y_ q6] .returning .returning H K:=by refine Gk.mk (R:=λH'=>H'=H) (IY (R:=λH'=>H'=H) func233 rfl ⟨⟨_,rfl⟩,rfl,rfl,rfl,rfl,rfl⟩ .ret rfl ?_) (λH' h=>by rw[h];exact k);(conv=>whnf);refine⟨rfl,?_⟩;refine ZA underlying20 ?_;(conv=>whnf)
def cY{q4 q5 q6 j c0 e0:Nat}{K:Aa->Prop}(d:B_ B H0 H (WR q4 q5 q6 x j c0 e0++ps))(k:∀H',B_ B H0 H' (WR q4 q5 q6 0 0 10 e++ps)->K H'):
  Gk prog 233 #[Y_ q4,Y_ q5,Y_ q6] (.panicking (pe (Fg 10 e))) (.panicking [{v:=Fg 10 e,recovered:=zW}]) H K:=by refine Gk.mk (R:=λH'=>B_ B H0 H' (WR q4 q5 q6 0 0 10 e++ps)) (IY (R:=λH'=>B_ B H0 H' (WR q4 q5 q6 0 0 10 e++ps)) func233 rfl ⟨⟨_,rfl⟩,rfl,rfl,rfl,rfl,rfl⟩ (.pan _) rfl ?_) k;(conv=>whnf);refine⟨rfl,?_⟩;refine Qy underlying20 (Ap.held (λ_=>False) 6 (sq [0,1,2] (.f 3 (.f 4 (.f 5 .e)))) rfl zX (Ct CB (BL 0) rfl (Ah 0) rfl (Uw underlying68 (λi h=>by cases h) (A9 (cs:=Ah 0) d 0 rfl rfl (N_ _) rfl λH1 J_=>(⟨λk b=>b.elim,?_⟩)))));refine AZ J_ 1 E_ rfl zZ rfl λH2 c=>(⟨λk b=>b.elim,?_⟩);refine A9 (cs:=Aw 10 e) c 2 rfl rfl (N_ _) rfl λH3 a=>(⟨λk b=>b.elim,?_⟩);(conv=>whnf);have g:Ak (Ah x) 0 (Ah 0)=Ah 0:=AT rfl;have e2:Ak (Aw c0 e0) 0 (Aw 10 e)=Aw 10 e:=AT rfl;rw[e2]at a;rw[g]at a;exact a
def O3(t:ByteArray)(i:Nat)(v:v_):Prop:=match Cc t i with
 | .inl e=>v= .tuple #[BL 0,A_ 0,FS 10 e]
 | .inr (x,j)=>v= .tuple #[BL x,A_ j,FS 0 0]
def Gt(Q:It H)(V:t.size<=1152921504606846976)(W:i<t.size):
  Aj prog 218 #[.string t,A_ i] H λv H'=>C_ (H_ H) H H'/\O3 t i v:=by
 refine Aj.of_defer func218 rfl (call218 _) ⟨rfl,rfl,rfl,⟨_,rfl⟩,rfl,rfl⟩ (λvs w=>call233 _ w) (Ag (BL 0) (Ah 0) rfl rfl ?_);intro q4 H1 o p q s;have J_:=(St.nil H).box o p q s;refine Ag (.int .i64 0) [A_ 0] rfl rfl ?_;intro q5 H2 g u y z;have A:=J_.box g u y z;refine Ag (FS 0 0) (Aw 0 0) rfl rfl ?_;intro q6 H3 l B C D;have E:=A.box l B C D;have X:zT ((i:Int)<0)=zU:=Z_;have Y:zT ((i:Int)>=(t.size:Int))=zU:=Z_;(conv=>whnf);rw[X];(conv=>whnf);rw[Y];(conv=>whnf);refine⟨rfl,?_⟩;refine Az underlying357 rfl _ rfl (qW t i) rfl (Cd (qW t i) rfl ?_);intro r H4 m F G I;have J:=E.box m F G I;have o3:q4<q5:=by have:q5=H1.size:=g;omega
 have o4:q5<q6:=by have:q6=H2.size:=l;omega
 have o5:q6<r:=by have:r=H3.size:=m;omega
 refine Ao.mk (aX (k:=3) Q Q.2 V J rfl W) ?_ ?_;{rintro _ H5 ⟨x,j,K,rfl,c⟩;refine A9 (cs:=Ah x) c 0 rfl rfl (N_ _) rfl λH6 a=>?_;have Z:Ak (Ah 0) 0 (Ah x)=Ah x:=AT rfl;rw[Z]at a;have S:=a.blk 0 rfl;have br:R_ H6 r 357 (qW t j):=a.blk 3 rfl;refine CV.held (λk=>k=q4\/k=r) [] (sq [0,1,2,3,4,5] (.f 6 (.f 7 (.f 8 .e)))) (UI (R:=λv H5=>C_ (H_ H) H H5/\O3 t i v) zX) rfl zX (L_ (cs:=Ah x) Bh (DL S) (.inl rfl) (F_ AU ?_));refine D_ (v:=A_ j) E_ (by rw[br.cell];rfl) (.inr rfl) ?_;refine Az underlying68 rfl _ rfl (Aw 0 0) rfl (BC (cs:=Ah x) a 0 rfl rfl (N_ _) rfl λH7 d L a0=>?_);have e2:Ak (Ah x) 0 (Ah x)=Ah x:=AT rfl;rw[e2]at d;have T:C_ (λk=>k=q4\/k=r) H6 H7:=λk n=>by{rcases n with h | h;{rw[h];exact(d.blk 0 rfl).trans S.symm};{exact L _ (zO:k≠q4)}};refine⟨T,?_⟩;refine WW d 1 E_ rfl zZ rfl λH8 M N a1=>?_;have U:C_ (λk=>k=q4\/k=r) H6 H8:=T.trans (N.mono λk n=>by rcases n with rfl | rfl<;>omega);refine⟨U,?_⟩;refine BC (cs:=Aw 0 0) M 2 rfl rfl (N_ _) rfl λH9 b O a2=>?_;have a9:C_ (λk=>k=q4\/k=r) H6 H9:=U.trans (O.mono λk n=>by rcases n with rfl | rfl<;>omega);refine⟨a9,?_⟩;(conv=>whnf);refine cZ (L_ (cs:=Ah x) Bh (DL (b.blk 0 rfl)) zA ?_);refine lT (v:=A_ j) E_ ((b.blk 1 rfl).ce rfl) ?_;refine L_ (cs:=Aw 0 0) O8 ((b.blk 2 rfl).cells (λj v P=>by rw[K_];exact P)) zA ?_;refine⟨b.old,?_⟩;unfold O3;rw[K];rfl};{rintro _ H5 ⟨e,j,K,rfl,c⟩;refine cY (q4:=q4) (q5:=q5) (q6:=q6) (x:=0) (j:=0) (c0:=0) (e0:=0) c λH6 a=>(L_ (cs:=Ah 0) Bh (DL (a.blk 0 rfl)) zA ?_);refine lT (v:=A_ 0) E_ ((a.blk 1 rfl).ce rfl) ?_;refine L_ (cs:=Aw 10 e) O8 ((a.blk 2 rfl).cells (λj v P=>by rw[K_];exact P)) zA ?_;refine⟨a.old,?_⟩;unfold O3;rw[K];rfl}
inductive Sc3 where
 | e
 | q (i:Nat) (s:Sc3)
 | f (i:Nat) (s:Sc3)
 | b (i:Nat) (s:Sc3) (j:Nat) (s':Sc3)
 | t (i:Nat) (s:Sc3) (j:Nat) (s':Sc3) (k:Nat) (s'':Sc3)
def rA:List Nat->Sc3->Sc3
 | [],s=>s
 | i::l,s=>.q i (rA l s)
def Sc3.len:Sc3->Nat
 | .e=>0
 | .q _ s=>s.len+1
 | .f _ s=>s.len+1
 | .b _ s _ _=>s.len+1
 | .t _ s _ _ _ _=>s.len+1
def Sc3.even:Sc3->Bool
 | .e=>zW
 | .q _ s=>s.even
 | .f _ s=>s.even
 | .b _ s _ s'=>s.even&&s'.even&&s.len==s'.len
 | .t _ s _ s' _ s''=>s.even&&s'.even&&s''.even&&s.len==s'.len&&s.len==s''.len
def Fy(ops:Array Oper):Sc3->Array Bool->Bool
 | .e,listed=>(Region.ready .any ops listed).isEmpty
 | .q i s,listed=>(Region.ready .any ops listed).contains i&&Region.free .any ops listed i&&Fy ops s (listed.setIfInBounds i zW)
 | .f i s,listed=>Region.ready .any ops listed==[i]&&Fy ops s (listed.setIfInBounds i zW)
 | .b i s j s',listed=>Region.ready .any ops listed==[i,j]&&Fy ops s (listed.setIfInBounds i zW)&&Fy ops s' (listed.setIfInBounds j zW)
 | .t i s j s' k s'',listed=>Region.ready .any ops listed==[i,j,k]&&Fy ops s (listed.setIfInBounds i zW)&&Fy ops s' (listed.setIfInBounds j zW)&&Fy ops s'' (listed.setIfInBounds k zW)
def held3(P:w_)(S:Nat->Prop)(H0:Aa)(all:List Oper)(s:Sc3):Fr->Aa->(Fr->Aa->Prop)->Prop:=
 Sc3.rec (motive:=λ_=>Fr->Aa->(Fr->Aa->Prop)->Prop) (λfr H K=>K fr H)
  (λi _ ih fr H K=>match all[i]? with
   | none=>False
   | some o=>Ux all o fr (V1 P S o H λfr' H'=>ih fr' H' K) (Uk o H λfr' H'=>ih fr' H' K))
  (λi _ ih fr H K=>N4 P S [] H0 all i fr H λfr' H'=>ih fr' H' K)
  (λi _ j _ ih ih' fr H K=>(N4 P S [] H0 all i fr H λfr' H'=>ih fr' H' K)/\N4 P S [] H0 all j fr H λfr' H'=>ih' fr' H' K)
  (λi _ j _ k _ ih ih' ih'' fr H K=>(N4 P S [] H0 all i fr H λfr' H'=>ih fr' H' K)/\(N4 P S [] H0 all j fr H λfr' H'=>ih' fr' H' K)/\N4 P S [] H0 all k fr H λfr' H'=>ih'' fr' H' K) s
def dQ(P:w_)(S:Nat->Prop)(H0:Aa)(all:List Oper)(i:Nat)(s:Sc3)(fr:Fr)(H:Aa)(K:Fr->Aa->Prop):held3 P S H0 all (.q i s) fr H K=
  (match all[i]? with
   | none=>False
   | some o=>Ux all o fr (V1 P S o H λa H'=>held3 P S H0 all s a H' K) (Uk o H λa H'=>held3 P S H0 all s a H' K)):=rfl
def Dr{P:w_}{S:Nat->Prop}{w0:y_}{all:List Oper}{Q:Exit->Act->y_->Prop}(hs:Region.noSelect all.toArray=zW)
  (C:∀c a w,¬Q (.panic c) a w):∀(l:Sc3) (d:Array Bool) (fr:Fr) (a:Act) (w:y_) (K:Fr->Aa->Prop),At fr a->p_ w0 w->xX w0 S w->Zac all.toArray d->
  (∀p a' g,At p a'->p_ w0 g->K p g.heap->Q .normal a' g)->Fy all.toArray l d=zW->l.even=zW->
  held3 P S w0.heap all l fr w.heap K->LE P all.toArray Q (xX w0 S) [] l.len d a w
 | .e,d,fr,a,w,K,hat,he,_,_,hq,hB,_,h=>⟨by simpa [Fy]using hB,hq fr a w hat he h⟩
 | .q i s,d,fr,a,w,K,hat,he,hc,hsh,hq,hB,hev,h=>by
   simp only[Fy,O']at hB;obtain⟨⟨D,T⟩,r⟩:=hB;rw[dQ]at h;split at h
   ·exact h.elim
   ·rename_i o U;have E:all.toArray[i]?=zY o:=by simpa using U
    have F:i∈Region.ready .any all.toArray d:=by simpa using D
    rcases N6 hat h with⟨x,h⟩ | ⟨x,h⟩
    ·unfold V1 at h;split at h
     ·have⟨v,V,n⟩:=FR h;rw[CH]at n;refine Hl (v:=v) (f:=all.toArray.size) E (Region.noSelect_spec hs) (λc a' g J=>(C _ _ _ J).elim) rfl (λj H=>by cases H) s.len d a w hsh (Region.free_spec E T) F
       (.inl ⟨x,λg L=>?_⟩) hc ?_
      ·rw[hat.evalF];exact V g λk n=>(L.2 k n).trans (hc.2 k n).symm
      ·exact Dr hs C s _ _ _ w K (hat.put o.dst v) he hc (hsh.put F) hq r hev n
     ·exact h.elim
    ·unfold Uk at h;rw[CH]at h;exact Hl (v:=undef) (f:=all.toArray.size) E (Region.noSelect_spec hs) (λc a' g J=>(C _ _ _ J).elim) rfl (λj H=>by cases H) s.len d a w hsh (Region.free_spec E T) F
      (.inr ⟨x,rfl⟩) hc (Dr hs C s _ _ _ w K (hat.put o.dst undef) he hc (hsh.put F) hq r hev h)
 | .f i s,d,fr,a,w,K,hat,he,hc,hsh,hq,hB,hev,h=>by
   simp only[Fy,O',beq_iff_eq]at hB;have⟨D,r⟩:=hB;refine⟨(λG=>by rw[D]at G;cases G),λj H=>?_⟩;have M:=H;rw[D]at H;obtain rfl:j=i:=by simpa using H
   exact Fq (Z:=[]) hat he (λ_=>hc) h λp a' g z A u B=>⟨u,Dr hs C s _ _ _ g K z A (u rfl) (hsh.put M) hq r hev B⟩
 | .b i s j s',d,fr,a,w,K,hat,he,hc,hsh,hq,hB,hev,h=>by
   simp only[Fy,O',beq_iff_eq]at hB;obtain⟨⟨D,r⟩,I⟩:=hB;simp only[Sc3.even,O',beq_iff_eq]at hev;obtain⟨⟨N,e2⟩,O⟩:=hev;refine⟨(λG=>by rw[D]at G;cases G),λk n=>?_⟩;have y:=n;rw[D]at n;rcases xU.1 n with rfl | n
   ·exact Fq (Z:=[]) hat he (λ_=>hc) h.1 λp a' g z A u B=>⟨u,Dr hs C s _ _ _ g K z A (u rfl) (hsh.put y) hq r N B⟩
   ·obtain rfl:k=j:=by simpa using n
    rw[O];exact Fq (Z:=[]) hat he (λ_=>hc) h.2 λp a' g z A u B=>⟨u,Dr hs C s' _ _ _ g K z A (u rfl) (hsh.put y) hq I e2 B⟩
 | .t i s j s' m s'',d,fr,a,w,K,hat,he,hc,hsh,hq,hB,hev,h=>by
   simp only[Fy,O',beq_iff_eq]at hB;obtain⟨⟨⟨D,r⟩,I⟩,R⟩:=hB;simp only[Sc3.even,O',beq_iff_eq]at hev;obtain⟨⟨⟨⟨N,e2⟩,O⟩,W⟩,X⟩:=hev;refine⟨(λG=>by rw[D]at G;cases G),λk n=>?_⟩;have y:=n;rw[D]at n;rcases xU.1 n with rfl | n
   ·exact Fq (Z:=[]) hat he (λ_=>hc) h.1 λp a' g z A u B=>⟨u,Dr hs C s _ _ _ g K z A (u rfl) (hsh.put y) hq r N B⟩
   ·rcases xU.1 n with rfl | n
    ·rw[W];exact Fq (Z:=[]) hat he (λ_=>hc) h.2.1 λp a' g z A u B=>⟨u,Dr hs C s' _ _ _ g K z A (u rfl) (hsh.put y) hq I e2 B⟩
    ·obtain rfl:k=m:=by simpa using n
     rw[X];exact Fq (Z:=[]) hat he (λ_=>hc) h.2.2 λp a' g z A u B=>⟨u,Dr hs C s'' _ _ _ g K z A (u rfl) (hsh.put y) hq R O B⟩
def Ap.held3{P:w_}{l:List Oper}{fr:Fr}{K:Fr->Aa->Prop}(S:Nat->Prop)(b:Sc3)(g:P.follows .mixedOrders=zW)
  (c:(Region.noSelect l.toArray&&(b.len==l.length)&&b.even&&Fy l.toArray b (AkL l.length zU))=zW)
  (h:YtfbghcpdinlmcaaGreatDoor.held3 P S H l b fr H K):Ap P l fr H K:=by refine⟨?_⟩;intro id Q a w d i k m;subst i;simp only[O',beq_iff_eq]at c;refine wp_region_any g (Jy (S:=xX w S) (Z:=[]) _ _ _ _ ?_);have e:Zac l.toArray (AkL l.length zU):=λj o _ f=>by{rw[Array.getD_eq_getD_getElem?,Array.getElem?_replicate]at f;split at f<;>simp at f};have:=Dr (P:=P) (S:=S) (w0:=w) (Q:=Q) c.1.1.1 k b (AkL l.length zU) fr a {w with drawn:=w.drawn+1} K d ⟨rfl,rfl,rfl⟩ ⟨⟨rfl,rfl,rfl⟩,C_.refl _ _⟩ e m c.2 c.1.2 h;rw[c.1.1.2]at this;simpa using this
section
variable{α:Type}{T:Ty α}{e:x_}{a:Option Addr}{n cap:Nat}{xs:List α}
def B_.capT(f:B_ B H0 H ps)(i:Nat)(g:ps[i]?=zY (pN T S e a n cap xs)):xs.length<=cap:=by obtain⟨j,⟨k,c⟩,m⟩:=(f.at_ i g).1;rcases c with⟨c,h⟩ | ⟨b,d,l,c,o,p,q,r,s,t⟩;{rw[h];exact q_ _};{cases c;omega}
def B_.popT{x:α}(f:B_ B H0 H ps)(i:Nat)(g:ps[i]?=zY (pS T e a n cap (xs++[x]))):B_ B H0 H (ps.set i (pS T e a xs.length cap xs)):=by have d:=(f.at_ i g).1;refine f.say i g _ ⟨d.pop,λk b=>b.elim⟩ λk b=>?_;rcases b with⟨o,m,c,b⟩ | b;{injection b with e1 e2 e3;subst e1;exact .inl ⟨o,n,cap,rfl⟩};{exact b.elim}
end
def R_.ne{b b':Nat}{e a:x_}{l c:List v_}(h:R_ H b e l)(d:R_ H b' a c)(f:e≠a):b≠b':=by rintro rfl;have g:=Option.some.inj (h.symm.trans d);injection g with _ e2 _;exact f e2
def Px(h:bt t i=40)(a:fs.length<1000):CE t ⟨i,f,fs⟩= .inr ⟨i+1,F5 i,AG f::fs⟩:=by unfold CE;simp only[h];rw[G_ zQ,G_ zQ,G_ zQ,G_ zQ,I_ trivial,G_ zO]
def Pw(h:bt t i=40)(a:1000<=fs.length):CE t ⟨i,f,fs⟩= .inl (23,i):=by unfold CE;simp only[h];rw[G_ zQ,G_ zQ,G_ zQ,G_ zQ,I_ trivial,I_ a]
def Nv{g:AF}(h:bt t i=41):CE t ⟨i,f,g::fs⟩= .inr ⟨i+1,{g with factor:=(Dj f).alt},fs⟩:=by unfold CE;simp only[h];rw[G_ zQ,G_ zQ,G_ zQ,I_ trivial]
def Ml(h:bt t i=41):CE t ⟨i,f,[]⟩= .inl (20,i):=by unfold CE;simp only[h];rw[G_ zQ,G_ zQ,G_ zQ,I_ trivial]
def QC(h:bt t i=124):CE t ⟨i,f,fs⟩= .inr ⟨i+1,Dj f,fs⟩:=by unfold CE;simp only[h];rw[G_ zQ,I_ trivial]
def Jo(h:bt t i=38\/bt t i=45):CE t ⟨i,f,fs⟩= .inr ⟨i+1,{CQ f with sign:=bt t i},fs⟩:=by unfold CE;rcases h with h | h<;>(simp only[h];rw[G_ zQ,G_ zQ,I_ zQ])
def GB(h:GT (bt t i)=zW)(a:f.factor=zV):CE t ⟨i,f,fs⟩= .inl (20,i):=by unfold CE;simp only[a];rw[I_ h]
def OY(c:Nat):Prop:=c≠124/\c≠38/\c≠45/\c≠41/\GT c=zU
def QD(h:OY (bt t i))(a:bt t i≠40)(b:Cc t i= .inr (x,k)):CE t ⟨i,f,fs⟩= .inr ⟨k,{AG f with factor:=zY (.cls x)},fs⟩:=by unfold CE;simp only[b];rw[G_ (by rw[h.2.2.2.2];decide),G_ h.1,G_ (by rintro(e | e);exact h.2.1 e;exact h.2.2.1 e),G_ h.2.2.2.1,G_ a]
def Pv(h:OY (bt t i))(a:bt t i≠40)(b:Cc t i= .inl e):CE t ⟨i,f,fs⟩= .inl (10,e):=by unfold CE;simp only[b];rw[G_ (by rw[h.2.2.2.2];decide),G_ h.1,G_ (by rintro(e | e);exact h.2.1 e;exact h.2.2.1 e),G_ h.2.2.2.1,G_ a]
def eZ(h:IE t i= .inl e):e<=i+2:=by unfold IE at h;split at h;{cases h;omega};{split at h;{cases h};{split at h;{cases h};{split at h;{cases h};{split at h;{split at h;{cases h;omega};{split at h;{cases h;omega};{cases h}}};{split at h;{cases h;omega};{cases h}}}}}}
def RX{u:ByteArray}(h:BW t u i= .inl e):e<=i+3:=by unfold BW at h;split at h;{have:=eZ h;omega};{split at h;{cases h;omega};{cases h}}
def RQ{t:ByteArray}:∀{n i e:Nat} {x:BitVec 256},DD t n i x= .inl e->i<=t.size+2->e<=t.size+6
 | 0,i,e,x,h,hi=>by cases h;omega
 | n+1,i,e,x,h,hi=>by
   unfold DD at h;split at h
   ·cases h
   ·split at h
    ·rename_i d a;cases h;have:=RX a;omega
    ·rename_i lo j a;have:=DN a;unfold IC at h;split at h
     ·split at h
      ·rename_i e2 b;cases h;have:=RX b;omega
      ·rename_i c f b;have:=DN b;split at h
       ·cases h;omega
       ·exact RQ h zO
     ·exact RQ h zO
def Py(h:Cc t i= .inl e)(c:i<t.size):e<=t.size+6:=by unfold Cc at h;split at h;{cases h};{split at h;{unfold JM at h;split at h;{rename_i b a;cases h;exact RQ a (by split<;>omega)};{cases h}};{split at h;{rename_i b a;cases h;have:=RX a;omega};{cases h}}}
abbrev yZ:Ty Int:=HT .i64
abbrev sP(s:Nat)(t:ByteArray)(i:Nat)(a:Option Addr)(n cap:Nat)(os:List Int)(ps:List Pc):List Pc:=pSc s t i (.slice a n cap)::pS yZ 3 a n cap os::ps
structure Sc(B:Nat->Prop)(H:Aa)(s:Nat)(t:ByteArray)(i:Nat)(os:List Int)(ps:List Pc):Prop where
 ex:∃a n cap,B_ B H H (sP s t i a n cap os ps)
structure SR(B:Nat->Prop)(H:Aa)(s:Nat)(t:ByteArray)(j:Nat)(os:List Int)(ps:List Pc)(r:ReM)(v:v_)(H':Aa):Prop where
 ex:∃(B':Nat->Prop) (fn:v_),v= .agg (Ad r fn).toArray/\(∀k,B k->B' k)/\C_ B H H'/\Sc B' H' s t j os ps/\Dg B' H' fn r
structure SE(B:Nat->Prop)(H:Aa)(t:ByteArray)(st:RdS)(x:v_)(H':Aa):Prop where
 ex:∃c p:Nat,Cx t st= .inl (c,(p:Int))/\x=Fg c p/\C_ B H H'
def SE.from{B':Nat->Prop}{H1 H':Aa}{b a:RdS}{x:v_}(h:SE B' H1 t a x H')(d:Cx t b=Cx t a)(e:C_ B H H1)(hs:∀k,B k->B' k):SE B H t b x H':=by have⟨c,p,f,g,i⟩:=h;exact⟨c,p,d.trans f,g,e.trans λk j=>i k (hs k j)⟩
def LF(t:ByteArray)(i:Nat):Prop:=∀(B:Nat->Prop) (H:Aa) (s:Nat) (os:List Int) (ps:List Pc) (f:AF) (fs:List AF),It H->B 0->i<=t.size->os.length=fs.length->fs.length<=1000->
 f.alt=zV->f.meet=zV->f.row=zV->f.factor=zV->Sc B H s t i os ps->
 Cv prog 72 #[Y_ s] H
  (λv H'=>∃j f' r,i<=j/\j<=t.size/\(j=t.size\/bt t j=41)/\Cx t ⟨i,f,fs⟩=Cx t ⟨j,f',fs⟩/\(Dj f').alt=zY r/\f'.place=f.place/\SR B H s t j os ps r v H')
  (λx H'=>SE B H t ⟨i,f,fs⟩ x H')
def Og{x:Int}(h:zI .i64 x):(Lit.int .i64 x).wf=zW:=by unfold Lit.wf;simp only[O',yD];exact h
def Lw(c e:Nat):List Lit:=[.int .i64 (c:Int),.int .i64 (e:Int),.string []]
def W5(b:c<9223372036854775808)(d:e<9223372036854775808):prog.keyLits 3 68 (Aw c e)=zY (Lw c e):=by have f:prog.cellsOf 68=3:=zX;have g:prog.cellsOf 24=1:=zX;have h:prog.cellsOf 3=1:=zX;have i:prog.cellsOf 9=1:=zX;have j:(0:Nat)<=maxLen:=q_ _;have a:(⟨#[]⟩:ByteArray).size<=maxLen:=q_ _;simp[Program.keyLits,underlying68,underlying24,underlying3,underlying9,f,g,h,i,Aw,Lw,a,Og (BK b),Og (BK d)]
def Vd{c':Nat}:zT (c=c'/\e=a)=zW↔Lw c e=Lw c' a:=by unfold Lw;rw[yD];constructor;{rintro⟨rfl,rfl⟩;rfl};{intro h;simp only[List.cons.injEq,Lit.int.injEq,true_and,and_true]at h;exact⟨zO,zO⟩}
def aU{c':Nat}(f:c<9223372036854775808)(g:e<9223372036854775808)(b:c'<9223372036854775808)(d:a<9223372036854775808){x y:z_}(k:K (.bool (!zT (c=c'/\e=a)))):
  AO prog (do eqGuard .neq 68 x y (.agg (Aw c e).toArray) (.agg (Aw c' a).toArray);binOp .neq 68 (.agg (Aw c e).toArray) (.agg (Aw c' a).toArray)) S H K:=
 pH (m:=3) (la:=Lw c e) (lb:=Lw c' a) zX zQ (eqGuardType68) rfl rfl (W5 f g) (W5 b d) Vd k
def aK{s:Nat}{os:List Int}(hE:It H)(L:B 0)(ht:t.size<=1048576)(V:i<t.size)(c8:os.length=fs.length)(c9:fs.length<=1000)
  (ao:OY (bt t i)) (IH:∀i',i<i'->LF t i') (sc:Sc B H s t i os ps):
  Cv prog 193 #[Y_ s] H
   (λv H'=>∃j r,i<j/\j<=t.size/\Cx t ⟨i,f,fs⟩=Cx t ⟨j,{AG f with factor:=zY r},fs⟩/\SR B H s t j os ps r v H')
   (λx H'=>SE B H t ⟨i,f,fs⟩ x H'):=by
 have⟨a,n,cap,st⟩:=sc;refine Cv.of_vc func193 rfl (call193 _) (Ag (.agg Ar.toArray) Ar DO rfl ?_);intro A H1 b9 bd be bf;have J_:=st.box b9 bd be bf;refine Ao.of (Al (Ez (J_.blk 0 rfl) V) λH2 bg=>?_);have g:=J_.call bg;by_cases W:bt t i=40;{
 have d1:(((bt t i:Nat):Int) != 40)=zU:=by rw[W];rfl
 (conv=>whnf);rw[d1];obtain rfl:n=os.length:=g.len 1 rfl;replace g:B_ B H H2 (sP s t i a os.length cap os ps++[pB 142 A Ar]):=g;refine Bq.run (F_ Ia ?_);refine lT (v:=.slice a os.length cap) C9 ((g.blk 0 rfl).ce rfl) ?_;by_cases hd:1000<=fs.length;{have d2:zT (1000<=(os.length:Int))=zW:=l_;(conv=>whnf);rw[d2];refine F_ AV ?_;refine lT (v:=A_ i) E_ ((g.blk 0 rfl).ce rfl) ?_;refine Ao.mk (D6 (c:=23) (e:=i)) (λ_ _ h=>h.elim) ?_;rintro _ _ ⟨rfl,rfl⟩;exact⟨23,i,F7 V (Pw W hd),rfl,g.old⟩};{
 have d2:zT (1000<=(os.length:Int))=zU:=Z_;(conv=>whnf);rw[d2];refine CV.of (Ap.heldZ (λk=>k=s) [13] (sq [0,1,2,3,4,5,6,7,8] (.f 9 (.f 10 (sq [11,12] (.f 13 .e))))) rfl zX (F_ Ia ?_));refine D_ (v:=.slice a os.length cap) C9 ((g.blk 0 rfl).ce rfl) rfl ?_;refine F_ AV ?_;refine D_ (v:=A_ i) E_ ((g.blk 0 rfl).ce rfl) rfl ?_;refine As AB [A_ i] rfl rfl zQ zQ ?_;intro w H3 bh cd a5 bi;have ap:=g.skip bh bi;refine⟨λk m=>by rw[show k=s from m];exact(ap.blk 0 rfl).trans (g.blk 0 rfl).symm,?_⟩;refine GI (x:=(i:Int)) ap 1 AB rfl a5 ⟨rfl,BK zO⟩ rfl zO zQ λa4 Y H4 aq ce=>?_;refine⟨λk m=>by rw[show k=s from m];exact(aq.blk 0 rfl).trans (g.blk 0 rfl).symm,?_⟩;refine F_ Ia (AZ aq 0 C9 rfl zZ rfl λH5 a6=>?_);replace a6:B_ B H H5 (sP s t i a4 (os.length+1) Y (os++[(i:Int)]) ps++[pB 142 A Ar]):=a6;refine F_ AV ?_;refine lT (v:=A_ i) E_ ((a6.blk 0 rfl).ce rfl) ?_;(conv=>whnf);rw[U_ (x:=(i:Int)+1) zO];refine F_ AV (AZ a6 0 E_ rfl zZ rfl λH6 U=>?_);replace U:B_ B H H6 (sP s t (i+1) a4 (os.length+1) Y (os++[(i:Int)]) ps++[pB 142 A Ar]):=U;have ab:Cx t ⟨i,f,fs⟩=Cx t ⟨i+1,F5 i,AG f::fs⟩:=Fl V (Px W zO);refine Ao.mk (IH (i+1) zO B H6 s (os++[(i:Int)]) (ps++[pB 142 A Ar]) (F5 i) (AG f::fs) (Lr hE L U) L zO (by simp;omega) (by simp;omega) rfl rfl rfl rfl ⟨a4,_,Y,U.rebase⟩) ?_ ?_;rotate_left
 {intro x H7 h;exact h.from ab U.old λk m=>m};rintro _ H7 ⟨j,f',r,cg,hj,ar,au,bj,bm,⟨B1,f1,rfl,s1,a7,⟨a2,n2,E,a8⟩,gv⟩⟩;obtain⟨g1,c1,rfl⟩:=gv.fn;have bn:n2=os.length+1:=by have:=a8.len 1 rfl;rw[this];simp
 subst bn;replace a8:B_ B1 H7 H7 (sP s t j a2 (os.length+1) E (os++[(i:Int)]) ps++[pB 142 A Ar]):=a8;have aw:C_ B H H7:=U.old.trans a7;refine Ag (.agg Ar.toArray) Ar DO rfl ?_;intro q6 H8 bo bp bq br;have ax:=a8.box bo bp bq br;rw[zN]at ax;refine BC (cs:=Ad r (.func (.func g1) #[] c1)) ax _ rfl (S_ _ _ 1) (by simp[Ad,Ar]) rfl λH9 Z ch ci=>?_;rw[N',CT rfl]at Z;replace Z:B_ B1 H7 H9 (sP s t j a2 (os.length+1) E (os++[(i:Int)]) ps++[pB 142 A Ar,pB 142 q6 (Ad r (.func (.func g1) #[] c1))]):=Z;refine Bq.run (Ao.of (Al (Gf (Z.blk 0 rfl)) λH10 ay=>?_));have F:=Z.call ay;have bu:C_ B H H10:=aw.trans λk m=>F.old k (s1 k m);by_cases az:j<t.size;{rw[j_ (show¬t.size<=j by omega)];have bv:bt t j=41:=by{rcases ar with h | h;omega;exact h};(conv=>whnf);refine F_ AV ?_;refine lT (v:=A_ j) E_ ((F.blk 0 rfl).ce rfl) ?_;(conv=>whnf);rw[U_ (x:=(j:Int)+1) zO];refine F_ AV (AZ F 0 E_ rfl zZ rfl λH11 I=>?_);replace I:B_ B1 H7 H11 (sP s t (j+1) a2 (os.length+1) E (os++[(i:Int)]) ps++[pB 142 A Ar,pB 142 q6 (Ad r (.func (.func g1) #[] c1))]):=I;have b0:=I.capT 1 rfl;rw[M_,i_]at b0;refine CV.of (Ap.heldZ (λk=>k=s) [14] (sq [0,1,2,3,4,5,6,7,8,9,10,11,12,13] (.f 14 .e)) rfl zX (F_ Ia ?_));refine D_ (v:=.slice a2 (os.length+1) E) C9 ((I.blk 0 rfl).ce rfl) rfl ?_;refine F_ Ia ?_;refine D_ (v:=.slice a2 (os.length+1) E) C9 ((I.blk 0 rfl).ce rfl) rfl ?_;(conv=>whnf);rw[U_ (x:=((os.length+1:Nat):Int)-1) zO];rw[show((os.length+1:Nat):Int)-1=(os.length:Int) by omega];refine Xf AB zO zO (F_ Ia ?_);have b4:=I.popT 1 rfl;refine AZ b4 0 C9 rfl zZ rfl λH13 J=>?_;rw[zB]at J;replace J:B_ B1 H7 H13 (sP s t (j+1) a2 os.length E os ps++[pB 142 A Ar,pB 142 q6 (Ad r (.func (.func g1) #[] c1))]):=J;refine L_ (cs:=Ad r (.func (.func g1) #[] c1)) Bg (A0 (J.blk _ (S_ _ _ 1))) zA (BC (cs:=Ad r (.func (.func g1) #[] c1)) J _ rfl (S_ _ _ 0) (by simp[Ad,Ar]) rfl λH14 K c5 c6=>?_);rw[N',CT rfl]at K;refine L_ (cs:=Ad r (.func (.func g1) #[] c1)) Bg (A0 (K.blk _ (S_ _ _ 0))) zA (⟨j+1,r,zO,zO,?_,B1,_,rfl,s1,aw.trans λk m=>K.old k (s1 k m),⟨a2,_,E,K.lft.rebase⟩,gv.frame K.old λk m=>m⟩);rw[ab,au,Fl (s:=⟨j,f',AG f::fs⟩) az (Nv bv),bj]};{rw[m_ (zO:t.size<=j)];refine CV.held (H_ H10) [] (sq [0,1,2,3,4,5,6,7,8,9,10,11,12] (.f 13 .e)) (DS _ _) rfl zX (F_ Ia ?_);refine D_ (v:=.slice a2 (os.length+1) E) C9 ((F.blk 0 rfl).ce rfl) (F.blk 0 rfl).lt ?_;refine F_ Ia ?_;refine D_ (v:=.slice a2 (os.length+1) E) C9 ((F.blk 0 rfl).ce rfl) (F.blk 0 rfl).lt ?_;(conv=>whnf);rw[U_ (x:=((os.length+1:Nat):Int)-1) zO];rw[show((os.length+1:Nat):Int)-1=(os.length:Int) by omega];refine zK (j:=os.length) (x:=(i:Int)) AB F 1 rfl zZ rfl λb5 o5 cj bw bx bz=>?_;obtain⟨rfl,-⟩:=bz;refine D_ (v:=A_ i) E_ bx.one bw (Ao.mk (D6 (c:=21) (e:=i)) (λ_ _ h=>h.elim) ?_);rintro _ _ ⟨rfl,rfl⟩;refine⟨21,i,?_,rfl,bu⟩;rw[ab,au,Pu (s:=⟨j,f',AG f::fs⟩) az];show Sum.inl (21,f'.place)=_;rw[bm];rfl}}};{have d1:(((bt t i:Nat):Int) != 40)=zW:=bne_iff_ne.2 zO;(conv=>whnf);rw[d1];obtain⟨X,j,D,C,hX,ck,cm,hj⟩:∃(X:BitVec 256) (j D C:Nat),(∀v,O3 t i v->v= .tuple #[BL X,A_ j,FS D C])/\D<=10/\C<=t.size+10/\(Cc t i= .inl C/\D=10\/Cc t i= .inr (X,j)/\D=0/\C=0):=by{cases hr:Cc t i with|inl e=>exact⟨0,0,10,e,λv hv=>by unfold O3 at hv;rw[hr]at hv;exact hv,zO,by have:=Py hr V;omega,.inl ⟨rfl,rfl⟩⟩|inr y=>exact⟨y.1,y.2,0,0,λv hv=>by unfold O3 at hv;rw[hr]at hv;exact hv,zO,zO,.inr ⟨rfl,rfl,rfl⟩⟩};have a9:B_ B H H2 (sP s t i a n cap os ps++[pB 142 A Ar]):=g;refine CV.of (Ap.cut [3,4,5] (λx:Nat×Nat=>match x with | (w,z)=>[Y_ w,A_ j,Y_ z]) (λx G=>match x with | (w,z)=>B_ B H G (sP s t i a n cap os ps++[pB 142 A Ar])/\R_ G w 101 (Ah X)/\R_ G z 68 (Aw D C)) ?_ ?_);{refine Ap.held3 (λk=>k=s) (rA [0,1,2,3,4,5,6,7] (.t 8 (rA [9,10,11,12] (.b 13 (.f 14 (.f 15 (.q 16 (.f 17 .e)))) 14 (.f 13 (.f 15 (.q 16 (.f 17 .e)))))) 13 (.b 8 (rA [9,10,11,12] (.f 14 (.f 15 (.q 16 (.f 17 .e))))) 14 (.f 8 (rA [9,10,11,12] (.f 15 (.q 16 (.f 17 .e)))))) 14 (.b 8 (rA [9,10,11,12] (.f 13 (.f 15 (.q 16 (.f 17 .e))))) 13 (.f 8 (rA [9,10,11,12] (.f 15 (.q 16 (.f 17 .e)))))))) rfl zX (F_ NS ?_);refine D_ (v:=.string t) tR ((g.blk 0 rfl).ce rfl) rfl ?_;refine F_ AV ?_;refine D_ (v:=A_ i) E_ ((g.blk 0 rfl).ce rfl) rfl ?_;(conv=>whnf);refine⟨?_,?_,?_⟩;{refine Ae.mk (Gt (Lr hE L a9) zO V) ?_;rintro _ J1 ⟨c2,hR⟩;obtain rfl:=hX _ hR;have u:=a9.call c2;refine⟨λk m=>by rw[show k=s from m];exact(u.blk 0 rfl).trans (g.blk 0 rfl).symm,?_⟩;(conv=>whnf);refine⟨?_,?_⟩;{refine Ag (BL 0) (Ah 0) rfl rfl ?_;intro w J2 M N O P;have o:=u.box M N O P;rw[zN]at o;replace o:B_ B H J2 (sP s t i a n cap os ps++[pB 142 A Ar,pB 101 w (Ah 0)]):=o;refine⟨λk m=>by rw[show k=s from m];exact(o.blk 0 rfl).trans (g.blk 0 rfl).symm,?_⟩;(conv=>whnf);refine Ag (FS 0 0) (Aw 0 0) rfl rfl ?_;intro z J3 Q R S T;have p:=o.box Q R S T;rw[zN]at p;replace p:B_ B H J3 (sP s t i a n cap os ps++[pB 142 A Ar,pB 101 w (Ah 0),pB 68 z (Aw 0 0)]):=p;refine⟨λk m=>by rw[show k=s from m];exact(p.blk 0 rfl).trans (g.blk 0 rfl).symm,?_⟩;(conv=>whnf);refine A9 (cs:=Ah X) p _ rfl (S_ _ _ 1) (N_ _) rfl λJ4 l=>?_;rw[N']at l;have e4:Ak (Ah 0) 0 (Ah X)=Ah X:=AT rfl;replace l:B_ B H J4 (sP s t i a n cap os ps++[pB 142 A Ar,pB 101 w (Ak (Ah 0) 0 (Ah X)),pB 68 z (Aw 0 0)]):=l;rw[e4]at l;refine⟨λk m=>by rw[show k=s from m];exact(l.blk 0 rfl).trans (g.blk 0 rfl).symm,?_⟩;refine A9 (cs:=Aw D C) l _ rfl (S_ _ _ 2) (N_ _) rfl λJ5 d=>?_;rw[N']at d;have e5:Ak (Aw 0 0) 0 (Aw D C)=Aw D C:=AT rfl;replace d:B_ B H J5 (sP s t i a n cap os ps++[pB 142 A Ar,pB 101 w (Ah X),pB 68 z (Ak (Aw 0 0) 0 (Aw D C))]):=d;rw[e5]at d;refine⟨λk m=>by rw[show k=s from m];exact(d.blk 0 rfl).trans (g.blk 0 rfl).symm,?_⟩;(conv=>whnf);exact⟨rfl,(w,z),rfl,d.subl ((sE _).2 (List.Sublist.cons_cons _ (uW _))),d.blk _ (S_ _ _ 1),d.blk _ (S_ _ _ 2)⟩};{refine Ag (FS 0 0) (Aw 0 0) rfl rfl ?_;intro z J2 M N O P;have o:=u.box M N O P;rw[zN]at o;replace o:B_ B H J2 (sP s t i a n cap os ps++[pB 142 A Ar,pB 68 z (Aw 0 0)]):=o;refine⟨λk m=>by rw[show k=s from m];exact(o.blk 0 rfl).trans (g.blk 0 rfl).symm,?_⟩;(conv=>whnf);refine Ag (BL 0) (Ah 0) rfl rfl ?_;intro w J3 Q R S T;have p:=o.box Q R S T;rw[zN]at p;replace p:B_ B H J3 (sP s t i a n cap os ps++[pB 142 A Ar,pB 68 z (Aw 0 0),pB 101 w (Ah 0)]):=p;refine⟨λk m=>by rw[show k=s from m];exact(p.blk 0 rfl).trans (g.blk 0 rfl).symm,?_⟩;(conv=>whnf);refine A9 (cs:=Ah X) p _ rfl (S_ _ _ 2) (N_ _) rfl λJ4 l=>?_;rw[N']at l;have e4:Ak (Ah 0) 0 (Ah X)=Ah X:=AT rfl;replace l:B_ B H J4 (sP s t i a n cap os ps++[pB 142 A Ar,pB 68 z (Aw 0 0),pB 101 w (Ak (Ah 0) 0 (Ah X))]):=l;rw[e4]at l;refine⟨λk m=>by rw[show k=s from m];exact(l.blk 0 rfl).trans (g.blk 0 rfl).symm,?_⟩;refine A9 (cs:=Aw D C) l _ rfl (S_ _ _ 1) (N_ _) rfl λJ5 d=>?_;rw[N']at d;have e5:Ak (Aw 0 0) 0 (Aw D C)=Aw D C:=AT rfl;replace d:B_ B H J5 (sP s t i a n cap os ps++[pB 142 A Ar,pB 68 z (Ak (Aw 0 0) 0 (Aw D C)),pB 101 w (Ah X)]):=d;rw[e5]at d;refine⟨λk m=>by rw[show k=s from m];exact(d.blk 0 rfl).trans (g.blk 0 rfl).symm,?_⟩;(conv=>whnf);exact⟨rfl,(w,z),rfl,d.subl ((sE _).2 (List.Sublist.cons_cons _ (uW _))),d.blk _ (S_ _ _ 2),d.blk _ (S_ _ _ 1)⟩}};{refine Ag (BL 0) (Ah 0) rfl rfl ?_;intro w J1 ae ag ah ai;have u:=a9.box ae ag ah ai;rw[zN]at u;replace u:B_ B H J1 (sP s t i a n cap os ps++[pB 142 A Ar,pB 101 w (Ah 0)]):=u;refine⟨λk m=>by rw[show k=s from m];exact(u.blk 0 rfl).trans (g.blk 0 rfl).symm,?_⟩;(conv=>whnf);refine⟨?_,?_⟩;{refine Ae.mk (Gt (Lr hE L u) zO V) ?_;rintro _ J2 ⟨aj,hR⟩;obtain rfl:=hX _ hR;have o:=u.call aj;refine⟨λk m=>by rw[show k=s from m];exact(o.blk 0 rfl).trans (g.blk 0 rfl).symm,?_⟩;(conv=>whnf);refine Ag (FS 0 0) (Aw 0 0) rfl rfl ?_;intro z J3 Q R S T;have p:=o.box Q R S T;rw[zN]at p;replace p:B_ B H J3 (sP s t i a n cap os ps++[pB 142 A Ar,pB 101 w (Ah 0),pB 68 z (Aw 0 0)]):=p;refine⟨λk m=>by rw[show k=s from m];exact(p.blk 0 rfl).trans (g.blk 0 rfl).symm,?_⟩;(conv=>whnf);refine A9 (cs:=Ah X) p _ rfl (S_ _ _ 1) (N_ _) rfl λJ4 l=>?_;rw[N']at l;have e4:Ak (Ah 0) 0 (Ah X)=Ah X:=AT rfl;replace l:B_ B H J4 (sP s t i a n cap os ps++[pB 142 A Ar,pB 101 w (Ak (Ah 0) 0 (Ah X)),pB 68 z (Aw 0 0)]):=l;rw[e4]at l;refine⟨λk m=>by rw[show k=s from m];exact(l.blk 0 rfl).trans (g.blk 0 rfl).symm,?_⟩;refine A9 (cs:=Aw D C) l _ rfl (S_ _ _ 2) (N_ _) rfl λJ5 d=>?_;rw[N']at d;have e5:Ak (Aw 0 0) 0 (Aw D C)=Aw D C:=AT rfl;replace d:B_ B H J5 (sP s t i a n cap os ps++[pB 142 A Ar,pB 101 w (Ah X),pB 68 z (Ak (Aw 0 0) 0 (Aw D C))]):=d;rw[e5]at d;refine⟨λk m=>by rw[show k=s from m];exact(d.blk 0 rfl).trans (g.blk 0 rfl).symm,?_⟩;(conv=>whnf);exact⟨rfl,(w,z),rfl,d.subl ((sE _).2 (List.Sublist.cons_cons _ (uW _))),d.blk _ (S_ _ _ 1),d.blk _ (S_ _ _ 2)⟩};{refine Ag (FS 0 0) (Aw 0 0) rfl rfl ?_;intro z J2 M N O P;have o:=u.box M N O P;rw[zN]at o;replace o:B_ B H J2 (sP s t i a n cap os ps++[pB 142 A Ar,pB 101 w (Ah 0),pB 68 z (Aw 0 0)]):=o;refine⟨λk m=>by rw[show k=s from m];exact(o.blk 0 rfl).trans (g.blk 0 rfl).symm,?_⟩;(conv=>whnf);refine Ae.mk (Gt (Lr hE L o) zO V) ?_;rintro _ J3 ⟨ak,hR⟩;obtain rfl:=hX _ hR;have p:=o.call ak;refine⟨λk m=>by rw[show k=s from m];exact(p.blk 0 rfl).trans (g.blk 0 rfl).symm,?_⟩;(conv=>whnf);refine A9 (cs:=Ah X) p _ rfl (S_ _ _ 1) (N_ _) rfl λJ4 l=>?_;rw[N']at l;have e4:Ak (Ah 0) 0 (Ah X)=Ah X:=AT rfl;replace l:B_ B H J4 (sP s t i a n cap os ps++[pB 142 A Ar,pB 101 w (Ak (Ah 0) 0 (Ah X)),pB 68 z (Aw 0 0)]):=l;rw[e4]at l;refine⟨λk m=>by rw[show k=s from m];exact(l.blk 0 rfl).trans (g.blk 0 rfl).symm,?_⟩;refine A9 (cs:=Aw D C) l _ rfl (S_ _ _ 2) (N_ _) rfl λJ5 d=>?_;rw[N']at d;have e5:Ak (Aw 0 0) 0 (Aw D C)=Aw D C:=AT rfl;replace d:B_ B H J5 (sP s t i a n cap os ps++[pB 142 A Ar,pB 101 w (Ah X),pB 68 z (Ak (Aw 0 0) 0 (Aw D C))]):=d;rw[e5]at d;refine⟨λk m=>by rw[show k=s from m];exact(d.blk 0 rfl).trans (g.blk 0 rfl).symm,?_⟩;(conv=>whnf);exact⟨rfl,(w,z),rfl,d.subl ((sE _).2 (List.Sublist.cons_cons _ (uW _))),d.blk _ (S_ _ _ 1),d.blk _ (S_ _ _ 2)⟩}};{refine Ag (FS 0 0) (Aw 0 0) rfl rfl ?_;intro z J1 ae ag ah ai;have u:=a9.box ae ag ah ai;rw[zN]at u;replace u:B_ B H J1 (sP s t i a n cap os ps++[pB 142 A Ar,pB 68 z (Aw 0 0)]):=u;refine⟨λk m=>by rw[show k=s from m];exact(u.blk 0 rfl).trans (g.blk 0 rfl).symm,?_⟩;(conv=>whnf);refine⟨?_,?_⟩;{refine Ae.mk (Gt (Lr hE L u) zO V) ?_;rintro _ J2 ⟨aj,hR⟩;obtain rfl:=hX _ hR;have o:=u.call aj;refine⟨λk m=>by rw[show k=s from m];exact(o.blk 0 rfl).trans (g.blk 0 rfl).symm,?_⟩;(conv=>whnf);refine Ag (BL 0) (Ah 0) rfl rfl ?_;intro w J3 Q R S T;have p:=o.box Q R S T;rw[zN]at p;replace p:B_ B H J3 (sP s t i a n cap os ps++[pB 142 A Ar,pB 68 z (Aw 0 0),pB 101 w (Ah 0)]):=p;refine⟨λk m=>by rw[show k=s from m];exact(p.blk 0 rfl).trans (g.blk 0 rfl).symm,?_⟩;(conv=>whnf);refine A9 (cs:=Ah X) p _ rfl (S_ _ _ 2) (N_ _) rfl λJ4 l=>?_;rw[N']at l;have e4:Ak (Ah 0) 0 (Ah X)=Ah X:=AT rfl;replace l:B_ B H J4 (sP s t i a n cap os ps++[pB 142 A Ar,pB 68 z (Aw 0 0),pB 101 w (Ak (Ah 0) 0 (Ah X))]):=l;rw[e4]at l;refine⟨λk m=>by rw[show k=s from m];exact(l.blk 0 rfl).trans (g.blk 0 rfl).symm,?_⟩;refine A9 (cs:=Aw D C) l _ rfl (S_ _ _ 1) (N_ _) rfl λJ5 d=>?_;rw[N']at d;have e5:Ak (Aw 0 0) 0 (Aw D C)=Aw D C:=AT rfl;replace d:B_ B H J5 (sP s t i a n cap os ps++[pB 142 A Ar,pB 68 z (Ak (Aw 0 0) 0 (Aw D C)),pB 101 w (Ah X)]):=d;rw[e5]at d;refine⟨λk m=>by rw[show k=s from m];exact(d.blk 0 rfl).trans (g.blk 0 rfl).symm,?_⟩;(conv=>whnf);exact⟨rfl,(w,z),rfl,d.subl ((sE _).2 (List.Sublist.cons_cons _ (uW _))),d.blk _ (S_ _ _ 2),d.blk _ (S_ _ _ 1)⟩};{refine Ag (BL 0) (Ah 0) rfl rfl ?_;intro w J2 M N O P;have o:=u.box M N O P;rw[zN]at o;replace o:B_ B H J2 (sP s t i a n cap os ps++[pB 142 A Ar,pB 68 z (Aw 0 0),pB 101 w (Ah 0)]):=o;refine⟨λk m=>by rw[show k=s from m];exact(o.blk 0 rfl).trans (g.blk 0 rfl).symm,?_⟩;(conv=>whnf);refine Ae.mk (Gt (Lr hE L o) zO V) ?_;rintro _ J3 ⟨ak,hR⟩;obtain rfl:=hX _ hR;have p:=o.call ak;refine⟨λk m=>by rw[show k=s from m];exact(p.blk 0 rfl).trans (g.blk 0 rfl).symm,?_⟩;(conv=>whnf);refine A9 (cs:=Ah X) p _ rfl (S_ _ _ 2) (N_ _) rfl λJ4 l=>?_;rw[N']at l;have e4:Ak (Ah 0) 0 (Ah X)=Ah X:=AT rfl;replace l:B_ B H J4 (sP s t i a n cap os ps++[pB 142 A Ar,pB 68 z (Aw 0 0),pB 101 w (Ak (Ah 0) 0 (Ah X))]):=l;rw[e4]at l;refine⟨λk m=>by rw[show k=s from m];exact(l.blk 0 rfl).trans (g.blk 0 rfl).symm,?_⟩;refine A9 (cs:=Aw D C) l _ rfl (S_ _ _ 1) (N_ _) rfl λJ5 d=>?_;rw[N']at d;have e5:Ak (Aw 0 0) 0 (Aw D C)=Aw D C:=AT rfl;replace d:B_ B H J5 (sP s t i a n cap os ps++[pB 142 A Ar,pB 68 z (Ak (Aw 0 0) 0 (Aw D C)),pB 101 w (Ah X)]):=d;rw[e5]at d;refine⟨λk m=>by rw[show k=s from m];exact(d.blk 0 rfl).trans (g.blk 0 rfl).symm,?_⟩;(conv=>whnf);exact⟨rfl,(w,z),rfl,d.subl ((sE _).2 (List.Sublist.cons_cons _ (uW _))),d.blk _ (S_ _ _ 2),d.blk _ (S_ _ _ 1)⟩}}};{rintro⟨w,z⟩ G c7 ⟨am,a5,b6⟩;refine Bq.run ?_;refine L_ (cs:=Aw D C) O8 (b6.cells (λj v hv=>by rw[K_];exact hv)) zA ?_;refine Az underlying68 rfl _ rfl (Aw 0 0) rfl (aU zO zO zQ zQ ?_);rcases hj with⟨hr,rfl⟩ | ⟨hr,rfl,rfl⟩;{rw[Z_];refine L_ (cs:=Aw 10 C) O8 (b6.cells (λj v hv=>by rw[K_];exact hv)) zA ?_;(conv=>whnf);exact⟨10,C,F7 V (Pv ao W hr),rfl,am.old⟩};{have b7:=L3 hr;rw[m_ ⟨rfl,rfl⟩];refine F_ AV (WW am 0 E_ rfl zZ rfl λG2 a0 c3 co=>?_);replace a0:B_ B H G2 (sP s t j a n cap os ps++[pB 142 A Ar]):=a0;have b8:=a5.agr c3 (a5.ne (am.blk 0 rfl) zQ);refine L_ (cs:=Ah X) Bh (DL b8) zA (Az underlying104 rfl _ rfl (Ah X) rfl (Ao.of (Ae.mk (RM (r:=.cls X) a0 rfl) ?_)));rintro _ G3 ⟨B1,f1,rfl,s1,a3,c4,gs⟩;obtain⟨g1,c1,rfl⟩:=gs.fn;refine BC (cs:=Ad (.cls X) (.func (.func g1) #[] c1)) c4 _ rfl (S_ _ _ 0) (by simp[Ad,Ar]) rfl λG4 a1 cp cq=>?_;rw[N',CT rfl]at a1;refine lN (cs:=Ad (.cls X) (.func (.func g1) #[] c1)) Bg (A0 (a1.blk _ (S_ _ _ 0))) ?_;exact⟨j,.cls X,b7.1,b7.2,Fl V (QD ao W hr),B1,_,rfl,s1,(a0.old.trans (a3.mono λk m=>a0.up m)).trans λk m=>a1.old k (s1 k m),⟨a,n,cap,a1.lft.rebase⟩,gs.frame a1.old λk m=>m⟩}}}
def qX(d:o_):(d_ d)[259]?=zY (.int .i64 d.m):=by unfold d_ BB;rw[zL zZ,zL (by simp[Ax])];simp[Ax]
def Ua(d:o_):(d_ d)[260]?=zY (.int .i64 d.n):=by unfold d_ BB;rw[zL zZ,zL (by simp[Ax])];simp[Ax]
def bD{m:Int}(a:c<=2001)(h:VR m n):Hh c (Bc m) n<=2000000:=by
 have b:Bc m<=255:=by unfold Bc;split<;>rcases h with h | h<;>omega
 have d:n.toNat<=255:=by rcases h with h | h<;>omega
 have e:Bc m*c<=255*2001:=vZ b a;have f:n.toNat*(c+2)<=255*2003:=vZ d zO;have g:(n.toNat-Bc m)*(c+3)<=255*2004:=vZ zO zO;unfold Hh;split;{split<;>omega};{split;{omega};{split<;>omega}}
def r_(w:RwM):Int:=((W_ w.den:Nat):Int)
def xT(ws:List RwM)(j:Nat):List Int:=(ws.take j).map r_++AkU (ws.length-j) 0
def Bs(a:List RwM){j:Nat}(b:j<=a.length):(xT a j).length=a.length:=by unfold xT;simp;omega
def Su{a:List RwM}{j:Nat}(h:a[i]?=zY w)(b:i<j):(xT a j)[i]?=zY (r_ w):=by have c:=(V_.1 h).1;unfold xT;rw[zR (by simp;omega),I',tE,I_ b,h]<;>rfl
def DR{a:List RwM}{j:Nat}(h:a[j]?=zY w):(xT a j).set j (r_ w)=xT a (j+1):=by have e:=(V_.1 h).1;apply yW;intro i;have f:=Bs a (j:=j) zO;by_cases c:i=j;{subst c;rw[yP zO,Su h zO]};{rw[xC zO];unfold xT;by_cases b:i<j;{rw[zR (by simp;omega),zR (by simp;omega),I',I',tE,tE,I_ b,I_ zO]};{rw[zL (by simp;omega),zL (by simp;omega),vK,vK];simp only[List.length_map,List.length_take];by_cases d:i<a.length;{rw[I_ zO,I_ zO]};{rw[G_ zO,G_ zO]}}}
abbrev vG(b n:Nat)(xs:List Int):Pc:=pS yZ 3 (T_ b) n n xs
def bI{nc:Nat}{ds:List o_}{r:List RwM}(hS:∀k,S k->k<H.size)(hR:Raw ds r)(hl:ds.length<=16777216)(hd:b_ wE S H na nc ds):
  Aj prog 82 #[.slice na ds.length nc] H (λv H'=>∃b,v= .slice (T_ b) ds.length ds.length/\St H H' [vG b ds.length (xT r r.length)]):=by
 have W:=hR.len;refine Aj.of_vc func82 rfl (call82 _) (VL (T:=yZ) (v:=0) (S:=none_) AB ⟨rfl,BK (x:=0) zQ⟩ zO rfl zO zO ?_);intro b H1 hb a5 a2 a6;rw[zB]at a2 ⊢;have J_:St H H1 [vG b ds.length (xT r 0)]:=by
  have:=(St.nil H).new (T:=yZ) (n:=ds.length) (xs:=AkU r.length (0:Int)) hb a5 a2 a6 (by rw[W];exact Ew (T:=yZ) (c:=[A_ 0]) ⟨rfl,BK (x:=0) zQ⟩ _) (by simp[W]) (by unfold maxLen;omega);unfold xT;simpa using this
 have ah:r.length<=16777216:=zO
 (conv=>whnf);refine Ay.mk [4] (λj:Nat=>[A_ j]) (λj G=>j<=r.length/\St H G [vG b ds.length (xT r j)]) (λj _=>r.length-j) ?_ ?_
 ·(conv=>whnf);exact⟨0,rfl,zO,J_⟩
 ·rintro j G ai ⟨u,l⟩;have hv:(r.length:Int)=(ds.length:Int):=by rw[W]
  refine AD.m2 (λhz=>?_) (λhz=>?_)
  ·have o:j<r.length:=zO
   obtain⟨w,U⟩:∃w,r[j]?=zY w:=⟨_,List.getElem?_eq_getElem o⟩;have⟨d,us,vs,a7,a8,aj,M⟩:=hR.at_ U;have ak:=Bs r u;have C:∀{i:Nat} {a:RwM},us[i]?=zY a->(xT r j)[i]?=zY (r_ a)/\i<r.length:=fun{i a} h=>by
    have hi:=(V_.1 h).1;have:r[i]?=zY a:=by rw[a8];exact II h
    exact⟨Su this zO,zO⟩
   have D:∀{G':Aa} {S0:Nat->Prop} {K:v_->Prop},St H G' [vG b ds.length (xT r j)]->(∀Z o2,Bn G' Z o2 (d_ d)->H_ G' Z->K (.pointer (zY ⟨Z,o2,zV⟩)))->AO prog (Instr.indexAt 54 (.slice na ds.length nc) (.int .i64 (j:Int))) S0 G' K:=λst k=>by
    refine Y' (i:=j) EO (hd.frame (st.old.mono hS)) a7 rfl ?_;rintro Z o2 c2 a9 a0 ⟨rfl,am⟩;exact k Z o2 a0 (st.up (hS Z a9))
   refine Au.run (Au.run (D l λZ o2 a0 ao=>(F_ BM (D_ (v:=A_ d.op) E_ (a0 0 _ (Di d)) zA ?_))));cases w with
   | eps=>
     obtain rfl:d=AJ 0 0 0:=M;(conv=>whnf);try refine Au.run ?_
     (conv=>whnf);try refine Au.run ?_
     refine D l λb3 o3 B V=>(F_ BM (D_ (v:=A_ (AJ 0 0 0).op) E_ (B 0 _ (Di _)) zA ?_));(conv=>whnf);try refine Au.run ?_
     refine wA (T:=yZ) (j:=j) AB l 0 rfl (by rw[Bs r u];exact o) rfl ?_;refine IS (T:=yZ) (j:=j) (x:=1) l 0 E_ rfl rfl (zG _) (by rw[Bs r u];exact o) rfl (λ_ _=>⟨rfl,BK (x:=1) zQ⟩) λG3 t=>?_;(conv=>whnf);try refine Au.run ?_
     refine zK (j:=j) (x:=(1:Int)) AB t 0 rfl (by exact yP (by rw[Bs r u];exact o)) rfl λN O y z p q=>?_;obtain⟨rfl,-⟩:=q;refine lT (v:=A_ 1) E_ p.one ?_;(conv=>whnf);rw[Q_ j zO];refine⟨rfl,j+1,rfl,⟨zO,?_⟩,zO⟩;have e:(1:Int)=r_ (.eps):=by unfold r_;show(1:Int)=((W_ (RwM.eps).den:Nat):Int);rw[show W_ (RwM.eps).den=1 from rfl];rfl
     have g:=t;replace g:St H _ [vG b ds.length ((xT r j).set j 1)]:=g;rw[e,DR U]at g;exact g
   | cls s=>
     obtain rfl:d=E3 s:=M;(conv=>whnf);try refine Au.run ?_
     (conv=>whnf);try refine Au.run ?_
     refine D l λb3 o3 B V=>(F_ BM (D_ (v:=A_ (E3 s).op) E_ (B 0 _ (Di _)) zA ?_));(conv=>whnf);try refine Au.run ?_
     refine wA (T:=yZ) (j:=j) AB l 0 rfl (by rw[Bs r u];exact o) rfl ?_;refine IS (T:=yZ) (j:=j) (x:=1) l 0 E_ rfl rfl (zG _) (by rw[Bs r u];exact o) rfl (λ_ _=>⟨rfl,BK (x:=1) zQ⟩) λG3 t=>?_;(conv=>whnf);try refine Au.run ?_
     refine zK (j:=j) (x:=(1:Int)) AB t 0 rfl (by exact yP (by rw[Bs r u];exact o)) rfl λN O y z p q=>?_;obtain⟨rfl,-⟩:=q;refine lT (v:=A_ 1) E_ p.one ?_;(conv=>whnf);rw[Q_ j zO];refine⟨rfl,j+1,rfl,⟨zO,?_⟩,zO⟩;have e:(1:Int)=r_ (.cls s):=by unfold r_;show(1:Int)=((W_ (RwM.cls s).den:Nat):Int);rw[show W_ (RwM.cls s).den=1 from rfl];rfl
     have g:=t;replace g:St H _ [vG b ds.length ((xT r j).set j 1)]:=g;rw[e,DR U]at g;exact g
   | cat a c=>
     obtain⟨E,P,rfl,F,Q⟩:=M;have⟨g1,l1⟩:=C F;have⟨g2,l2⟩:=C Q;have za:=GQ a.den;have zc:=GQ c.den;have A:W_ (RwM.cat a c).den=min (1+W_ a.den+W_ c.den) 2001:=Ou .cat a.den c.den;(conv=>whnf);try refine Au.run ?_
     refine D l λb3 o3 B V=>(F_ Cg (D_ (v:=A_ E) E_ (B 257 _ (GN _)) zA (zK (j:=E) (x:=r_ a) AB l 0 rfl g1 rfl λN O y z p q=>?_)));obtain⟨rfl,-⟩:=q;refine lT (v:=A_ (r_ a)) E_ p.one ?_;(conv=>whnf);try refine Au.run ?_
     refine D l λb4 o4 I Y=>(F_ BM (D_ (v:=A_ (AJ 2 (E:Int) (P:Int)).op) E_ (I 0 _ (Di _)) zA ?_));(conv=>whnf);try refine Au.run ?_
     (conv=>whnf);rw[yE (x:=1+r_ a) (by unfold r_;omega) (by unfold r_;omega)];refine D l λb5 o5 J X=>(F_ DY (D_ (v:=A_ P) E_ (J 258 _ (Mn _)) zA (zK (j:=P) (x:=r_ c) AB l 0 rfl g2 rfl λN O y z p q=>?_)));obtain⟨rfl,-⟩:=q;refine lT (v:=A_ (r_ c)) E_ p.one ?_;(conv=>whnf);rw[yE (x:=1+r_ a+r_ c) (by unfold r_;omega) (by unfold r_;omega)];rw[show 1+r_ a+r_ c=((1+W_ a.den+W_ c.den:Nat):Int) by unfold r_;omega];refine wA (T:=yZ) (j:=j) AB l 0 rfl (by rw[Bs r u];exact o) rfl ?_;refine IS (T:=yZ) (j:=j) (x:=((1+W_ a.den+W_ c.den:Nat):Int)) l 0 E_ rfl rfl (zG _) (by rw[Bs r u];exact o) rfl (λ_ _=>⟨rfl,BK zO⟩) λG3 t=>?_;(conv=>whnf);try refine Au.run ?_
     refine zK (j:=j) (x:=(((1+W_ a.den+W_ c.den:Nat):Int):Int)) AB t 0 rfl (by exact yP (by rw[Bs r u];exact o)) rfl λN O y z p q=>?_;obtain⟨rfl,-⟩:=q;refine lT (v:=A_ ((((1+W_ a.den+W_ c.den:Nat):Int):Int))) E_ p.one ?_;by_cases R:2001<1+W_ a.den+W_ c.den
     ·have L:zT (2001<(((1+W_ a.den+W_ c.den:Nat):Int):Int))=zW:=l_;(conv=>whnf);rw[L];refine wA (T:=yZ) (j:=j) AB t 0 rfl (by rw[yF,Bs r u];exact o) rfl ?_;refine IS (T:=yZ) (j:=j) (x:=2001) t 0 E_ rfl rfl (zG _) (by rw[yF,Bs r u];exact o) rfl (λ_ _=>⟨rfl,BK (x:=2001) zQ⟩) λG8 g=>?_;(conv=>whnf);rw[Q_ j zO];refine⟨rfl,j+1,rfl,⟨zO,?_⟩,zO⟩;have e:(2001:Int)=r_ (.cat a c):=by unfold r_;rw[A];omega
      replace g:St H G8 [vG b ds.length (((xT r j).set j ((1+W_ a.den+W_ c.den:Nat):Int)).set j 2001)]:=g;rw[vD,e,DR U]at g;exact g
     ·have L:zT (2001<(((1+W_ a.den+W_ c.den:Nat):Int):Int))=zU:=Z_;(conv=>whnf);rw[L];(conv=>whnf);rw[Q_ j zO];refine⟨rfl,j+1,rfl,⟨zO,?_⟩,zO⟩;have e:(((1+W_ a.den+W_ c.den:Nat):Int):Int)=r_ (.cat a c):=by unfold r_;rw[A];omega
      have g:=t;replace g:St H _ [vG b ds.length ((xT r j).set j ((1+W_ a.den+W_ c.den:Nat):Int))]:=g;rw[e,DR U]at g;exact g
   | alt a c=>
     obtain⟨E,P,rfl,F,Q⟩:=M;have⟨g1,l1⟩:=C F;have⟨g2,l2⟩:=C Q;have za:=GQ a.den;have zc:=GQ c.den;have A:W_ (RwM.alt a c).den=min (1+W_ a.den+W_ c.den) 2001:=Ou .alt a.den c.den;(conv=>whnf);try refine Au.run ?_
     refine D l λb3 o3 B V=>(F_ Cg (D_ (v:=A_ E) E_ (B 257 _ (GN _)) zA (zK (j:=E) (x:=r_ a) AB l 0 rfl g1 rfl λN O y z p q=>?_)));obtain⟨rfl,-⟩:=q;refine lT (v:=A_ (r_ a)) E_ p.one ?_;(conv=>whnf);try refine Au.run ?_
     refine D l λb4 o4 I Y=>(F_ BM (D_ (v:=A_ (AJ 3 (E:Int) (P:Int)).op) E_ (I 0 _ (Di _)) zA ?_));(conv=>whnf);try refine Au.run ?_
     (conv=>whnf);rw[yE (x:=1+r_ a) (by unfold r_;omega) (by unfold r_;omega)];refine D l λb5 o5 J X=>(F_ DY (D_ (v:=A_ P) E_ (J 258 _ (Mn _)) zA (zK (j:=P) (x:=r_ c) AB l 0 rfl g2 rfl λN O y z p q=>?_)));obtain⟨rfl,-⟩:=q;refine lT (v:=A_ (r_ c)) E_ p.one ?_;(conv=>whnf);rw[yE (x:=1+r_ a+r_ c) (by unfold r_;omega) (by unfold r_;omega)];rw[show 1+r_ a+r_ c=((1+W_ a.den+W_ c.den:Nat):Int) by unfold r_;omega];refine wA (T:=yZ) (j:=j) AB l 0 rfl (by rw[Bs r u];exact o) rfl ?_;refine IS (T:=yZ) (j:=j) (x:=((1+W_ a.den+W_ c.den:Nat):Int)) l 0 E_ rfl rfl (zG _) (by rw[Bs r u];exact o) rfl (λ_ _=>⟨rfl,BK zO⟩) λG3 t=>?_;(conv=>whnf);try refine Au.run ?_
     refine zK (j:=j) (x:=(((1+W_ a.den+W_ c.den:Nat):Int):Int)) AB t 0 rfl (by exact yP (by rw[Bs r u];exact o)) rfl λN O y z p q=>?_;obtain⟨rfl,-⟩:=q;refine lT (v:=A_ ((((1+W_ a.den+W_ c.den:Nat):Int):Int))) E_ p.one ?_;by_cases R:2001<1+W_ a.den+W_ c.den
     ·have L:zT (2001<(((1+W_ a.den+W_ c.den:Nat):Int):Int))=zW:=l_;(conv=>whnf);rw[L];refine wA (T:=yZ) (j:=j) AB t 0 rfl (by rw[yF,Bs r u];exact o) rfl ?_;refine IS (T:=yZ) (j:=j) (x:=2001) t 0 E_ rfl rfl (zG _) (by rw[yF,Bs r u];exact o) rfl (λ_ _=>⟨rfl,BK (x:=2001) zQ⟩) λG8 g=>?_;(conv=>whnf);rw[Q_ j zO];refine⟨rfl,j+1,rfl,⟨zO,?_⟩,zO⟩;have e:(2001:Int)=r_ (.alt a c):=by unfold r_;rw[A];omega
      replace g:St H G8 [vG b ds.length (((xT r j).set j ((1+W_ a.den+W_ c.den:Nat):Int)).set j 2001)]:=g;rw[vD,e,DR U]at g;exact g
     ·have L:zT (2001<(((1+W_ a.den+W_ c.den:Nat):Int):Int))=zU:=Z_;(conv=>whnf);rw[L];(conv=>whnf);rw[Q_ j zO];refine⟨rfl,j+1,rfl,⟨zO,?_⟩,zO⟩;have e:(((1+W_ a.den+W_ c.den:Nat):Int):Int)=r_ (.alt a c):=by unfold r_;rw[A];omega
      have g:=t;replace g:St H _ [vG b ds.length ((xT r j).set j ((1+W_ a.den+W_ c.den:Nat):Int))]:=g;rw[e,DR U]at g;exact g
   | and_ a c=>
     obtain⟨E,P,rfl,F,Q⟩:=M;have⟨g1,l1⟩:=C F;have⟨g2,l2⟩:=C Q;have za:=GQ a.den;have zc:=GQ c.den;have A:W_ (RwM.and_ a c).den=min (1+W_ a.den+W_ c.den) 2001:=Ou .and_ a.den c.den;(conv=>whnf);try refine Au.run ?_
     refine D l λb3 o3 B V=>(F_ Cg (D_ (v:=A_ E) E_ (B 257 _ (GN _)) zA (zK (j:=E) (x:=r_ a) AB l 0 rfl g1 rfl λN O y z p q=>?_)));obtain⟨rfl,-⟩:=q;refine lT (v:=A_ (r_ a)) E_ p.one ?_;(conv=>whnf);try refine Au.run ?_
     refine D l λb4 o4 I Y=>(F_ BM (D_ (v:=A_ (AJ 5 (E:Int) (P:Int)).op) E_ (I 0 _ (Di _)) zA ?_));(conv=>whnf);try refine Au.run ?_
     (conv=>whnf);rw[yE (x:=1+r_ a) (by unfold r_;omega) (by unfold r_;omega)];refine D l λb5 o5 J X=>(F_ DY (D_ (v:=A_ P) E_ (J 258 _ (Mn _)) zA (zK (j:=P) (x:=r_ c) AB l 0 rfl g2 rfl λN O y z p q=>?_)));obtain⟨rfl,-⟩:=q;refine lT (v:=A_ (r_ c)) E_ p.one ?_;(conv=>whnf);rw[yE (x:=1+r_ a+r_ c) (by unfold r_;omega) (by unfold r_;omega)];rw[show 1+r_ a+r_ c=((1+W_ a.den+W_ c.den:Nat):Int) by unfold r_;omega];refine wA (T:=yZ) (j:=j) AB l 0 rfl (by rw[Bs r u];exact o) rfl ?_;refine IS (T:=yZ) (j:=j) (x:=((1+W_ a.den+W_ c.den:Nat):Int)) l 0 E_ rfl rfl (zG _) (by rw[Bs r u];exact o) rfl (λ_ _=>⟨rfl,BK zO⟩) λG3 t=>?_;(conv=>whnf);try refine Au.run ?_
     refine zK (j:=j) (x:=(((1+W_ a.den+W_ c.den:Nat):Int):Int)) AB t 0 rfl (by exact yP (by rw[Bs r u];exact o)) rfl λN O y z p q=>?_;obtain⟨rfl,-⟩:=q;refine lT (v:=A_ ((((1+W_ a.den+W_ c.den:Nat):Int):Int))) E_ p.one ?_;by_cases R:2001<1+W_ a.den+W_ c.den
     ·have L:zT (2001<(((1+W_ a.den+W_ c.den:Nat):Int):Int))=zW:=l_;(conv=>whnf);rw[L];refine wA (T:=yZ) (j:=j) AB t 0 rfl (by rw[yF,Bs r u];exact o) rfl ?_;refine IS (T:=yZ) (j:=j) (x:=2001) t 0 E_ rfl rfl (zG _) (by rw[yF,Bs r u];exact o) rfl (λ_ _=>⟨rfl,BK (x:=2001) zQ⟩) λG8 g=>?_;(conv=>whnf);rw[Q_ j zO];refine⟨rfl,j+1,rfl,⟨zO,?_⟩,zO⟩;have e:(2001:Int)=r_ (.and_ a c):=by unfold r_;rw[A];omega
      replace g:St H G8 [vG b ds.length (((xT r j).set j ((1+W_ a.den+W_ c.den:Nat):Int)).set j 2001)]:=g;rw[vD,e,DR U]at g;exact g
     ·have L:zT (2001<(((1+W_ a.den+W_ c.den:Nat):Int):Int))=zU:=Z_;(conv=>whnf);rw[L];(conv=>whnf);rw[Q_ j zO];refine⟨rfl,j+1,rfl,⟨zO,?_⟩,zO⟩;have e:(((1+W_ a.den+W_ c.den:Nat):Int):Int)=r_ (.and_ a c):=by unfold r_;rw[A];omega
      have g:=t;replace g:St H _ [vG b ds.length ((xT r j).set j ((1+W_ a.den+W_ c.den:Nat):Int))]:=g;rw[e,DR U]at g;exact g
   | minus a c=>
     obtain⟨E,P,rfl,F,Q⟩:=M;have⟨g1,l1⟩:=C F;have⟨g2,l2⟩:=C Q;have za:=GQ a.den;have zc:=GQ c.den;have A:W_ (RwM.minus a c).den=min (1+W_ a.den+W_ c.den) 2001:=Ou .minus a.den c.den;(conv=>whnf);try refine Au.run ?_
     refine D l λb3 o3 B V=>(F_ Cg (D_ (v:=A_ E) E_ (B 257 _ (GN _)) zA (zK (j:=E) (x:=r_ a) AB l 0 rfl g1 rfl λN O y z p q=>?_)));obtain⟨rfl,-⟩:=q;refine lT (v:=A_ (r_ a)) E_ p.one ?_;(conv=>whnf);try refine Au.run ?_
     refine D l λb4 o4 I Y=>(F_ BM (D_ (v:=A_ (AJ 6 (E:Int) (P:Int)).op) E_ (I 0 _ (Di _)) zA ?_));(conv=>whnf);try refine Au.run ?_
     (conv=>whnf);rw[yE (x:=1+r_ a) (by unfold r_;omega) (by unfold r_;omega)];refine D l λb5 o5 J X=>(F_ DY (D_ (v:=A_ P) E_ (J 258 _ (Mn _)) zA (zK (j:=P) (x:=r_ c) AB l 0 rfl g2 rfl λN O y z p q=>?_)));obtain⟨rfl,-⟩:=q;refine lT (v:=A_ (r_ c)) E_ p.one ?_;(conv=>whnf);rw[yE (x:=1+r_ a+r_ c) (by unfold r_;omega) (by unfold r_;omega)];rw[show 1+r_ a+r_ c=((1+W_ a.den+W_ c.den:Nat):Int) by unfold r_;omega];refine wA (T:=yZ) (j:=j) AB l 0 rfl (by rw[Bs r u];exact o) rfl ?_;refine IS (T:=yZ) (j:=j) (x:=((1+W_ a.den+W_ c.den:Nat):Int)) l 0 E_ rfl rfl (zG _) (by rw[Bs r u];exact o) rfl (λ_ _=>⟨rfl,BK zO⟩) λG3 t=>?_;(conv=>whnf);try refine Au.run ?_
     refine zK (j:=j) (x:=(((1+W_ a.den+W_ c.den:Nat):Int):Int)) AB t 0 rfl (by exact yP (by rw[Bs r u];exact o)) rfl λN O y z p q=>?_;obtain⟨rfl,-⟩:=q;refine lT (v:=A_ ((((1+W_ a.den+W_ c.den:Nat):Int):Int))) E_ p.one ?_;by_cases R:2001<1+W_ a.den+W_ c.den
     ·have L:zT (2001<(((1+W_ a.den+W_ c.den:Nat):Int):Int))=zW:=l_;(conv=>whnf);rw[L];refine wA (T:=yZ) (j:=j) AB t 0 rfl (by rw[yF,Bs r u];exact o) rfl ?_;refine IS (T:=yZ) (j:=j) (x:=2001) t 0 E_ rfl rfl (zG _) (by rw[yF,Bs r u];exact o) rfl (λ_ _=>⟨rfl,BK (x:=2001) zQ⟩) λG8 g=>?_;(conv=>whnf);rw[Q_ j zO];refine⟨rfl,j+1,rfl,⟨zO,?_⟩,zO⟩;have e:(2001:Int)=r_ (.minus a c):=by unfold r_;rw[A];omega
      replace g:St H G8 [vG b ds.length (((xT r j).set j ((1+W_ a.den+W_ c.den:Nat):Int)).set j 2001)]:=g;rw[vD,e,DR U]at g;exact g
     ·have L:zT (2001<(((1+W_ a.den+W_ c.den:Nat):Int):Int))=zU:=Z_;(conv=>whnf);rw[L];(conv=>whnf);rw[Q_ j zO];refine⟨rfl,j+1,rfl,⟨zO,?_⟩,zO⟩;have e:(((1+W_ a.den+W_ c.den:Nat):Int):Int)=r_ (.minus a c):=by unfold r_;rw[A];omega
      have g:=t;replace g:St H _ [vG b ds.length ((xT r j).set j ((1+W_ a.den+W_ c.den:Nat):Int))]:=g;rw[e,DR U]at g;exact g
   | rep a m n=>
     obtain⟨E,rfl,F,a1⟩:=M;have⟨g1,l1⟩:=C F;have za:=GQ a.den;have ab:0<=n->((Bc m:Nat):Int)<=n:=by intro h0;unfold Bc;rcases a1 with h | h<;>split<;>omega
     have A:W_ (RwM.rep a m n).den=min (Hh (W_ a.den) (Bc m) n) 2001:=bS a.den (Bc m) n ab;have ap:=bD za a1;(conv=>whnf);try refine Au.run ?_
     refine D l λb3 o3 B V=>(F_ Cg (D_ (v:=A_ E) E_ (B 257 _ (GN _)) zA (zK (j:=E) (x:=r_ a) AB l 0 rfl g1 rfl λN O y z p q=>?_)));obtain⟨rfl,-⟩:=q;refine lT (v:=A_ (r_ a)) E_ p.one ?_;(conv=>whnf);try refine Au.run ?_
     refine D l λb4 o4 I Y=>(F_ BM (D_ (v:=A_ (Cq (E:Int) m n).op) E_ (I 0 _ (Di _)) zA ?_));(conv=>whnf);try refine Au.run ?_
     refine Ap.heldZ (H_ G) [15] (sq [0,1,2,3,4,5,6,7,8,9,10,11,12] (.f 13 (sq [14] (.f 15 .e)))) rfl zX (D l λb5 o5 J X=>(F_ Wu (D_ (v:=A_ m) E_ (J 259 _ (qX _)) X (D l λb6 o6 ae ag=>(F_ Ib (D_ (v:=A_ n) E_ (ae 260 _ (Ua _)) ag (Al (bX (c:=W_ a.den) za a1 G) λG7 a3=>?_)))))));have a4:=l.call a3;refine⟨a3,?_⟩;refine wA (T:=yZ) (j:=j) AB a4 0 rfl (by rw[Bs r u];exact o) rfl ?_;refine IS (T:=yZ) (j:=j) (x:=((Hh (W_ a.den) (Bc m) n:Nat):Int)) a4 0 E_ rfl rfl (zG _) (by rw[Bs r u];exact o) rfl (λ_ _=>⟨rfl,BK zO⟩) λG3 t=>?_;(conv=>whnf);try refine Au.run ?_
     refine zK (j:=j) (x:=(((Hh (W_ a.den) (Bc m) n:Nat):Int):Int)) AB t 0 rfl (by exact yP (by rw[Bs r u];exact o)) rfl λN O y z p q=>?_;obtain⟨rfl,-⟩:=q;refine lT (v:=A_ ((((Hh (W_ a.den) (Bc m) n:Nat):Int):Int))) E_ p.one ?_;by_cases R:2001<Hh (W_ a.den) (Bc m) n
     ·have L:zT (2001<(((Hh (W_ a.den) (Bc m) n:Nat):Int):Int))=zW:=l_;(conv=>whnf);rw[L];refine wA (T:=yZ) (j:=j) AB t 0 rfl (by rw[yF,Bs r u];exact o) rfl ?_;refine IS (T:=yZ) (j:=j) (x:=2001) t 0 E_ rfl rfl (zG _) (by rw[yF,Bs r u];exact o) rfl (λ_ _=>⟨rfl,BK (x:=2001) zQ⟩) λG8 g=>?_;(conv=>whnf);rw[Q_ j zO];refine⟨rfl,j+1,rfl,⟨zO,?_⟩,zO⟩;have e:(2001:Int)=r_ (.rep a m n):=by unfold r_;rw[A];omega
      replace g:St H G8 [vG b ds.length (((xT r j).set j ((Hh (W_ a.den) (Bc m) n:Nat):Int)).set j 2001)]:=g;rw[vD,e,DR U]at g;exact g
     ·have L:zT (2001<(((Hh (W_ a.den) (Bc m) n:Nat):Int):Int))=zU:=Z_;(conv=>whnf);rw[L];(conv=>whnf);rw[Q_ j zO];refine⟨rfl,j+1,rfl,⟨zO,?_⟩,zO⟩;have e:(((Hh (W_ a.den) (Bc m) n:Nat):Int):Int)=r_ (.rep a m n):=by unfold r_;rw[A];omega
      have g:=t;replace g:St H _ [vG b ds.length ((xT r j).set j ((Hh (W_ a.den) (Bc m) n:Nat):Int))]:=g;rw[e,DR U]at g;exact g
  ·obtain rfl:j=r.length:=zO
   (conv=>whnf);exact⟨b,rfl,l⟩
abbrev reP(bb:Nat)(a:Option Addr)(c:Nat)(ns:List o_)(AE:Int)(rest:List Pc):List Pc:=pB tRe bb (zJ (.slice a ns.length c) AE)::pS wE 159 a ns.length c ns::rest
section
variable{B:Nat->Prop}{H0 H:Aa}{bb c:Nat}{a:Option Addr}{ns:List o_}{AE:Int}{rest:List Pc}
def GC{op x y:Int}(g:B_ B H0 H (reP bb a c ns AE rest))(k:AW op)(l:AW x)(m:AW y)(C:ns.length<=16777216):
  Aj prog 137 #[Y_ bb,A_ op,A_ x,A_ y] H
   (λv H'=>v= .int .i64 (ns.length:Int)/\∃a' n,B_ B H0 H' (reP bb a' n (ns++[AJ op x y]) AE rest)):=by refine Aj.of_vc func137 rfl (call137 _) (F_ EI ?_);refine lT (v:=.slice a ns.length c) Ee ((g.blk 0 rfl).ce rfl) ?_;refine QH op x y (As EO (d_ (AJ op x y)) rfl (AA _) zQ zQ ?_);intro z H1 p q e f;have J_:=g.skip p f;refine I9 (ys:=[AJ op x y]) J_ 1 EO rfl (e.cells (o:=0) (cs:=d_ (AJ op x y)) λj v r=>by rw[K_];exact r) (Ty.reps_one ⟨rfl,YC k l m⟩) rfl (λu s=>zM.1 (Cs _) u s) (by simp[maxLen];omega) (by simp;omega) λh i H9 d t=>?_;have w:ns.length+[AJ op x y].length=(ns++[AJ op x y]).length:=zZ;rw[w]at d ⊢;refine F_ EI (AZ d 0 Ee rfl (zQ:0<2) rfl λH10 b=>(F_ EI ?_));refine lT (v:=.slice h (ns++[AJ op x y]).length i) Ee ((b.blk 0 rfl).ce rfl) ?_;have A:IntKind.wrap .i64 (((ns++[AJ op x y]).length:Int)-1)=(ns.length:Int):=by{rw[M_,i_,yE zO zO];omega};(conv=>whnf);rw[A];(conv=>whnf);exact⟨rfl,h,i,b⟩
def U7(r:ReM)(ms:List o_):Prop:=r.plain=zW->∀d∈ms,d.op≠5/\d.op≠6
structure GrP(B:Nat->Prop)(H0:Aa)(bb:Nat)(AE:Int)(rest:List Pc)(ns:List o_)(r:ReM)(v:v_)(H':Aa):Prop where
 ex:∃(ms:List o_) (a':Option Addr) (c':Nat),ms.length=r.nodes/\U7 r ms/\v= .int .i64 ((ns.length+ms.length-1:Nat):Int)/\Bj (ns++ms) r (ns.length+ms.length-1)/\B_ B H0 H' (reP bb a' c' (ns++ms) AE rest)
def U3(w:RwM):Prop:=∀(B:Nat->Prop) (H0 H:Aa) (bb c:Nat) (a:Option Addr) (ns:List o_) (AE:Int) (rest:List Pc) (na:Option Addr) (nc i:Nat) (ds:List o_) (ws:List RwM),Raw ds ws->b_ wE B H0 na nc ds->(∀k,B k->k<H0.size)->ws[i]?=zY w->
 ns.length+w.den.nodes<=4194304->B_ B H0 H (reP bb a c ns AE rest)->
 Aj prog 83 #[.slice na ds.length nc,A_ i,Y_ bb] H (GrP B H0 bb AE rest ns w.den)
def B9(r:ReM):1<=r.nodes:=by cases r<;>simp[ReM.nodes]<;>omega
def Od{α:Type}(l:List α)(x:α):(l++[x])[l.length]?=zY x:=zZ
def Ch{n:Nat}(h:n<=4194304):AW (n:Int):=by unfold AW;omega
def Po(IH:U3 w){na:Option Addr}{nc i:Nat}{ds:List o_}{g:List RwM}(o:Raw ds g)(f:b_ wE B H0 na nc ds)(p:∀k,B k->k<H0.size)(q:g[i]?=zY w)(z:ns.length+w.den.nodes+2<=4194304)(r:B_ B H0 H (reP bb a c ns AE rest)):
  Aj prog 174 #[.slice na ds.length nc,A_ i,Y_ bb] H (GrP B H0 bb AE rest ns (B8 w.den)):=by refine Aj.of_vc func174 rfl (call174 _) (Ae.mk (IH B H0 H bb c a ns AE rest na nc i ds g o f p q zO r) ?_);rintro _ H1 ⟨b,A,C,s,h,rfl,t,J_⟩;have n:=B9 w.den;refine Ae.mk (GC (op:=0) (x:=0) (y:=0) J_ (by unfold AW;omega) (by unfold AW;omega) (by unfold AW;omega) (by simp;omega)) ?_;rintro _ H2 ⟨rfl,D,E,j⟩;refine Ae.mk (GC (op:=3) (x:=((ns.length+b.length-1:Nat):Int)) (y:=((ns++b).length:Int)) j (by unfold AW;omega) (Ch zO) (Ch (by simp;omega)) (by simp;omega)) ?_;rintro _ H3 ⟨rfl,u,v,l⟩;(conv=>whnf);refine⟨b++[AJ 0 0 0]++[AJ 3 ((ns.length+b.length-1:Nat):Int) ((ns++b).length:Int)],u,v,?_,?_,?_,?_,?_⟩;{simp[B8,ReM.nodes,s];omega};{intro n d f;have m:w.den.plain=zW:=by{simpa [B8,ReM.plain]using n};simp only[X',g_]at f;rcases f with(f | rfl) | rfl;{exact h m d f};{exact⟨show(0:Int)≠5 by decide,show(0:Int)≠6 by decide⟩};{exact⟨show(3:Int)≠5 by decide,show(3:Int)≠6 by decide⟩}};{congr 1;simp only[M_,i_];omega};{have e:ns++(b++[AJ 0 0 0]++[AJ 3 ((ns.length+b.length-1:Nat):Int) ((ns++b).length:Int)])=((ns++b)++[AJ 0 0 0])++[AJ 3 ((ns.length+b.length-1:Nat):Int) ((ns++b).length:Int)]:=by{simp[zN]};rw[e];refine⟨AJ 3 ((ns.length+b.length-1:Nat):Int) ((ns++b).length:Int),ns.length+b.length-1,(ns++b).length,?_,rfl,rfl,rfl,t.more.more,⟨AJ 0 0 0,II (Od _ _),rfl⟩⟩;have:=Od ((ns++b)++[AJ 0 0 0]) (AJ 3 ((ns.length+b.length-1:Nat):Int) ((ns++b).length:Int));rw[show ns.length+(b++[AJ 0 0 0]++[AJ 3 ((ns.length+b.length-1:Nat):Int) ((ns++b).length:Int)]).length-1=((ns++b)++[AJ 0 0 0]).length by simp only[M_,i_];omega];exact this};{have e:ns++(b++[AJ 0 0 0]++[AJ 3 ((ns.length+b.length-1:Nat):Int) ((ns++b).length:Int)])=((ns++b)++[AJ 0 0 0])++[AJ 3 ((ns.length+b.length-1:Nat):Int) ((ns++b).length:Int)]:=by{simp[zN]};rw[e];exact l}
end
def rO(r:ReM)(m k:Nat):ReM:=(Cr r m k).getD .eps
def MM(r:ReM)(m:Nat):rO r m 1=if 0<m then r else B8 r:=rfl
def Jp(r:ReM)(m k:Nat)(h:1<=k):rO r m (k+1)= .cat (rO r m k) (if k<m then r else B8 r):=DV r m k h
def Sf(r:ReM)(m:Nat){k:Nat}(h:1<=k):∀j,(rO r m k).nodes<=(rO r m (k+j)).nodes
 | 0=>N_ _
 | j+1=>by
   have a:=Sf r m h j;have e:(rO r m (k+(j+1))).nodes=1+(rO r m (k+j)).nodes+(if k+j<m then r else B8 r).nodes:=by
    rw[(zO:k+(j+1)=(k+j)+1),Jp r m (k+j) zO];rfl
   omega
section
variable{B:Nat->Prop}{H0 H:Aa}{bb c:Nat}{a:Option Addr}{ns:List o_}{AE:Int}{rest:List Pc}
structure UnI(B:Nat->Prop)(H0:Aa)(bb:Nat)(AE:Int)(rest:List Pc)(ns:List o_)(r:ReM)(m k:Nat)(out:Int)(G:Aa):Prop where
 ex:∃(ms:List o_) (a:Option Addr) (c:Nat),(k=0->ms=[]/\out= -1)/\(0<k->ms.length=(rO r m k).nodes/\U7 (rO r m k) ms/\out=((ns.length+ms.length-1:Nat):Int)/\Bj (ns++ms) (rO r m k) (ns.length+ms.length-1))/\B_ B H0 G (reP bb a c (ns++ms) AE rest)
def Gi{g r2:ReM}{a b:List o_}{op:Int}{R:ReM}{G:Aa}{a':Option Addr}{c':Nat}(l:a.length=g.nodes)(m:U7 g a)(n:b.length=r2.nodes)(o:U7 r2 b)(p:R.plain=zW->g.plain=zW/\r2.plain=zW/\op≠5/\op≠6)
  (z:R.nodes=1+g.nodes+r2.nodes)
  (q:∀c d j k,c[ns.length+(a++b++[d]).length-1]?=zY d->d=AJ op ((j:Nat):Int) ((k:Nat):Int)->Bj c g j->Bj c r2 k->Bj c R (ns.length+(a++b++[d]).length-1))
  (r:Bj (ns++a) g (ns.length+a.length-1)) (s:Bj (ns++a++b) r2 ((ns++a).length+b.length-1))
  (i:B_ B H0 G (reP bb a' c' (ns++a++b++[AJ op ((ns.length+a.length-1:Nat):Int) (((ns++a).length+b.length-1:Nat):Int)]) AE rest)):
  GrP B H0 bb AE rest ns R (.int .i64 ((ns++a++b).length:Int)) G:=by
 have p1:=B9 g;have p2:=B9 r2;obtain⟨d,h⟩:∃d,d=AJ op ((ns.length+a.length-1:Nat):Int) (((ns++a).length+b.length-1:Nat):Int):=⟨_,rfl⟩;rw[<-h]at i;have e:ns++(a++b++[d])=ns++a++b++[d]:=by simp[zN]
 refine⟨a++b++[d],a',c',?_,?_,?_,?_,?_⟩;{simp only[M_,i_,l,n];omega};{intro t x f;have⟨u,v,w,y⟩:=p t;simp only[X',g_]at f;rcases f with(f | f) | f;{exact m u x f};{exact o v x f};{rw[f,h];exact⟨w,y⟩}};{congr 1;simp only[M_,i_];omega};{rw[e];refine q _ d _ _ ?_ h r.more.more s.more;rw[show ns.length+(a++b++[d]).length-1=(ns++a++b).length by simp only[M_,i_];omega];exact Od _ _};{rw[e];exact i}
def OZ{b:ReM}{a:List o_}{G:Aa}{a':Option Addr}{c':Nat}(d:a.length=b.nodes)(f:U7 b a)(g:Bj (ns++a) b (ns.length+a.length-1))
  (h:B_ B H0 G (reP bb a' c' (ns++a++[AJ 4 ((ns.length+a.length-1:Nat):Int) 0]) AE rest)):
  GrP B H0 bb AE rest ns (.star b) (.int .i64 ((ns++a).length:Int)) G:=by
 have p1:=B9 b;have e:ns++(a++[AJ 4 ((ns.length+a.length-1:Nat):Int) 0])=ns++a++[AJ 4 ((ns.length+a.length-1:Nat):Int) 0]:=by simp[zN]
 refine⟨a++[AJ 4 ((ns.length+a.length-1:Nat):Int) 0],a',c',?_,?_,?_,?_,?_⟩;{simp only[M_,i_,d,ReM.nodes];omega};{intro i x c;simp only[X',g_]at c;rcases c with c | rfl;{exact f i x c};{exact⟨show(4:Int)≠5 by decide,show(4:Int)≠6 by decide⟩}};{congr 1;simp only[M_,i_];omega};{rw[e];refine⟨AJ 4 ((ns.length+a.length-1:Nat):Int) 0,ns.length+a.length-1,?_,rfl,rfl,g.more⟩;rw[show ns.length+(a++[AJ 4 ((ns.length+a.length-1:Nat):Int) 0]).length-1=(ns++a).length by simp only[M_,i_];omega];exact Od _ _};{rw[e];exact h}
def W7{G:Aa}{a':Option Addr}{c':Nat}(a:B_ B H0 G (reP bb a' c' (ns++[AJ 0 0 0]) AE rest)):GrP B H0 bb AE rest ns .eps (.int .i64 (ns.length:Int)) G:=
 ⟨[AJ 0 0 0],a',c',rfl,λ_ x b=>by rcases g_.1 b with rfl;exact⟨show(0:Int)≠5 by decide,show(0:Int)≠6 by decide⟩,zZ,⟨AJ 0 0 0,zZ,rfl⟩,a⟩
def GrP.drop{b:List Pc}{v:v_}{G:Aa}(h:GrP B H0 bb AE (rest++b) ns r v G):GrP B H0 bb AE rest ns r v G:=by have⟨a,c,d,e,hs,f,g,i⟩:=h;exact⟨a,c,d,e,hs,f,g,i.subl (List.Sublist.cons_cons _ (List.Sublist.cons_cons _ (List.sublist_append_left _ _)))⟩
def fU(IH:U3 w){na:Option Addr}{nc i:Nat}{ds:List o_}{ws:List RwM}{m n:Int}(hR:Raw ds ws)(hd:b_ wE B H0 na nc ds)(hB:∀k,B k->k<H0.size)(hw:ws[i]?=zY w)(W:VR m n)(hl:ns.length+(C3 w.den (Bc m) n).nodes<=4194304)(st:B_ B H0 H (reP bb a c ns AE rest)):
  Aj prog 136 #[.slice na ds.length nc,.agg (d_ (Cq (i:Int) m n)).toArray,Y_ bb] H (GrP B H0 bb AE rest ns (C3 w.den (Bc m) n)):=by
 have b5:Bc m<=255:=by unfold Bc;split<;>rcases W with h | h<;>omega
 have ay:n<=255:=by rcases W with h | h<;>omega
 have az: -1<=n:=by rcases W with h | h<;>omega
 have b6:0<=n->((Bc m:Nat):Int)<=n:=by intro V;unfold Bc;rcases W with h | h<;>split<;>omega
 have b0:=B9 w.den;refine Aj.of_vc func136 rfl (call136 _) (Cd (d_ (Cq (i:Int) m n)) rfl ?_);intro x H1 hx p am ao;have J_:=st.box hx p am ao;replace J_:B_ B H0 H1 (reP bb a c ns AE (rest++[pB 159 x (d_ (Cq (i:Int) m n))])):=J_;refine F_ Wu ?_;refine D_ (v:=A_ m) E_ (by rw[(J_.blk _ (S_ (_::_::rest) _ 0)).cell,K_];exact qX _) zA ?_;(conv=>whnf);refine Au.cut [7] (λ_:Unit=>[A_ ((Bc m:Nat):Int)]) (λ_ G=>B_ B H0 G (reP bb a c ns AE (rest++[pB 159 x (d_ (Cq (i:Int) m n))]))) ?_ ?_;{by_cases C:m= -2;{subst C;(conv=>whnf);exact⟨rfl,(),rfl,J_⟩};{have l:(m== -2)=zU:=beq_eq_false_iff_ne.2 C;(conv=>whnf);rw[l];(conv=>whnf);refine⟨rfl,(),?_,J_⟩;have:((Bc m:Nat):Int)=m:=by{unfold Bc;rw[G_ C];have:0<=m:=by{rcases W with h | h<;>omega};omega};rw[this]}};rintro⟨⟩ G b4 A;clear st J_ am ao;refine F_ Ib ?_;refine D_ (v:=A_ n) E_ (by rw[(A.blk _ (S_ (_::_::rest) _ 0)).cell,K_];exact Ua _) zA ?_;(conv=>whnf);by_cases b:n<0;{have l:zT (n<0)=zW:=m_ b;rw[l];by_cases V:Bc m=0;{have g:C3 w.den (Bc m) n= .star w.den:=by{unfold C3;rw[I_ b,I_ V]};rw[g]at hl ⊢;simp only[ReM.nodes]at hl;have d2:(((Bc m:Nat):Int)==0)=zW:=by{rw[V];rfl};(conv=>whnf);rw[d2];refine F_ Cg ?_;refine D_ (v:=A_ i) E_ (by rw[(A.blk _ (S_ (_::_::rest) _ 0)).cell,K_];exact GN _) zA ?_;refine Ae.mk (IH B H0 _ bb _ _ (ns) AE (rest++[pB 159 x (d_ (Cq (i:Int) m n))]) na nc i ds ws hR hd hB hw zO A) ?_;rintro _ G1 ⟨Q,a1,c1,q,p,rfl,s,ap⟩;refine Ae.mk (GC (op:=4) (x:=((ns.length+Q.length-1:Nat):Int)) (y:=0) ap (by unfold AW;omega) (Ch zO) (by unfold AW;omega) (by simp;omega)) ?_;rintro _ G2 ⟨rfl,a2,c2,aq⟩;(conv=>whnf);exact(OZ q p s aq).drop};{have d2:(((Bc m:Nat):Int)==0)=zU:=beq_eq_false_iff_ne.2 zO;(conv=>whnf);rw[d2];have ar:¬(n<0/\Bc m=0):=λh=>V h.2;clear l d2;refine F_ Ib ?_;refine D_ (v:=A_ n) E_ (by rw[(A.blk _ (S_ (_::_::rest) _ 0)).cell,K_];exact Ua _) zA ?_;(conv=>whnf);by_cases V:n=0;{have l:(n==0)=zW:=by{rw[V];rfl};have g:C3 w.den (Bc m) n= .eps:=by{unfold C3;rw[G_ zO,I_ V]};rw[g]at hl ⊢;simp only[ReM.nodes]at hl;rw[l];refine Ae.mk (GC (op:=0) (x:=0) (y:=0) A (by unfold AW;omega) (by unfold AW;omega) (by unfold AW;omega) zO) ?_;rintro _ G3 ⟨rfl,a2,c2,D⟩;(conv=>whnf);exact(W7 D).drop};{have l:(n==0)=zU:=beq_eq_false_iff_ne.2 V;rw[l];have X:n≠0:=V;have D:=A;clear A;obtain⟨K,O⟩:∃K:Nat,K=if n<0 then Bc m else n.toNat:=⟨_,rfl⟩;have au:1<=K:=by{rw[O];split<;>omega};have aw:K<=255:=by{rw[O];split<;>omega};have ax:(rO w.den (Bc m) K).nodes<=(C3 w.den (Bc m) n).nodes:=by{unfold C3;by_cases b:n<0;{rw[I_ b,G_ zO,O,I_ b];show _<=1+((Cr w.den (Bc m) (Bc m)).getD .eps).nodes+_;unfold rO;omega};{rw[G_ b,G_ X,O,G_ b];exact N_ _}};refine F_ Ib ?_;refine D_ (v:=A_ n) E_ (by rw[(D.blk _ (S_ (_::_::rest) _ 0)).cell,K_];exact Ua _) zA ?_;(conv=>whnf);refine Au.cut [8] (λ_:Unit=>[A_ K]) (λ_ G=>B_ B H0 G (reP bb a c ns AE (rest++[pB 159 x (d_ (Cq (i:Int) m n))]))) ?_ ?_;{(conv=>whnf);by_cases b:n<0;{have l:zT (n<0)=zW:=m_ b;rw[l];(conv=>whnf);exact⟨rfl,(),by rw[O,I_ b],D⟩};{have l:zT (n<0)=zU:=j_ b;rw[l];(conv=>whnf);exact⟨rfl,(),by rw[O,G_ b,gB zO],D⟩}};rintro⟨⟩ G4 a5 Y;clear D;(conv=>whnf);refine Ay.mk [9,10] (λy:Nat×Int=>match y with | (k,out)=>[A_ out,A_ k]) (λy G=>match y with | (k,out)=>k<=K/\UnI B H0 bb AE (rest++[pB 159 x (d_ (Cq (i:Int) m n))]) ns w.den (Bc m) k out G) (λy _=>match y with | (k,_)=>K-k) ?_ ?_;{(conv=>whnf);exact⟨(0,-1),rfl,q_ _,⟨[],_,_,λ_=>⟨rfl,rfl⟩,λh=>absurd h zQ,by simpa using Y⟩⟩};{rintro⟨k,out⟩ G ab ⟨hk,⟨o,a1,c1,S,P,A⟩⟩;clear Y;have t:k<K->(rO w.den (Bc m) (k+1)).nodes<=(C3 w.den (Bc m) n).nodes:=λh=>by{have:=Sf w.den (Bc m) (k:=k+1) zO (K-(k+1));rw[(zO:k+1+(K-(k+1))=K)]at this;omega};have f:k<K->(ns++o).length+(if k<Bc m then w.den else B8 w.den).nodes<=4194304:=λh=>by{have b:=t h;by_cases r:k=0;{obtain⟨rfl,-⟩:=S r;subst r;rw[MM]at b;simp only[yX];omega};{obtain⟨q,-,-,-⟩:=P zO;rw[Jp _ _ _ zO]at b;simp only[ReM.nodes]at b;simp only[M_];omega}};refine AD.m2 (λhz=>?_) (λhz=>?_);{have Z:k<K:=zO;replace t:=t Z;replace f:=f Z;(conv=>whnf);(try refine Au.run ?_);(conv=>whnf);(try refine Au.run ?_);(conv=>whnf);by_cases E:k<Bc m;{have l:zT ((k:Int)<((Bc m:Nat):Int))=zW:=l_;rw[I_ E]at f;rw[l];refine F_ Cg ?_;refine D_ (v:=A_ i) E_ (by rw[(A.blk _ (S_ (_::_::rest) _ 0)).cell,K_];exact GN _) zA ?_;refine Ae.mk (IH B H0 _ bb _ _ (ns++o) AE (rest++[pB 159 x (d_ (Cq (i:Int) m n))]) na nc i ds ws hR hd hB hw zO A) ?_;rintro _ G1 ⟨e,a2,c2,F,I,rfl,u,J⟩;have p2:=B9 (w.den);(conv=>whnf);(try refine Au.run ?_);(conv=>whnf);by_cases r:k=0;{obtain⟨rfl,rfl⟩:=S r;subst r;(conv=>whnf);rw[U_ (x:=((0:Nat):Int)+1) zO];have e1:rO w.den (Bc m) 1=w.den:=by{rw[MM];exact I_ E};refine⟨rfl,(1,_),rfl,⟨zO,⟨e,a2,c2,λh=>absurd h zQ,λ_=>?_,by simpa using J⟩⟩,by show K-1<K-0;omega⟩;rw[e1];simp only[yX]at u;exact⟨F,I,zZ,u⟩};{obtain⟨q,p,rfl,s⟩:=P zO;have z:rO w.den (Bc m) (k+1)= .cat (rO w.den (Bc m) k) (w.den):=by{rw[Jp _ _ _ zO];rw[I_ E]};have T:(rO w.den (Bc m) (k+1)).nodes=1+(rO w.den (Bc m) k).nodes+(w.den).nodes:=by{rw[z];rfl};have p1:=B9 (rO w.den (Bc m) k);have L:zT (((ns.length+o.length-1:Nat):Int)<0)=zU:=Z_;(try rw[L]);refine Ae.mk (GC (op:=2) (x:=((ns.length+o.length-1:Nat):Int)) (y:=(((ns++o).length+e.length-1:Nat):Int)) J (by unfold AW;omega) (Ch zO) (Ch (by simp;omega)) (by simp;omega)) ?_;rintro _ G2 ⟨rfl,a3,c3,U⟩;(conv=>whnf);rw[Q_ k zO];have⟨M,a4,c4,g1,gs,g2,g3,g4⟩:=Gi (R:=rO w.den (Bc m) (k+1)) q p F I (λh=>by rw[z]at h;simp only[ReM.plain,O']at h;exact⟨h.1,h.2,zQ,zQ⟩) T (λa0 d j k' b C h3 h4=>by rw[z];exact⟨d,j,k',b,by rw[C];rfl,by rw[C];rfl,by rw[C];rfl,h3,h4⟩) s u U;have N:((ns++o++e).length:Int)=((ns.length+M.length-1:Nat):Int):=by{injection g2};refine⟨rfl,(k+1,((ns++o++e).length:Int)),rfl,⟨zO,⟨M,a4,c4,λh=>absurd h zO,λ_=>⟨g1,gs,N,g3⟩,g4⟩⟩,by show K-(k+1)<K-k;omega⟩}};{have l:zT ((k:Int)<((Bc m:Nat):Int))=zU:=Z_;rw[G_ E]at f;rw[l];refine F_ Cg ?_;refine D_ (v:=A_ i) E_ (by rw[(A.blk _ (S_ (_::_::rest) _ 0)).cell,K_];exact GN _) zA ?_;refine Ae.mk (Po IH hR hd hB hw (by simp only[B8,ReM.nodes]at f;omega) A) ?_;rintro _ G1 ⟨e,a2,c2,F,I,rfl,u,J⟩;have p2:=B9 (B8 w.den);(conv=>whnf);(try refine Au.run ?_);(conv=>whnf);by_cases r:k=0;{obtain⟨rfl,rfl⟩:=S r;subst r;(conv=>whnf);rw[U_ (x:=((0:Nat):Int)+1) zO];have e1:rO w.den (Bc m) 1=B8 w.den:=by{rw[MM];exact G_ E};refine⟨rfl,(1,_),rfl,⟨zO,⟨e,a2,c2,λh=>absurd h zQ,λ_=>?_,by simpa using J⟩⟩,by show K-1<K-0;omega⟩;rw[e1];simp only[yX]at u;exact⟨F,I,zZ,u⟩};{obtain⟨q,p,rfl,s⟩:=P zO;have z:rO w.den (Bc m) (k+1)= .cat (rO w.den (Bc m) k) (B8 w.den):=by{rw[Jp _ _ _ zO];rw[G_ E]};have T:(rO w.den (Bc m) (k+1)).nodes=1+(rO w.den (Bc m) k).nodes+(B8 w.den).nodes:=by{rw[z];rfl};have p1:=B9 (rO w.den (Bc m) k);have L:zT (((ns.length+o.length-1:Nat):Int)<0)=zU:=Z_;(try rw[L]);refine Ae.mk (GC (op:=2) (x:=((ns.length+o.length-1:Nat):Int)) (y:=(((ns++o).length+e.length-1:Nat):Int)) J (by unfold AW;omega) (Ch zO) (Ch (by simp;omega)) (by simp;omega)) ?_;rintro _ G2 ⟨rfl,a3,c3,U⟩;(conv=>whnf);rw[Q_ k zO];have⟨M,a4,c4,g1,gs,g2,g3,g4⟩:=Gi (R:=rO w.den (Bc m) (k+1)) q p F I (λh=>by rw[z]at h;simp only[ReM.plain,O']at h;exact⟨h.1,h.2,zQ,zQ⟩) T (λa0 d j k' b C h3 h4=>by rw[z];exact⟨d,j,k',b,by rw[C];rfl,by rw[C];rfl,by rw[C];rfl,h3,h4⟩) s u U;have N:((ns++o++e).length:Int)=((ns.length+M.length-1:Nat):Int):=by{injection g2};refine⟨rfl,(k+1,((ns++o++e).length:Int)),rfl,⟨zO,⟨M,a4,c4,λh=>absurd h zO,λ_=>⟨g1,gs,N,g3⟩,g4⟩⟩,by show K-(k+1)<K-k;omega⟩}}};{obtain rfl:k=K:=zO;obtain⟨q,p,rfl,s⟩:=P zO;have p1:=B9 (rO w.den (Bc m) k);(conv=>whnf);(try refine Au.run ?_);refine F_ Ib ?_;refine D_ (v:=A_ n) E_ (by rw[(A.blk _ (S_ (_::_::rest) _ 0)).cell,K_];exact Ua _) zA ?_;(conv=>whnf);by_cases b:n<0;{have l:zT (n<0)=zW:=m_ b;rw[I_ b]at O;have g:C3 w.den (Bc m) n= .cat (rO w.den (Bc m) k) (.star w.den):=by{unfold C3;rw[I_ b,G_ zO,O]<;>rfl};rw[g]at hl ⊢;simp only[ReM.nodes]at hl;rw[l];refine F_ Cg ?_;refine D_ (v:=A_ i) E_ (by rw[(A.blk _ (S_ (_::_::rest) _ 0)).cell,K_];exact GN _) zA ?_;refine Ae.mk (IH B H0 _ bb _ _ (ns++o) AE (rest++[pB 159 x (d_ (Cq (i:Int) m n))]) na nc i ds ws hR hd hB hw (by simp only[M_];omega) A) ?_;rintro _ G6 ⟨Q,a6,c6,ae,ag,rfl,ah,ai⟩;refine Ae.mk (GC (op:=4) (x:=(((ns++o).length+Q.length-1:Nat):Int)) (y:=0) ai (by unfold AW;omega) (Ch (by simp only[M_];omega)) (by unfold AW;omega) (by simp only[M_];omega)) ?_;rintro _ G7 ⟨rfl,a7,c7,aj⟩;have⟨e,a8,c8,g1,gs,g2,g3,g4⟩:=OZ ae ag ah aj;have N:((ns++o++Q).length:Int)=(((ns++o).length+e.length-1:Nat):Int):=by{injection g2};rw[N];simp only[ReM.nodes]at g1;refine Ae.mk (GC (op:=2) (x:=((ns.length+o.length-1:Nat):Int)) (y:=(((ns++o).length+e.length-1:Nat):Int)) g4 (by unfold AW;omega) (Ch zO) (Ch (by simp only[M_];omega)) (by simp only[M_];omega)) ?_;rintro _ G8 ⟨rfl,a9,c9,ak⟩;(conv=>whnf);exact(Gi (R:=.cat (rO w.den (Bc m) k) (.star w.den)) q p (r2:=.star w.den) (by simp only[ReM.nodes];exact g1) gs (λh=>by simp only[ReM.plain,O']at h ⊢;exact⟨h.1,h.2,zQ,zQ⟩) rfl (λa0 d j k' b C h3 h4=>⟨d,j,k',b,by rw[C];rfl,by rw[C];rfl,by rw[C];rfl,h3,h4⟩) s g3 ak).drop};{have l:zT (n<0)=zU:=j_ b;rw[G_ b]at O;have g:C3 w.den (Bc m) n=rO w.den (Bc m) k:=by{unfold C3;rw[G_ b,G_ X,O]<;>rfl};rw[g];rw[l];(conv=>whnf);exact GrP.drop ⟨o,a1,c1,q,p,rfl,s,A⟩}}}}}};{have l:zT (n<0)=zU:=j_ b;rw[l];have ar:¬(n<0/\Bc m=0):=λh=>b h.1;clear l;refine F_ Ib ?_;refine D_ (v:=A_ n) E_ (by rw[(A.blk _ (S_ (_::_::rest) _ 0)).cell,K_];exact Ua _) zA ?_;(conv=>whnf);by_cases V:n=0;{have l:(n==0)=zW:=by{rw[V];rfl};have g:C3 w.den (Bc m) n= .eps:=by{unfold C3;rw[G_ zO,I_ V]};rw[g]at hl ⊢;simp only[ReM.nodes]at hl;rw[l];refine Ae.mk (GC (op:=0) (x:=0) (y:=0) A (by unfold AW;omega) (by unfold AW;omega) (by unfold AW;omega) zO) ?_;rintro _ G3 ⟨rfl,a2,c2,D⟩;(conv=>whnf);exact(W7 D).drop};{have l:(n==0)=zU:=beq_eq_false_iff_ne.2 V;rw[l];have X:n≠0:=V;have D:=A;clear A;obtain⟨K,O⟩:∃K:Nat,K=if n<0 then Bc m else n.toNat:=⟨_,rfl⟩;have au:1<=K:=by{rw[O];split<;>omega};have aw:K<=255:=by{rw[O];split<;>omega};have ax:(rO w.den (Bc m) K).nodes<=(C3 w.den (Bc m) n).nodes:=by{unfold C3;by_cases b:n<0;{rw[I_ b,G_ zO,O,I_ b];show _<=1+((Cr w.den (Bc m) (Bc m)).getD .eps).nodes+_;unfold rO;omega};{rw[G_ b,G_ X,O,G_ b];exact N_ _}};refine F_ Ib ?_;refine D_ (v:=A_ n) E_ (by rw[(D.blk _ (S_ (_::_::rest) _ 0)).cell,K_];exact Ua _) zA ?_;(conv=>whnf);refine Au.cut [8] (λ_:Unit=>[A_ K]) (λ_ G=>B_ B H0 G (reP bb a c ns AE (rest++[pB 159 x (d_ (Cq (i:Int) m n))]))) ?_ ?_;{(conv=>whnf);by_cases b:n<0;{have l:zT (n<0)=zW:=m_ b;rw[l];(conv=>whnf);exact⟨rfl,(),by rw[O,I_ b],D⟩};{have l:zT (n<0)=zU:=j_ b;rw[l];(conv=>whnf);exact⟨rfl,(),by rw[O,G_ b,gB zO],D⟩}};rintro⟨⟩ G4 a5 Y;clear D;(conv=>whnf);refine Ay.mk [9,10] (λy:Nat×Int=>match y with | (k,out)=>[A_ out,A_ k]) (λy G=>match y with | (k,out)=>k<=K/\UnI B H0 bb AE (rest++[pB 159 x (d_ (Cq (i:Int) m n))]) ns w.den (Bc m) k out G) (λy _=>match y with | (k,_)=>K-k) ?_ ?_;{(conv=>whnf);exact⟨(0,-1),rfl,q_ _,⟨[],_,_,λ_=>⟨rfl,rfl⟩,λh=>absurd h zQ,by simpa using Y⟩⟩};{rintro⟨k,out⟩ G ab ⟨hk,⟨o,a1,c1,S,P,A⟩⟩;clear Y;have t:k<K->(rO w.den (Bc m) (k+1)).nodes<=(C3 w.den (Bc m) n).nodes:=λh=>by{have:=Sf w.den (Bc m) (k:=k+1) zO (K-(k+1));rw[(zO:k+1+(K-(k+1))=K)]at this;omega};have f:k<K->(ns++o).length+(if k<Bc m then w.den else B8 w.den).nodes<=4194304:=λh=>by{have b:=t h;by_cases r:k=0;{obtain⟨rfl,-⟩:=S r;subst r;rw[MM]at b;simp only[yX];omega};{obtain⟨q,-,-,-⟩:=P zO;rw[Jp _ _ _ zO]at b;simp only[ReM.nodes]at b;simp only[M_];omega}};refine AD.m2 (λhz=>?_) (λhz=>?_);{have Z:k<K:=zO;replace t:=t Z;replace f:=f Z;(conv=>whnf);(try refine Au.run ?_);(conv=>whnf);(try refine Au.run ?_);(conv=>whnf);by_cases E:k<Bc m;{have l:zT ((k:Int)<((Bc m:Nat):Int))=zW:=l_;rw[I_ E]at f;rw[l];refine F_ Cg ?_;refine D_ (v:=A_ i) E_ (by rw[(A.blk _ (S_ (_::_::rest) _ 0)).cell,K_];exact GN _) zA ?_;refine Ae.mk (IH B H0 _ bb _ _ (ns++o) AE (rest++[pB 159 x (d_ (Cq (i:Int) m n))]) na nc i ds ws hR hd hB hw zO A) ?_;rintro _ G1 ⟨e,a2,c2,F,I,rfl,u,J⟩;have p2:=B9 (w.den);(conv=>whnf);(try refine Au.run ?_);(conv=>whnf);by_cases r:k=0;{obtain⟨rfl,rfl⟩:=S r;subst r;(conv=>whnf);rw[U_ (x:=((0:Nat):Int)+1) zO];have e1:rO w.den (Bc m) 1=w.den:=by{rw[MM];exact I_ E};refine⟨rfl,(1,_),rfl,⟨zO,⟨e,a2,c2,λh=>absurd h zQ,λ_=>?_,by simpa using J⟩⟩,by show K-1<K-0;omega⟩;rw[e1];simp only[yX]at u;exact⟨F,I,zZ,u⟩};{obtain⟨q,p,rfl,s⟩:=P zO;have z:rO w.den (Bc m) (k+1)= .cat (rO w.den (Bc m) k) (w.den):=by{rw[Jp _ _ _ zO];rw[I_ E]};have T:(rO w.den (Bc m) (k+1)).nodes=1+(rO w.den (Bc m) k).nodes+(w.den).nodes:=by{rw[z];rfl};have p1:=B9 (rO w.den (Bc m) k);have L:zT (((ns.length+o.length-1:Nat):Int)<0)=zU:=Z_;(try rw[L]);refine Ae.mk (GC (op:=2) (x:=((ns.length+o.length-1:Nat):Int)) (y:=(((ns++o).length+e.length-1:Nat):Int)) J (by unfold AW;omega) (Ch zO) (Ch (by simp;omega)) (by simp;omega)) ?_;rintro _ G2 ⟨rfl,a3,c3,U⟩;(conv=>whnf);rw[Q_ k zO];have⟨M,a4,c4,g1,gs,g2,g3,g4⟩:=Gi (R:=rO w.den (Bc m) (k+1)) q p F I (λh=>by rw[z]at h;simp only[ReM.plain,O']at h;exact⟨h.1,h.2,zQ,zQ⟩) T (λa0 d j k' b C h3 h4=>by rw[z];exact⟨d,j,k',b,by rw[C];rfl,by rw[C];rfl,by rw[C];rfl,h3,h4⟩) s u U;have N:((ns++o++e).length:Int)=((ns.length+M.length-1:Nat):Int):=by{injection g2};refine⟨rfl,(k+1,((ns++o++e).length:Int)),rfl,⟨zO,⟨M,a4,c4,λh=>absurd h zO,λ_=>⟨g1,gs,N,g3⟩,g4⟩⟩,by show K-(k+1)<K-k;omega⟩}};{have l:zT ((k:Int)<((Bc m:Nat):Int))=zU:=Z_;rw[G_ E]at f;rw[l];refine F_ Cg ?_;refine D_ (v:=A_ i) E_ (by rw[(A.blk _ (S_ (_::_::rest) _ 0)).cell,K_];exact GN _) zA ?_;refine Ae.mk (Po IH hR hd hB hw (by simp only[B8,ReM.nodes]at f;omega) A) ?_;rintro _ G1 ⟨e,a2,c2,F,I,rfl,u,J⟩;have p2:=B9 (B8 w.den);(conv=>whnf);(try refine Au.run ?_);(conv=>whnf);by_cases r:k=0;{obtain⟨rfl,rfl⟩:=S r;subst r;(conv=>whnf);rw[U_ (x:=((0:Nat):Int)+1) zO];have e1:rO w.den (Bc m) 1=B8 w.den:=by{rw[MM];exact G_ E};refine⟨rfl,(1,_),rfl,⟨zO,⟨e,a2,c2,λh=>absurd h zQ,λ_=>?_,by simpa using J⟩⟩,by show K-1<K-0;omega⟩;rw[e1];simp only[yX]at u;exact⟨F,I,zZ,u⟩};{obtain⟨q,p,rfl,s⟩:=P zO;have z:rO w.den (Bc m) (k+1)= .cat (rO w.den (Bc m) k) (B8 w.den):=by{rw[Jp _ _ _ zO];rw[G_ E]};have T:(rO w.den (Bc m) (k+1)).nodes=1+(rO w.den (Bc m) k).nodes+(B8 w.den).nodes:=by{rw[z];rfl};have p1:=B9 (rO w.den (Bc m) k);have L:zT (((ns.length+o.length-1:Nat):Int)<0)=zU:=Z_;(try rw[L]);refine Ae.mk (GC (op:=2) (x:=((ns.length+o.length-1:Nat):Int)) (y:=(((ns++o).length+e.length-1:Nat):Int)) J (by unfold AW;omega) (Ch zO) (Ch (by simp;omega)) (by simp;omega)) ?_;rintro _ G2 ⟨rfl,a3,c3,U⟩;(conv=>whnf);rw[Q_ k zO];have⟨M,a4,c4,g1,gs,g2,g3,g4⟩:=Gi (R:=rO w.den (Bc m) (k+1)) q p F I (λh=>by rw[z]at h;simp only[ReM.plain,O']at h;exact⟨h.1,h.2,zQ,zQ⟩) T (λa0 d j k' b C h3 h4=>by rw[z];exact⟨d,j,k',b,by rw[C];rfl,by rw[C];rfl,by rw[C];rfl,h3,h4⟩) s u U;have N:((ns++o++e).length:Int)=((ns.length+M.length-1:Nat):Int):=by{injection g2};refine⟨rfl,(k+1,((ns++o++e).length:Int)),rfl,⟨zO,⟨M,a4,c4,λh=>absurd h zO,λ_=>⟨g1,gs,N,g3⟩,g4⟩⟩,by show K-(k+1)<K-k;omega⟩}}};{obtain rfl:k=K:=zO;obtain⟨q,p,rfl,s⟩:=P zO;have p1:=B9 (rO w.den (Bc m) k);(conv=>whnf);(try refine Au.run ?_);refine F_ Ib ?_;refine D_ (v:=A_ n) E_ (by rw[(A.blk _ (S_ (_::_::rest) _ 0)).cell,K_];exact Ua _) zA ?_;(conv=>whnf);by_cases b:n<0;{have l:zT (n<0)=zW:=m_ b;rw[I_ b]at O;have g:C3 w.den (Bc m) n= .cat (rO w.den (Bc m) k) (.star w.den):=by{unfold C3;rw[I_ b,G_ zO,O]<;>rfl};rw[g]at hl ⊢;simp only[ReM.nodes]at hl;rw[l];refine F_ Cg ?_;refine D_ (v:=A_ i) E_ (by rw[(A.blk _ (S_ (_::_::rest) _ 0)).cell,K_];exact GN _) zA ?_;refine Ae.mk (IH B H0 _ bb _ _ (ns++o) AE (rest++[pB 159 x (d_ (Cq (i:Int) m n))]) na nc i ds ws hR hd hB hw (by simp only[M_];omega) A) ?_;rintro _ G6 ⟨Q,a6,c6,ae,ag,rfl,ah,ai⟩;refine Ae.mk (GC (op:=4) (x:=(((ns++o).length+Q.length-1:Nat):Int)) (y:=0) ai (by unfold AW;omega) (Ch (by simp only[M_];omega)) (by unfold AW;omega) (by simp only[M_];omega)) ?_;rintro _ G7 ⟨rfl,a7,c7,aj⟩;have⟨e,a8,c8,g1,gs,g2,g3,g4⟩:=OZ ae ag ah aj;have N:((ns++o++Q).length:Int)=(((ns++o).length+e.length-1:Nat):Int):=by{injection g2};rw[N];simp only[ReM.nodes]at g1;refine Ae.mk (GC (op:=2) (x:=((ns.length+o.length-1:Nat):Int)) (y:=(((ns++o).length+e.length-1:Nat):Int)) g4 (by unfold AW;omega) (Ch zO) (Ch (by simp only[M_];omega)) (by simp only[M_];omega)) ?_;rintro _ G8 ⟨rfl,a9,c9,ak⟩;(conv=>whnf);exact(Gi (R:=.cat (rO w.den (Bc m) k) (.star w.den)) q p (r2:=.star w.den) (by simp only[ReM.nodes];exact g1) gs (λh=>by simp only[ReM.plain,O']at h ⊢;exact⟨h.1,h.2,zQ,zQ⟩) rfl (λa0 d j k' b C h3 h4=>⟨d,j,k',b,by rw[C];rfl,by rw[C];rfl,by rw[C];rfl,h3,h4⟩) s g3 ak).drop};{have l:zT (n<0)=zU:=j_ b;rw[G_ b]at O;have g:C3 w.den (Bc m) n=rO w.den (Bc m) k:=by{unfold C3;rw[G_ b,G_ X,O]<;>rfl};rw[g];rw[l];(conv=>whnf);exact GrP.drop ⟨o,a1,c1,q,p,rfl,s,A⟩}}}}}
end
def Tx{G:Aa}{bb:Nat}{AE:Int}{rest:List Pc}{ns:List o_}{d:o_}{a':Option Addr}{c':Nat}(c:r.nodes=1)(b:d.op≠5/\d.op≠6)(e:∀a k,a[k]?=zY d->Bj a r k)(f:B_ B H0 G (reP bb a' c' (ns++[d]) AE rest)):
  GrP B H0 bb AE rest ns r (.int .i64 (ns.length:Int)) G:=
 ⟨[d],a',c',c.symm,λ_ x g=>by rcases g_.1 g with rfl;exact b,zZ,e _ _ zZ,f⟩
def aV:∀w:RwM,U3 w:=λw=>by
 induction w with
 | eps=>
   intro B H0 H bb c a ns AE rest na nc i ds ws M N T hw U O;have⟨d,C,D⟩:=M.at2 hw;refine Aj.of_vc func83 rfl (call83 _) ?_;obtain rfl:d=AJ 0 0 0:=D;refine Y' (i:=i) EO (N.frame (O.old.mono λk q=>q)) C rfl ?_;rintro b2 o2 c2 ag E ⟨rfl,S⟩;refine L_ (cs:=d_ (AJ 0 0 0)) (by rw[AA];exact Hu) E zA ?_;refine Ag _ rnZ Km rfl ?_;intro x H3 hx F G I;have J:=O.box hx F G I;refine A9 (cs:=d_ (AJ 0 0 0)) J _ (by rw[AA];rfl) (S_ (_::_::rest) _ 0) (by rw[AA,BJ];decide) (Cs _) λH4 b=>?_;rw[Ai (show(d_ (AJ 0 0 0)).length=rnZ.length by rw[AA,BJ])]at b;replace b:B_ B H0 H4 (reP bb a c ns AE (rest++[pB 159 x (d_ (AJ 0 0 0))])):=by
    have e:=N' (pB tRe bb (zJ (.slice a ns.length c) AE)::pS wE 159 a ns.length c ns::rest) [pB 159 x rnZ] 0 (pB 159 x (d_ (AJ 0 0 0)));rw[e]at b;exact b
   have p:R_ H4 x 159 (d_ (AJ 0 0 0)):=b.blk _ (S_ (_::_::rest) _ 0);refine F_ BM ?_;refine D_ (v:=A_ (AJ 0 0 0).op) E_ (by rw[p.cell];exact Di _) zA ?_;(conv=>whnf);try refine Au.run ?_
   (conv=>whnf);try refine Au.run ?_
   have bl:=(b.blk 0 rfl).lt;have f1:bb≠x:=λe=>b.apart2 (i:=0) (j:=(pB tRe bb (zJ (.slice a ns.length c) AE)::pS wE 159 a ns.length c ns::rest).length+0) rfl (S_ (_::_::rest) _ 0) zZ bb rfl e;refine Ap.heldZ (λk=>k=bb\/k=x) [14] (sq [0,1,2,3,4,5,6,7,8,9] (.f 10 (.f 11 (sq [12,13] (.f 14 .e))))) rfl zX (F_ EI ?_);refine D_ (v:=.slice a ns.length c) Ee ((b.blk 0 rfl).ce rfl) (.inl rfl) ?_;refine F_ BM ?_;refine D_ (v:=A_ (AJ 0 0 0).op) E_ (by rw[p.cell];exact Di _) (.inr rfl) ?_;refine F_ RA ?_;refine L_ (cs:=Av (0#256)) (by rw[Ax];exact Nf) (p.cells (o:=0+1) λj v hv=>V7 (AJ 0 0 0) j v hv) (.inr rfl) ?_;refine MO 0 (0#256) (As EO (d_ (AJ 0 0 0)) rfl (AA _) zQ zQ ?_);intro z H5 hz ao ai aj;have V:=b.skip hz aj;have ak:R_ H5 x 159 (d_ (AJ 0 0 0)):=V.blk _ (S_ (_::_::rest) _ 0);refine⟨λk q=>by
    rcases q with q | q
    ·rw[show k=bb from q];exact(V.blk 0 rfl).trans (b.blk 0 rfl).symm
    ·rw[show k=x from q];exact ak.trans p.symm,?_⟩
   refine OA (ys:=[AJ 0 0 0]) V 1 EO rfl (ai.cells (o:=0) (cs:=d_ (AJ 0 0 0)) λj v hv=>by rw[K_];exact hv) (Ty.reps_one ⟨rfl,S⟩) rfl (λu hu=>zM.1 (Cs _) u hu) (by simp[RwM.den,ReM.nodes]at U ⊢;omega) zQ λa9 c9 H9 P ap=>?_;have el:ns.length+[AJ 0 0 0].length=(ns++[AJ 0 0 0]).length:=zZ
   rw[el]at P ⊢;have am:R_ H9 x 159 (d_ (AJ 0 0 0)):=P.blk _ (S_ (_::_::rest) _ 0);refine⟨λk q=>by
    rcases q with q | q
    ·rw[show k=bb from q];exact(P.blk 0 rfl).trans (b.blk 0 rfl).symm
    ·rw[show k=x from q];exact am.trans p.symm,?_⟩
   refine F_ EI (AZ P 0 Ee rfl (zQ:0<2) rfl λH10 A=>(F_ EI ?_));refine lT (v:=.slice a9 (ns++[AJ 0 0 0]).length c9) Ee ((A.blk 0 rfl).ce rfl) ?_;have W:IntKind.wrap .i64 (((ns++[AJ 0 0 0]).length:Int)-1)=(ns.length:Int):=by
    simp only[RwM.den,ReM.nodes]at U;rw[M_,i_,yE zO zO];omega
   (conv=>whnf);rw[W];(conv=>whnf);replace A:B_ B H0 H10 (reP bb a9 c9 (ns++[AJ 0 0 0]) AE (rest++[pB 159 x (d_ (AJ 0 0 0))])):=A;exact(Tx (r:=.eps) rfl ⟨show(0:Int)≠5 by decide,show(0:Int)≠6 by decide⟩ (λah k h=>⟨_,h,rfl⟩) A).drop
 | cls s=>
   intro B H0 H bb c a ns AE rest na nc i ds ws M N T hw U O;have⟨d,C,D⟩:=M.at2 hw;refine Aj.of_vc func83 rfl (call83 _) ?_;obtain rfl:d=E3 s:=D;refine Y' (i:=i) EO (N.frame (O.old.mono λk q=>q)) C rfl ?_;rintro b2 o2 c2 ag E ⟨rfl,S⟩;refine L_ (cs:=d_ (E3 s)) (by rw[AA];exact Hu) E zA ?_;refine Ag _ rnZ Km rfl ?_;intro x H3 hx F G I;have J:=O.box hx F G I;refine A9 (cs:=d_ (E3 s)) J _ (by rw[AA];rfl) (S_ (_::_::rest) _ 0) (by rw[AA,BJ];decide) (Cs _) λH4 b=>?_;rw[Ai (show(d_ (E3 s)).length=rnZ.length by rw[AA,BJ])]at b;replace b:B_ B H0 H4 (reP bb a c ns AE (rest++[pB 159 x (d_ (E3 s))])):=by
    have e:=N' (pB tRe bb (zJ (.slice a ns.length c) AE)::pS wE 159 a ns.length c ns::rest) [pB 159 x rnZ] 0 (pB 159 x (d_ (E3 s)));rw[e]at b;exact b
   have p:R_ H4 x 159 (d_ (E3 s)):=b.blk _ (S_ (_::_::rest) _ 0);refine F_ BM ?_;refine D_ (v:=A_ (E3 s).op) E_ (by rw[p.cell];exact Di _) zA ?_;(conv=>whnf);try refine Au.run ?_
   (conv=>whnf);try refine Au.run ?_
   have bl:=(b.blk 0 rfl).lt;have f1:bb≠x:=λe=>b.apart2 (i:=0) (j:=(pB tRe bb (zJ (.slice a ns.length c) AE)::pS wE 159 a ns.length c ns::rest).length+0) rfl (S_ (_::_::rest) _ 0) zZ bb rfl e;refine Ap.heldZ (λk=>k=bb\/k=x) [14] (sq [0,1,2,3,4,5,6,7,8,9] (.f 10 (.f 11 (sq [12,13] (.f 14 .e))))) rfl zX (F_ EI ?_);refine D_ (v:=.slice a ns.length c) Ee ((b.blk 0 rfl).ce rfl) (.inl rfl) ?_;refine F_ BM ?_;refine D_ (v:=A_ (E3 s).op) E_ (by rw[p.cell];exact Di _) (.inr rfl) ?_;refine F_ RA ?_;refine L_ (cs:=Av (s)) (by rw[Ax];exact Nf) (p.cells (o:=0+1) λj v hv=>V7 (E3 s) j v hv) (.inr rfl) ?_;refine MO 1 (s) (As EO (d_ (E3 s)) rfl (AA _) zQ zQ ?_);intro z H5 hz ao ai aj;have V:=b.skip hz aj;have ak:R_ H5 x 159 (d_ (E3 s)):=V.blk _ (S_ (_::_::rest) _ 0);refine⟨λk q=>by
    rcases q with q | q
    ·rw[show k=bb from q];exact(V.blk 0 rfl).trans (b.blk 0 rfl).symm
    ·rw[show k=x from q];exact ak.trans p.symm,?_⟩
   refine OA (ys:=[E3 s]) V 1 EO rfl (ai.cells (o:=0) (cs:=d_ (E3 s)) λj v hv=>by rw[K_];exact hv) (Ty.reps_one ⟨rfl,S⟩) rfl (λu hu=>zM.1 (Cs _) u hu) (by simp[RwM.den,ReM.nodes]at U ⊢;omega) zQ λa9 c9 H9 P ap=>?_;have el:ns.length+[E3 s].length=(ns++[E3 s]).length:=zZ
   rw[el]at P ⊢;have am:R_ H9 x 159 (d_ (E3 s)):=P.blk _ (S_ (_::_::rest) _ 0);refine⟨λk q=>by
    rcases q with q | q
    ·rw[show k=bb from q];exact(P.blk 0 rfl).trans (b.blk 0 rfl).symm
    ·rw[show k=x from q];exact am.trans p.symm,?_⟩
   refine F_ EI (AZ P 0 Ee rfl (zQ:0<2) rfl λH10 A=>(F_ EI ?_));refine lT (v:=.slice a9 (ns++[E3 s]).length c9) Ee ((A.blk 0 rfl).ce rfl) ?_;have W:IntKind.wrap .i64 (((ns++[E3 s]).length:Int)-1)=(ns.length:Int):=by
    simp only[RwM.den,ReM.nodes]at U;rw[M_,i_,yE zO zO];omega
   (conv=>whnf);rw[W];(conv=>whnf);replace A:B_ B H0 H10 (reP bb a9 c9 (ns++[E3 s]) AE (rest++[pB 159 x (d_ (E3 s))])):=A;exact(Tx (r:=.cls s) rfl ⟨show(1:Int)≠5 by decide,show(1:Int)≠6 by decide⟩ (λah k h=>⟨_,h,rfl,rfl⟩) A).drop
 | cat W w2 X Y=>
   intro B H0 H bb c a ns AE rest na nc i ds ws M N T hw U O;have⟨d,C,D⟩:=M.at2 hw;refine Aj.of_vc func83 rfl (call83 _) ?_;obtain⟨g,l,rfl,Q,Z⟩:=D;simp only[RwM.den,ReM.nodes]at U;refine Y' (i:=i) EO (N.frame (O.old.mono λk q=>q)) C rfl ?_;rintro b2 o2 c2 ag E ⟨rfl,S⟩;refine L_ (cs:=d_ (AJ 2 (g:Int) (l:Int))) (by rw[AA];exact Hu) E zA ?_;refine Ag _ rnZ Km rfl ?_;intro x H3 hx F G I;have J:=O.box hx F G I;refine A9 (cs:=d_ (AJ 2 (g:Int) (l:Int))) J _ (by rw[AA];rfl) (S_ (_::_::rest) _ 0) (by rw[AA,BJ];decide) (Cs _) λH4 b=>?_;rw[Ai (show(d_ (AJ 2 (g:Int) (l:Int))).length=rnZ.length by rw[AA,BJ])]at b;replace b:B_ B H0 H4 (reP bb a c ns AE (rest++[pB 159 x (d_ (AJ 2 (g:Int) (l:Int)))])):=by
    have e:=N' (pB tRe bb (zJ (.slice a ns.length c) AE)::pS wE 159 a ns.length c ns::rest) [pB 159 x rnZ] 0 (pB 159 x (d_ (AJ 2 (g:Int) (l:Int))));rw[e]at b;exact b
   have p:R_ H4 x 159 (d_ (AJ 2 (g:Int) (l:Int))):=b.blk _ (S_ (_::_::rest) _ 0);refine F_ BM ?_;refine D_ (v:=A_ (AJ 2 (g:Int) (l:Int)).op) E_ (by rw[p.cell];exact Di _) zA ?_;(conv=>whnf);try refine Au.run ?_
   (conv=>whnf);try refine Au.run ?_
   refine F_ Cg ?_;refine D_ (v:=A_ g) E_ (by rw[(b.blk _ (S_ (_::_::rest) _ 0)).cell,K_];exact GN _) zA ?_;refine Ae.mk (X B H0 _ bb _ _ ns AE (rest++[pB 159 x (d_ (AJ 2 (g:Int) (l:Int)))]) na nc g ds ws M N T Q zO b) ?_;rintro _ G1 ⟨t,a1,c1,a0,a4,rfl,a5,K⟩;refine F_ DY ?_;refine D_ (v:=A_ l) E_ (by rw[(K.blk _ (S_ (_::_::rest) _ 0)).cell,K_];exact Mn _) zA ?_;refine Ae.mk (Y B H0 _ bb _ _ (ns++t) AE (rest++[pB 159 x (d_ (AJ 2 (g:Int) (l:Int)))]) na nc l ds ws M N T Z (by simp only[M_];omega) K) ?_;rintro _ G2 ⟨a6,a2,c2,a7,a8,rfl,ab,L⟩;have p1:=B9 W.den;have p2:=B9 w2.den;refine F_ BM ?_;refine D_ (v:=A_ (AJ 2 (g:Int) (l:Int)).op) E_ (by rw[(L.blk _ (S_ (_::_::rest) _ 0)).cell];exact Di _) zA ?_;refine Ae.mk (GC (op:=2) (x:=((ns.length+t.length-1:Nat):Int)) (y:=(((ns++t).length+a6.length-1:Nat):Int)) L (by unfold AW;omega) (Ch zO) (Ch (by simp only[M_];omega)) (by simp only[M_];omega)) ?_;rintro _ G3 ⟨rfl,a3,c3,ae⟩;(conv=>whnf);exact(Gi (R:=.cat W.den w2.den) a0 a4 a7 a8 (λh=>by simp only[ReM.plain,O']at h;exact⟨h.1,h.2,zQ,zQ⟩) rfl (λah d j k' h1 h2 h3 h4=>⟨d,j,k',h1,by rw[h2];rfl,by rw[h2];rfl,by rw[h2];rfl,h3,h4⟩) a5 ab ae).drop
 | alt W w2 X Y=>
   intro B H0 H bb c a ns AE rest na nc i ds ws M N T hw U O;have⟨d,C,D⟩:=M.at2 hw;refine Aj.of_vc func83 rfl (call83 _) ?_;obtain⟨g,l,rfl,Q,Z⟩:=D;simp only[RwM.den,ReM.nodes]at U;refine Y' (i:=i) EO (N.frame (O.old.mono λk q=>q)) C rfl ?_;rintro b2 o2 c2 ag E ⟨rfl,S⟩;refine L_ (cs:=d_ (AJ 3 (g:Int) (l:Int))) (by rw[AA];exact Hu) E zA ?_;refine Ag _ rnZ Km rfl ?_;intro x H3 hx F G I;have J:=O.box hx F G I;refine A9 (cs:=d_ (AJ 3 (g:Int) (l:Int))) J _ (by rw[AA];rfl) (S_ (_::_::rest) _ 0) (by rw[AA,BJ];decide) (Cs _) λH4 b=>?_;rw[Ai (show(d_ (AJ 3 (g:Int) (l:Int))).length=rnZ.length by rw[AA,BJ])]at b;replace b:B_ B H0 H4 (reP bb a c ns AE (rest++[pB 159 x (d_ (AJ 3 (g:Int) (l:Int)))])):=by
    have e:=N' (pB tRe bb (zJ (.slice a ns.length c) AE)::pS wE 159 a ns.length c ns::rest) [pB 159 x rnZ] 0 (pB 159 x (d_ (AJ 3 (g:Int) (l:Int))));rw[e]at b;exact b
   have p:R_ H4 x 159 (d_ (AJ 3 (g:Int) (l:Int))):=b.blk _ (S_ (_::_::rest) _ 0);refine F_ BM ?_;refine D_ (v:=A_ (AJ 3 (g:Int) (l:Int)).op) E_ (by rw[p.cell];exact Di _) zA ?_;(conv=>whnf);try refine Au.run ?_
   (conv=>whnf);try refine Au.run ?_
   refine F_ Cg ?_;refine D_ (v:=A_ g) E_ (by rw[(b.blk _ (S_ (_::_::rest) _ 0)).cell,K_];exact GN _) zA ?_;refine Ae.mk (X B H0 _ bb _ _ ns AE (rest++[pB 159 x (d_ (AJ 3 (g:Int) (l:Int)))]) na nc g ds ws M N T Q zO b) ?_;rintro _ G1 ⟨t,a1,c1,a0,a4,rfl,a5,K⟩;refine F_ DY ?_;refine D_ (v:=A_ l) E_ (by rw[(K.blk _ (S_ (_::_::rest) _ 0)).cell,K_];exact Mn _) zA ?_;refine Ae.mk (Y B H0 _ bb _ _ (ns++t) AE (rest++[pB 159 x (d_ (AJ 3 (g:Int) (l:Int)))]) na nc l ds ws M N T Z (by simp only[M_];omega) K) ?_;rintro _ G2 ⟨a6,a2,c2,a7,a8,rfl,ab,L⟩;have p1:=B9 W.den;have p2:=B9 w2.den;refine F_ BM ?_;refine D_ (v:=A_ (AJ 3 (g:Int) (l:Int)).op) E_ (by rw[(L.blk _ (S_ (_::_::rest) _ 0)).cell];exact Di _) zA ?_;refine Ae.mk (GC (op:=3) (x:=((ns.length+t.length-1:Nat):Int)) (y:=(((ns++t).length+a6.length-1:Nat):Int)) L (by unfold AW;omega) (Ch zO) (Ch (by simp only[M_];omega)) (by simp only[M_];omega)) ?_;rintro _ G3 ⟨rfl,a3,c3,ae⟩;(conv=>whnf);exact(Gi (R:=.alt W.den w2.den) a0 a4 a7 a8 (λh=>by simp only[ReM.plain,O']at h;exact⟨h.1,h.2,zQ,zQ⟩) rfl (λah d j k' h1 h2 h3 h4=>⟨d,j,k',h1,by rw[h2];rfl,by rw[h2];rfl,by rw[h2];rfl,h3,h4⟩) a5 ab ae).drop
 | and_ W w2 X Y=>
   intro B H0 H bb c a ns AE rest na nc i ds ws M N T hw U O;have⟨d,C,D⟩:=M.at2 hw;refine Aj.of_vc func83 rfl (call83 _) ?_;obtain⟨g,l,rfl,Q,Z⟩:=D;simp only[RwM.den,ReM.nodes]at U;refine Y' (i:=i) EO (N.frame (O.old.mono λk q=>q)) C rfl ?_;rintro b2 o2 c2 ag E ⟨rfl,S⟩;refine L_ (cs:=d_ (AJ 5 (g:Int) (l:Int))) (by rw[AA];exact Hu) E zA ?_;refine Ag _ rnZ Km rfl ?_;intro x H3 hx F G I;have J:=O.box hx F G I;refine A9 (cs:=d_ (AJ 5 (g:Int) (l:Int))) J _ (by rw[AA];rfl) (S_ (_::_::rest) _ 0) (by rw[AA,BJ];decide) (Cs _) λH4 b=>?_;rw[Ai (show(d_ (AJ 5 (g:Int) (l:Int))).length=rnZ.length by rw[AA,BJ])]at b;replace b:B_ B H0 H4 (reP bb a c ns AE (rest++[pB 159 x (d_ (AJ 5 (g:Int) (l:Int)))])):=by
    have e:=N' (pB tRe bb (zJ (.slice a ns.length c) AE)::pS wE 159 a ns.length c ns::rest) [pB 159 x rnZ] 0 (pB 159 x (d_ (AJ 5 (g:Int) (l:Int))));rw[e]at b;exact b
   have p:R_ H4 x 159 (d_ (AJ 5 (g:Int) (l:Int))):=b.blk _ (S_ (_::_::rest) _ 0);refine F_ BM ?_;refine D_ (v:=A_ (AJ 5 (g:Int) (l:Int)).op) E_ (by rw[p.cell];exact Di _) zA ?_;(conv=>whnf);try refine Au.run ?_
   (conv=>whnf);try refine Au.run ?_
   refine F_ Cg ?_;refine D_ (v:=A_ g) E_ (by rw[(b.blk _ (S_ (_::_::rest) _ 0)).cell,K_];exact GN _) zA ?_;refine Ae.mk (X B H0 _ bb _ _ ns AE (rest++[pB 159 x (d_ (AJ 5 (g:Int) (l:Int)))]) na nc g ds ws M N T Q zO b) ?_;rintro _ G1 ⟨t,a1,c1,a0,a4,rfl,a5,K⟩;refine F_ DY ?_;refine D_ (v:=A_ l) E_ (by rw[(K.blk _ (S_ (_::_::rest) _ 0)).cell,K_];exact Mn _) zA ?_;refine Ae.mk (Y B H0 _ bb _ _ (ns++t) AE (rest++[pB 159 x (d_ (AJ 5 (g:Int) (l:Int)))]) na nc l ds ws M N T Z (by simp only[M_];omega) K) ?_;rintro _ G2 ⟨a6,a2,c2,a7,a8,rfl,ab,L⟩;have p1:=B9 W.den;have p2:=B9 w2.den;refine F_ BM ?_;refine D_ (v:=A_ (AJ 5 (g:Int) (l:Int)).op) E_ (by rw[(L.blk _ (S_ (_::_::rest) _ 0)).cell];exact Di _) zA ?_;refine Ae.mk (GC (op:=5) (x:=((ns.length+t.length-1:Nat):Int)) (y:=(((ns++t).length+a6.length-1:Nat):Int)) L (by unfold AW;omega) (Ch zO) (Ch (by simp only[M_];omega)) (by simp only[M_];omega)) ?_;rintro _ G3 ⟨rfl,a3,c3,ae⟩;(conv=>whnf);exact(Gi (R:=.and_ W.den w2.den) a0 a4 a7 a8 (λh=>by cases h) rfl (λah d j k' h1 h2 h3 h4=>⟨d,j,k',h1,by rw[h2];rfl,by rw[h2];rfl,by rw[h2];rfl,h3,h4⟩) a5 ab ae).drop
 | minus W w2 X Y=>
   intro B H0 H bb c a ns AE rest na nc i ds ws M N T hw U O;have⟨d,C,D⟩:=M.at2 hw;refine Aj.of_vc func83 rfl (call83 _) ?_;obtain⟨g,l,rfl,Q,Z⟩:=D;simp only[RwM.den,ReM.nodes]at U;refine Y' (i:=i) EO (N.frame (O.old.mono λk q=>q)) C rfl ?_;rintro b2 o2 c2 ag E ⟨rfl,S⟩;refine L_ (cs:=d_ (AJ 6 (g:Int) (l:Int))) (by rw[AA];exact Hu) E zA ?_;refine Ag _ rnZ Km rfl ?_;intro x H3 hx F G I;have J:=O.box hx F G I;refine A9 (cs:=d_ (AJ 6 (g:Int) (l:Int))) J _ (by rw[AA];rfl) (S_ (_::_::rest) _ 0) (by rw[AA,BJ];decide) (Cs _) λH4 b=>?_;rw[Ai (show(d_ (AJ 6 (g:Int) (l:Int))).length=rnZ.length by rw[AA,BJ])]at b;replace b:B_ B H0 H4 (reP bb a c ns AE (rest++[pB 159 x (d_ (AJ 6 (g:Int) (l:Int)))])):=by
    have e:=N' (pB tRe bb (zJ (.slice a ns.length c) AE)::pS wE 159 a ns.length c ns::rest) [pB 159 x rnZ] 0 (pB 159 x (d_ (AJ 6 (g:Int) (l:Int))));rw[e]at b;exact b
   have p:R_ H4 x 159 (d_ (AJ 6 (g:Int) (l:Int))):=b.blk _ (S_ (_::_::rest) _ 0);refine F_ BM ?_;refine D_ (v:=A_ (AJ 6 (g:Int) (l:Int)).op) E_ (by rw[p.cell];exact Di _) zA ?_;(conv=>whnf);try refine Au.run ?_
   (conv=>whnf);try refine Au.run ?_
   refine F_ Cg ?_;refine D_ (v:=A_ g) E_ (by rw[(b.blk _ (S_ (_::_::rest) _ 0)).cell,K_];exact GN _) zA ?_;refine Ae.mk (X B H0 _ bb _ _ ns AE (rest++[pB 159 x (d_ (AJ 6 (g:Int) (l:Int)))]) na nc g ds ws M N T Q zO b) ?_;rintro _ G1 ⟨t,a1,c1,a0,a4,rfl,a5,K⟩;refine F_ DY ?_;refine D_ (v:=A_ l) E_ (by rw[(K.blk _ (S_ (_::_::rest) _ 0)).cell,K_];exact Mn _) zA ?_;refine Ae.mk (Y B H0 _ bb _ _ (ns++t) AE (rest++[pB 159 x (d_ (AJ 6 (g:Int) (l:Int)))]) na nc l ds ws M N T Z (by simp only[M_];omega) K) ?_;rintro _ G2 ⟨a6,a2,c2,a7,a8,rfl,ab,L⟩;have p1:=B9 W.den;have p2:=B9 w2.den;refine F_ BM ?_;refine D_ (v:=A_ (AJ 6 (g:Int) (l:Int)).op) E_ (by rw[(L.blk _ (S_ (_::_::rest) _ 0)).cell];exact Di _) zA ?_;refine Ae.mk (GC (op:=6) (x:=((ns.length+t.length-1:Nat):Int)) (y:=(((ns++t).length+a6.length-1:Nat):Int)) L (by unfold AW;omega) (Ch zO) (Ch (by simp only[M_];omega)) (by simp only[M_];omega)) ?_;rintro _ G3 ⟨rfl,a3,c3,ae⟩;(conv=>whnf);exact(Gi (R:=.minus W.den w2.den) a0 a4 a7 a8 (λh=>by cases h) rfl (λah d j k' h1 h2 h3 h4=>⟨d,j,k',h1,by rw[h2];rfl,by rw[h2];rfl,by rw[h2];rfl,h3,h4⟩) a5 ab ae).drop
 | rep w m n ih=>
   intro B H0 H bb c a ns AE rest na nc i ds ws M N T hw U O;have⟨d,C,D⟩:=M.at2 hw;refine Aj.of_vc func83 rfl (call83 _) ?_;obtain⟨g,rfl,Q,aq⟩:=D;refine Y' (i:=i) EO (N.frame (O.old.mono λk q=>q)) C rfl ?_;rintro b2 o2 c2 ag E ⟨rfl,S⟩;refine L_ (cs:=d_ (Cq (g:Int) m n)) (by rw[AA];exact Hu) E zA ?_;refine Ag _ rnZ Km rfl ?_;intro x H3 hx F G I;have J:=O.box hx F G I;refine A9 (cs:=d_ (Cq (g:Int) m n)) J _ (by rw[AA];rfl) (S_ (_::_::rest) _ 0) (by rw[AA,BJ];decide) (Cs _) λH4 b=>?_;rw[Ai (show(d_ (Cq (g:Int) m n)).length=rnZ.length by rw[AA,BJ])]at b;replace b:B_ B H0 H4 (reP bb a c ns AE (rest++[pB 159 x (d_ (Cq (g:Int) m n))])):=by
    have e:=N' (pB tRe bb (zJ (.slice a ns.length c) AE)::pS wE 159 a ns.length c ns::rest) [pB 159 x rnZ] 0 (pB 159 x (d_ (Cq (g:Int) m n)));rw[e]at b;exact b
   have p:R_ H4 x 159 (d_ (Cq (g:Int) m n)):=b.blk _ (S_ (_::_::rest) _ 0);refine F_ BM ?_;refine D_ (v:=A_ (Cq (g:Int) m n).op) E_ (by rw[p.cell];exact Di _) zA ?_;(conv=>whnf);try refine Au.run ?_
   (conv=>whnf);try refine Au.run ?_
   refine L_ (cs:=d_ (Cq (g:Int) m n)) (by rw[AA];exact Hu) (p.cells (o:=0) λj v hv=>by rw[K_];exact hv) zA ?_;refine Ae.mk (fU ih M N T Q aq U b) ?_;intro v G1 h;(conv=>whnf);exact GrP.drop h
end Go.Proofs.YtfbghcpdinlmcaaGreatDoor
