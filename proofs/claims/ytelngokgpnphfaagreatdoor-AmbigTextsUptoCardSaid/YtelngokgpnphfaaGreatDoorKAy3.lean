import Derived.Test.YtelngokgpnphfaaGreatDoorKAy2
set_option maxHeartbeats 0
open Array renaming replicate -> ApO
open List renaming replicate -> ApG
set_option maxRecDepth 100000
open Go.Proofs.Tryz
open Go renaming Value -> v_, Program -> w_, TypeId -> x_, World -> y_, Operand -> z_
open Option renaming some -> zY, none -> zV
open Bool renaming true -> zW, false -> zU
open Decidable renaming decide -> zT
set_option linter.unusedVariables false
set_option linter.unusedSimpArgs false
set_option linter.defProp false
namespace Go.Proofs.YtelngokgpnphfaaGreatDoor
variable{x:BitVec 256}{i k c e b:Nat}{H H0:Aa}{K:Aa->Prop}{t:ByteArray}{B S:Nat->Prop}{ps:List Pc}{p:Pc}{va v:v_}{n q:Int}{f:AF}{fs:List AF}{A:x_}{a:List RwM}{w:RwM}{na:Option Addr}{r:ReM}{U:List v_}{es:List u_}{l:List Nat}
open Go.Lib
def cQ(x:BitVec 256):AV x=Fg λb=>x.getLsbD b:=by unfold AV Hl Fg;refine List.map_congr_left λb a=>?_;rw[r_ (List.mem_range.1 a),vD]
def aA{f:Nat->Bool}(h:∀b,b<256->f b=x.getLsbD b):Fg f=AV x:=by rw[cQ];exact II h
def Xo(x y:BitVec 256)(b:Nat):(x ||| y).getLsbD b=(x.getLsbD b|| y.getLsbD b):=BitVec.getLsbD_or
def YR(x:BitVec 256)(b:Nat)(a:b<256):(~~~x).getLsbD b= !x.getLsbD b:=by rw[BitVec.getLsbD_not,r_ a,vD]
def Wn(b:Nat):(0#256).getLsbD b=zU:=BitVec.getLsbD_zero
def AhL(f:Nat->Bool)(h:k<256)(v:Bool):(Fg f).set k (.bool v)=Fg λb=>if b=k then v else f b:=by apply yP;intro j;by_cases c:j<256;{rw[IJ _ c];by_cases a:k=j;{subst a;rw[yQ (by rw[DV];exact h),J_ rfl]};rw[yX a,IJ _ c,I_ (Ne.symm a)]};rw[zC (by rw[yT,DV];omega),zC (by rw[DV];omega)]
def kE(nt:Bool)(M:Sum Nat (BitVec 256×Nat)):Sum Nat (BitVec 256×Nat):=match M with
 | .inl e=>.inl e
 | .inr (x,k)=>.inr (if nt then ~~~x else x,k)
def KQ:v_:=.agg (AV 0#256).toArray
def Ip:(prog.info? 75).bind (·.zero)=zY KQ:=zX
def Hh(t:ByteArray)(i:Nat)(v:v_):Prop:=match BP t i with
 | .inl e=>v= .tuple #[KQ,A_ 0,A_ 10,A_ e]
 | .inr (x,j)=>v= .tuple #[.agg (AV x).toArray,A_ j,A_ 0,A_ 0]
def rrP(q4 q8:Nat)(x:BitVec 256):List Pc:=[pB 75 q4 (AV 0#256),pB 75 q8 (AV x)]
def uX(q4 q8:Nat)(f:Nat->Bool):List Pc:=[pB 75 q4 (AV 0#256),pB 75 q8 (Fg f)]
def GB{q4 a:Nat}{f:Nat->Bool}(h:∀b,b<256->f b=x.getLsbD b):uX q4 a f=rrP q4 a x:=by unfold uX rrP;rw[aA h]
structure MemD(H:Aa)(t:ByteArray)(q4 q8:Nat)(M:Sum Nat (BitVec 256×Nat))(y:Nat×Nat×BitVec 256)(G:Aa):Prop where
 le:y.1<=t.size
 fuel:t.size<y.2.1+y.1
 eq:F1 t y.2.1 y.1 y.2.2=M
 st:St H G (rrP q4 q8 y.2.2)
def J7(h:S_ H b 75 (AV x)):Bi H b 0 (AV x):=h.cells (λj v a=>by rw[K_];exact a)
def vF(x:BitVec 256):Gv prog 75 (AV x).length:=by rw[Bc];exact Zy
def jA(x:BitVec 256):(prog.info? 75).map (·.size)=zY (AV x).length:=by rw[Bc];rfl
def kH(x:BitVec 256):(AV x).all (·.oneCell')=zW:=IC x 256
def tO{q4:Nat}{y:BitVec 256}(x:BitVec 256)(c:St H0 H (rrP q4 b y))(k:∀Z,D_ (H_ H0) H0 Z->Bi Z q4 0 (AV x)->K Z):Co prog (Instr.storeAt 75 (U_ q4) (.agg (AV x).toArray)) H K:=AI (cs:=AV x) c 0 (jA _) rfl (by simp[Bc]) (kH _) λZ a=>k Z a.old (J7 (by have:=a.blk 0 rfl;rwa [Bo (by simp[Bc])]at this))
def rF{q4 a:Nat}{f:Nat->Bool}{v:Bool}(g:Nat->Bool)(d:St H0 H (uX q4 a f))(e:k<256)(h:∀b,b<256->(if b=k then v else f b)=g b)(i:∀Z,St H0 Z (uX q4 a g)->K Z):Co prog (Instr.storeAt 4 (.pointer (zY ⟨a,0+(k:Int).toNat*1,zV⟩)) (.bool v)) H K:=by refine Bb d 1 zE rfl (by rw[DV];omega) rfl λZ c=>i Z ?_;rw[(zO:0+(k:Int).toNat*1=k)]at c;have:=c;unfold uX at this ⊢;simp only[List.set_cons_succ,List.set_cons_zero]at this;rwa [AhL _ e,II h]at this
def dI{H:Aa}{t:ByteArray}{i:Nat}(ht:t.size<=1152921504606846976)(hi:i<t.size):
  Ai prog 23 #[.string t,A_ i] H λv H'=>D_ (H_ H) H H'/\Hh t i v:=by
 refine Ai.of_vcL func23 rfl (call23 _) ?_;have⟨b,E,F,bi⟩:=Es hi;refine Af KQ (AV 0#256) Ip rfl ?_;intro S H1 ah ai a5 aj;have F_:=(St.nil H).box ah ai a5 aj;refine Af KQ (AV 0#256) Ip rfl ?_;intro T H2 ak am a6 ao;have I:St H H2 (rrP S T 0#256):=F_.box ak am a6 ao;have d1:zT ((i:Int)<0)=zU:=g_;have d2:zT ((i:Int)>=(t.size:Int))=zU:=g_;(conv=>whnf);rw[d1];(conv=>whnf);rw[d2];refine EJ HI rfl E ?_;rw[<-F];by_cases U:bt t i=46
 ·have d3:((bt t i:Int)==(46:Int))=zW:=by rw[U];rfl
  (conv=>whnf);rw[d3];(conv=>whnf);refine A0.mk [9] (λk:Nat=>[A_ k]) (λk G=>k<=256/\St H G (uX S T λb=>zT (b<k)&& !zT (b=10))) (λk _=>256-k) ?_ ?_
  ·(conv=>whnf);exact⟨0,rfl,by omega,by rw[GB (x:=0#256) (λb z=>by rw[Wn];simp)];exact I⟩
  ·rintro k G be ⟨hk,A⟩;refine AB.m2 (λV=>?_) (λV=>?_)
   ·(conv=>whnf);try refine A7.run ?_
    have d4:((k:Int) != (10:Int))= !zT (k=10):=by
     by_cases h:k=10
     ·subst h;rfl
     ·rw[n_ h];rw[Bool.not_false,bne_iff_ne];omega
    (conv=>whnf);rw[d4];refine V' FT (by omega) (by omega) ?_;refine rF (λb=>zT (b<k+1)&& !zT (b=10)) A (by omega) (λb z=>by
     split
     ·rename_i h;subst h;rw[r_ (show b<b+1 by omega),vD]
     ·congr 1;exact decide_eq_decide.2 (by omega)) λG2 B=>?_
    (conv=>whnf);rw[R_ k (by omega)];exact⟨rfl,k+1,rfl,⟨by omega,B⟩,by omega⟩
   ·obtain rfl:k=256:=by omega
    have hx:∀b,b<256->(zT (b<256)&& !zT (b=10))=(~~~(Ba 10 10)).getLsbD b:=λb z=>by
     rw[YR _ _ z,Eo _ _ _ z,r_ z,vD]
     congr 1
     by_cases h:b=10
     ·subst h;rfl
     ·rw[n_ h];by_cases h2:10<=b
      ·rw[r_ h2,n_ (show¬b<=10 by omega)];rfl
      ·rw[n_ h2];rfl
    rw[GB hx]at A;refine lN (cs:=AV (~~~(Ba 10 10))) (vF _) (J7 (A.blk 1 rfl)) ?_;(conv=>whnf);rw[R_ i (by omega)];refine tO (~~~(Ba 10 10)) A λZ1 r s=>(L_ (vF (~~~(Ba 10 10))) s zA ?_);(conv=>whnf);exact⟨r,by rw[Hh,BP,J_ U]<;>rfl⟩
 have d3:((bt t i:Int)==(46:Int))=zU:=beq_eq_false_iff_ne.2 (by omega);(conv=>whnf);rw[d3];refine EJ HI rfl E ?_;rw[<-F];by_cases Y:bt t i=91
 case neg=>
  have d4:((bt t i:Int) != (91:Int))=zW:=by rw[bne_iff_ne];omega
  have g:BP t i=match CD t Fy i with | .inl e=>.inl e | .inr (b,k)=>.inr (Ba b b,k):=by unfold BP;rw[I_ U,I_ Y]<;>rfl
  (conv=>whnf);rw[d4];refine Al (Lr (i:=i) (inner:=zU) ht (by omega)) λH3 ap=>?_;have B:=I.call ap;unfold Uh;simp only[vT,if_false];cases Q:CD t Fy i with
  | inl e=>
    rw[Q]at g;(conv=>whnf);refine L_ (cs:=AV 0#256) (vF _) (J7 (B.blk 1 rfl)) zA (tO 0#256 B λZ1 r s=>(L_ (vF 0#256) s zA ?_));(conv=>whnf);exact⟨r,by rw[Hh,g];rfl⟩
  | inr p=>
    have⟨c,j⟩:=p;rw[Q]at g;have aq:=Fp Q;(conv=>whnf);rw[W_ (x:=(c:Int)) (by omega)];refine V' FT (by omega) (by omega) ?_;rw[<-GB (f:=λ_=>zU) (λb z=>(Wn b).symm)]at B;refine rF _ B (by omega) (λb z=>rfl) λH4 Z=>?_
    rw[GB (x:=Ba c c) (λb z=>by
        rw[Eo _ _ _ z];by_cases h:b=c
        ·subst h;simp
        ·simp only[h,if_false]
         symm
         simp only[Bool.and_eq_false_iff,qT];omega)]at Z
    refine L_ (cs:=AV (Ba c c)) (vF _) (J7 (Z.blk 1 rfl)) zA (tO (Ba c c) Z λZ1 r s=>(L_ (vF (Ba c c)) s zA ?_));(conv=>whnf);exact⟨r,by rw[Hh,g];rfl⟩
 have d4:((bt t i:Int) != (91:Int))=zU:=by rw[Y];rfl
 (conv=>whnf);rw[d4];(conv=>whnf);rw[R_ i (by omega)];have g:BP t i=Kd t (i+1):=by unfold BP;rw[I_ U,J_ Y]
 obtain⟨W,J⟩:∃W:Bool,W=zT (bt t (i+1)=94):=⟨_,rfl⟩;have a7:Kd t (i+1)=kE W (F1 t (t.size+1) (if W then i+1+1 else i+1) 0#256):=by
  unfold Kd;rw[J];by_cases h:bt t (i+1)=94
  ·simp only[h,if_true,decide_true];cases F1 t (t.size+1) (i+1+1) 0#256<;>rfl
  ·simp only[h,if_false,decide_false,vT];cases F1 t (t.size+1) (i+1) 0#256<;>rfl
 obtain⟨j0,w⟩:∃j,j=if W then i+1+1 else i+1:=⟨_,rfl⟩
 obtain⟨M,hM⟩:∃M,M=F1 t (t.size+1) j0 0#256:=⟨_,rfl⟩;rw[<-w,<-hM]at a7;rw[a7]at g;have ar:j0<=t.size:=by
  rw[w];cases R:W with
  | false=>exact hi
  | true=>
    rw[R]at J;have bj:=of_decide_eq_true J.symm;exact EU (by omega)
 by_cases a8:i+1<t.size;have⟨b1,au,aw,bm⟩:=Es a8;have d6:((bt t (i+1):Int)==(94:Int))=W:=by
  rw[J];by_cases h:bt t (i+1)=94
  ·rw[h];rfl
  ·rw[n_ h];exact beq_eq_false_iff_ne.2 (by omega)
 (conv=>whnf);rw[r_ (show(i:Int)+1<(t.size:Int) by omega)];refine EJ (i:=i+1) HI rfl au ?_;rw[<-aw];(conv=>whnf);rw[d6];(conv=>whnf);refine A7.cut [13] (λ_:Unit=>[A_ j0]) (λ_ G=>St H G (rrP S T 0#256)) ?_ ?_
 ·refine AB.mk (λR=>?_) (λR=>?_)
  ·(conv=>whnf);rw[W_ (x:=(i:Int)+1+1) (by omega)];exact⟨rfl,(),by rw[w,R];rfl,I⟩
  ·(conv=>whnf);exact⟨rfl,(),by rw[w,R];rfl,I⟩
 cases R:W
 rotate_left 2
 have R:W=zU:=by rw[J,n_];have:=DD a8;omega
 (conv=>whnf);rw[n_ (show¬(i:Int)+1<(t.size:Int) by omega)];(conv=>whnf);refine A7.cut [13] (λ_:Unit=>[A_ j0]) (λ_ G=>St H G (rrP S T 0#256)) ?_ ?_
 ·(conv=>whnf);exact⟨rfl,(),by rw[w,R];rfl,I⟩
 all_goals
  rintro⟨⟩ G ax A;(conv=>whnf);refine A0.mk [13] (λy:Nat×Nat×BitVec 256=>[A_ (y.1:Int)]) (λy G=>MemD H t S T M y G) (λy _=>t.size-y.1) ?_ ?_
  ·(conv=>whnf);exact⟨(j0,t.size+1,0#256),rfl,⟨ar,by simp only;omega,hM.symm,A⟩⟩
  ·rintro⟨j,n,x⟩ J0 ay ⟨hj,az,K,C⟩;simp only at hj az K C;obtain⟨n,rfl⟩:∃m,n=m+1:=⟨n-1,by omega⟩;by_cases a9:j<t.size
   case neg=>
    have w:=DD a9;have d7:zT ((j:Int)>=(t.size:Int))=zW:=t_;have Q:CD t Hu j= .inl j:=by unfold CD;rw[w,I_ (by decide),J_ (.inr (.inl (by decide)))]
    have d:M= .inl j:=by rw[<-K,F1,I_ (by omega),Q]
    rw[d]at g;(conv=>whnf);rw[d7];(conv=>whnf);try refine A7.run ?_
    refine Al (Lr (i:=j) (inner:=zW) ht hj) λJ1 a0=>?_;have o:=C.call a0;unfold Uh;simp only[if_true];rw[Q];refine CB FT KQ Ip (AV 0#256) rfl (tO 0#256 o λZ1 r s=>(L_ (vF 0#256) s zA ?_));(conv=>whnf);exact⟨r,by rw[Hh,g];rfl⟩
   have⟨b5,b0,b4,bn⟩:=Es a9;have d7:zT ((j:Int)>=(t.size:Int))=zU:=g_;(conv=>whnf);rw[d7];refine EJ (i:=j) HI rfl b0 ?_;rw[<-b4];by_cases X:bt t j=93
   ·have d8:((bt t j:Int) != (93:Int))=zU:=by rw[X];rfl
    have d:M= .inr (x,j+1):=by rw[<-K,F1,J_ X]
    rw[d]at g;(conv=>whnf);rw[d8];(conv=>whnf)
    first
    | (skip
       (conv=>whnf);try refine A7.run ?_
       refine lN (cs:=AV x) (vF _) (J7 (C.blk 1 rfl)) ?_;(conv=>whnf);rw[R_ j (by omega)];refine tO x C λZ1 r s=>(L_ (vF x) s zA ?_);(conv=>whnf);exact⟨r,by rw[Hh,g,R];rfl⟩)
    | (skip
       (conv=>whnf);try refine A7.run ?_
       (conv=>whnf);refine A0.mk [21] (λk:Nat=>[A_ k]) (λk G=>k<=256/\St H G (uX S T λb=>if b<k then !x.getLsbD b else x.getLsbD b)) (λk _=>256-k) ?_ ?_
       ·(conv=>whnf);exact⟨0,rfl,by omega,by rw[GB (x:=x) (λb z=>by rw[I_ (by omega)])];exact C⟩
       ·rintro k K0 b6 ⟨hk,L⟩;refine AB.m2 (λV=>?_) (λV=>?_)
        ·(conv=>whnf);try refine A7.run ?_
         refine V' FT (by omega) (by omega) (C_ (v:=.bool (x.getLsbD k)) zE ?_ zA ?_)
         ·rw[(L.blk 1 rfl).cell,show 0+(k:Int).toNat*1=k by omega,IJ _ (by omega),I_ (by omega)]
         refine V' FT (by omega) (by omega) ?_;refine rF (λb=>if b<k+1 then !x.getLsbD b else x.getLsbD b) L (by omega) (λb z=>by
          by_cases h:b=k
          ·subst h;rw[J_ rfl,J_ (by omega)]
          ·simp only[h,if_false,show(b<k)=(b<k+1)from propext (by omega)]) λK2 ab=>?_
         (conv=>whnf);rw[R_ k (by omega)];exact⟨rfl,k+1,rfl,⟨by omega,ab⟩,by omega⟩
        ·obtain rfl:k=256:=by omega
         rw[GB (x:= ~~~x) (λb z=>by rw[J_ z,YR _ _ z])]at L;refine lN (cs:=AV (~~~x)) (vF _) (J7 (L.blk 1 rfl)) ?_;(conv=>whnf);rw[R_ j (by omega)];refine tO (~~~x) L λZ1 r s=>(L_ (vF (~~~x)) s zA ?_);(conv=>whnf);exact⟨r,by rw[Hh,g,R];rfl⟩)
   have d8:((bt t j:Int) != (93:Int))=zW:=by rw[bne_iff_ne];omega
   (conv=>whnf);rw[d8];(conv=>whnf);try refine A7.run ?_
   refine Al (Lr (i:=j) (inner:=zW) ht hj) λJ1 a0=>?_;have o:=C.call a0;unfold Uh;simp only[if_true];cases Q:CD t Hu j with
   | inl e=>
     have d:M= .inl e:=by rw[<-K,F1,I_ X,Q]
     rw[d]at g;refine CB FT KQ Ip (AV 0#256) rfl (tO 0#256 o λZ1 r s=>(L_ (vF 0#256) s zA ?_));(conv=>whnf);exact⟨r,by rw[Hh,g];rfl⟩
   | inr p=>
     have⟨lo,D⟩:=p;have aq:=Fp Q;have d:M=Oe t lo D x (F1 t n):=by rw[<-K,F1,I_ X,Q]
     unfold Oe at d;by_cases ae:D<t.size
     case neg=>
      have bf:=DD ae;have d9:zT ((D:Int)<(t.size:Int))=zU:=g_;rw[I_ (by omega)]at d;(conv=>whnf);try refine A7.run ?_
      (conv=>whnf);rw[d9];(conv=>whnf);rw[W_ (x:=(lo:Int)) (by omega)];(conv=>whnf);refine A0.mk [20] (λb:Nat=>[A_ b]) (λb G=>lo<=b/\b<=lo+1/\St H G (uX S T λa=>x.getLsbD a|| (zT (lo<=a)&&zT (a<b)))) (λb _=>lo+1-b) ?_ ?_
      ·(conv=>whnf);refine⟨lo,rfl,M_ _,by omega,?_⟩;rw[GB (x:=x) (λa N=>by
        by_cases h:lo<=a
        ·rw[n_ (show¬a<lo by omega),rL,rK]
        ·rw[n_ h,vP,rK])]
       exact o
      ·rintro b I0 O ⟨E,F,l⟩;(conv=>whnf);rw[W_ (x:=(lo:Int)) (by omega)];refine AB.m2 (λV=>?_) (λV=>?_)
       ·(conv=>whnf);try refine A7.run ?_
        refine V' FT (by omega) (by omega) ?_;refine rF (λa=>x.getLsbD a|| (zT (lo<=a)&&zT (a<b+1))) l (by omega) (λa N=>by
         split
         ·rename_i h;subst h;rw[r_ (show lo<=a by omega),r_ (show a<a+1 by omega),vD,lF]
         ·congr 2;exact decide_eq_decide.2 (by omega)) λI2 u=>?_
        (conv=>whnf);rw[R_ b (by omega)];exact⟨rfl,b+1,rfl,⟨by omega,by omega,u⟩,by omega⟩
       ·obtain rfl:b=lo+1:=by omega
        rw[GB (x:=x ||| Ba lo lo) (λa N=>by
         rw[Xo,Eo _ _ _ N]
         congr 2
         exact decide_eq_decide.2 (by omega))]at l
        (conv=>whnf);exact⟨rfl,(D,n,x ||| Ba lo lo),rfl,⟨by simp only;omega,by simp only;omega,d.symm,l⟩,by simp only;omega⟩
     have⟨b8,b7,b9,bg⟩:=Es ae;have d9:zT ((D:Int)<(t.size:Int))=zW:=t_;(conv=>whnf);try refine A7.run ?_
     (conv=>whnf);rw[d9];refine EJ (i:=D) HI rfl b7 ?_;rw[<-b9];by_cases a1:bt t D=45
     case neg=>
      have a2:((bt t D:Int)==(45:Int))=zU:=beq_eq_false_iff_ne.2 (by omega);rw[I_ a1]at d;(conv=>whnf);rw[a2];(conv=>whnf);rw[W_ (x:=(lo:Int)) (by omega)];(conv=>whnf);refine A0.mk [20] (λb:Nat=>[A_ b]) (λb G=>lo<=b/\b<=lo+1/\St H G (uX S T λa=>x.getLsbD a|| (zT (lo<=a)&&zT (a<b)))) (λb _=>lo+1-b) ?_ ?_
      ·(conv=>whnf);refine⟨lo,rfl,M_ _,by omega,?_⟩;rw[GB (x:=x) (λa N=>by
        by_cases h:lo<=a
        ·rw[n_ (show¬a<lo by omega),rL,rK]
        ·rw[n_ h,vP,rK])]
       exact o
      ·rintro b I0 O ⟨E,F,l⟩;(conv=>whnf);rw[W_ (x:=(lo:Int)) (by omega)];refine AB.m2 (λV=>?_) (λV=>?_)
       ·(conv=>whnf);try refine A7.run ?_
        refine V' FT (by omega) (by omega) ?_;refine rF (λa=>x.getLsbD a|| (zT (lo<=a)&&zT (a<b+1))) l (by omega) (λa N=>by
         split
         ·rename_i h;subst h;rw[r_ (show lo<=a by omega),r_ (show a<a+1 by omega),vD,lF]
         ·congr 2;exact decide_eq_decide.2 (by omega)) λI2 u=>?_
        (conv=>whnf);rw[R_ b (by omega)];exact⟨rfl,b+1,rfl,⟨by omega,by omega,u⟩,by omega⟩
       ·obtain rfl:b=lo+1:=by omega
        rw[GB (x:=x ||| Ba lo lo) (λa N=>by
         rw[Xo,Eo _ _ _ N]
         congr 2
         exact decide_eq_decide.2 (by omega))]at l
        (conv=>whnf);exact⟨rfl,(D,n,x ||| Ba lo lo),rfl,⟨by simp only;omega,by simp only;omega,d.symm,l⟩,by simp only;omega⟩
     have a2:((bt t D:Int)==(45:Int))=zW:=by rw[a1];rfl
     rw[J_ a1]at d;(conv=>whnf);rw[a2];(conv=>whnf);rw[R_ D (by omega)];refine Al (Lr (i:=D+1) (inner:=zW) ht (by omega)) λJ2 bd=>?_;have P:=o.call bd;unfold Uh;simp only[if_true];cases a3:CD t Hu (D+1)with
     | inl e=>
       rw[a3]at d;rw[d]at g;refine CB FT KQ Ip (AV 0#256) rfl (tO 0#256 P λZ1 r s=>(L_ (vF 0#256) s zA ?_));(conv=>whnf);exact⟨r,by rw[Hh,g];rfl⟩
     | inr p2=>
       have⟨q,j2⟩:=p2;have bh:=Fp a3;rw[a3]at d;by_cases ag:q<lo
       ·have a4:zT ((q:Int)<(lo:Int))=zW:=t_;simp only[J_ ag]at d;rw[d]at g;(conv=>whnf);rw[a4];refine CB FT KQ Ip (AV 0#256) rfl (tO 0#256 P λZ1 r s=>(L_ (vF 0#256) s zA ?_));(conv=>whnf);exact⟨r,by rw[Hh,g];rfl⟩
       ·have a4:zT ((q:Int)<(lo:Int))=zU:=g_;simp only[I_ ag]at d;(conv=>whnf);rw[a4];(conv=>whnf);rw[W_ (x:=(lo:Int)) (by omega)];(conv=>whnf);refine A0.mk [20] (λb:Nat=>[A_ b]) (λb G=>lo<=b/\b<=q+1/\St H G (uX S T λa=>x.getLsbD a|| (zT (lo<=a)&&zT (a<b)))) (λb _=>q+1-b) ?_ ?_
        ·(conv=>whnf);refine⟨lo,rfl,M_ _,by omega,?_⟩;rw[GB (x:=x) (λa N=>by
          by_cases h:lo<=a
          ·rw[n_ (show¬a<lo by omega),rL,rK]
          ·rw[n_ h,vP,rK])]
         exact P
        ·rintro b I0 O ⟨E,F,l⟩;(conv=>whnf);rw[W_ (x:=(q:Int)) (by omega)];refine AB.m2 (λV=>?_) (λV=>?_)
         ·(conv=>whnf);try refine A7.run ?_
          refine V' FT (by omega) (by omega) ?_;refine rF (λa=>x.getLsbD a|| (zT (lo<=a)&&zT (a<b+1))) l (by omega) (λa N=>by
           split
           ·rename_i h;subst h;rw[r_ (show lo<=a by omega),r_ (show a<a+1 by omega),vD,lF]
           ·congr 2;exact decide_eq_decide.2 (by omega)) λI2 u=>?_
          (conv=>whnf);rw[R_ b (by omega)];exact⟨rfl,b+1,rfl,⟨by omega,by omega,u⟩,by omega⟩
         ·obtain rfl:b=q+1:=by omega
          rw[GB (x:=x ||| Ba lo q) (λa N=>by
           rw[Xo,Eo _ _ _ N]
           congr 2
           exact decide_eq_decide.2 (by omega))]at l
          (conv=>whnf);exact⟨rfl,(j2,n,x ||| Ba lo q),rfl,⟨by simp only;omega,by simp only;omega,d.symm,l⟩,by simp only;omega⟩
abbrev pY(t:ByteArray)(i:Nat)(ov:v_):List v_:=[.string t,A_ i,ov]
abbrev pSc(s:Nat)(t:ByteArray)(i:Nat)(ov:v_):Pc:=pB 57 s (pY t i ov)
def FN{s:Nat}{b:v_}(a:S_ H s 57 (pY t i b)):BK prog 15 #[U_ s] H (.bool (zT (t.size<=i))):=by refine Ai.of_vc func15 rfl (call15 _) (Ap.lex rfl zX (G_ Bg ?_));refine C_ (v:=A_ i) E_ (by rw[a.cell];rfl) zA ?_;refine G_ Tf ?_;refine C_ (v:=.string t) wG (by rw[a.cell];rfl) zA ?_;(conv=>whnf);refine⟨?_,D_.refl _ _⟩;congr 1;rw[decide_eq_decide];omega
def Eb{s:Nat}{c:v_}(a:S_ H s 57 (pY t i c))(d:i<t.size):BK prog 45 #[U_ s] H (.int .u8 (bt t i:Int)):=by refine Ai.of_vc func45 rfl (call45 _) (Ap.lex rfl zX (G_ Bg ?_));refine C_ (v:=A_ i) E_ (by rw[a.cell];rfl) zA ?_;refine G_ Tf ?_;refine C_ (v:=.string t) wG (by rw[a.cell];rfl) zA ?_;have⟨b,e,f,h⟩:=Es d;have g:zT ((i:Int)<(t.size:Int))=zW:=t_;(conv=>whnf);rw[g];refine Ap.lex rfl zX (G_ Tf ?_);refine C_ (v:=.string t) wG (by rw[a.cell];rfl) zA ?_;refine G_ Bg ?_;refine C_ (v:=A_ i) E_ (by rw[a.cell];rfl) zA ?_;refine EJ HI rfl e ?_;(conv=>whnf);refine⟨?_,D_.refl _ _⟩;rw[f]
def Dk{s:Nat}:Cf prog 16 #[U_ s,A_ c,A_ e] H (λ_ _=>False) (λx H'=>x=EP c e/\H'=H):=by refine Cf.of_vc func16 rfl (call16 _) (Au underlying27 rfl _ rfl [A_ c,A_ e,.string ⟨#[]⟩] rfl ?_);(conv=>whnf);exact⟨rfl,rfl⟩
def Ue{s:Nat}{q:v_}(T:t.size<=1152921504606846976)(U:i<=t.size)(N:B_ B H H ps)(A:ps[k]?=zY (pSc s t i q)):
  Cf prog 139 #[U_ s] H (λv H'=>E0 t i=zW/\v= .int .i64 (((Ca t 3 i 0).1:Nat):Int)/\B_ B H H' (ps.set k (pSc s t (Ca t 3 i 0).2 q)))
   (λx H'=>E0 t i=zU/\x=EP 20 i/\D_ B H H'):=by
 refine Cf.of_vc func139 rfl (call139 _) (Du.of (Ap.lex rfl zX (G_ Bg ?_)));refine lT (v:=A_ i) E_ ((N.blk k A).ce rfl) ?_;(conv=>whnf);refine Gx.mk [3] (λx:Nat×Nat=>match x with | (_,v)=>[A_ v]) (λx G=>match x with | (n,v)=>n<=3/\v<10^n/\Ca t 3 i 0=Ca t (3-n) (i+n) v/\(n=0\/E0 t i=zW)/\B_ B H G (ps.set k (pSc s t (i+n) q))) (λx _=>match x with | (n,_)=>3-n) ?_ ?_
 ·(conv=>whnf);exact⟨(0,0),rfl,zO,zQ,rfl,.inl rfl,by rw[Nat.add_zero,CI A];exact N⟩
 ·rintro⟨n,v⟩ G O ⟨C,D,P,j,r⟩;have a:(ps.set k (pSc s t (i+n) q))[k]?=zY (pSc s t (i+n) q):=JE A;have out:(n=3\/E0 t (i+n)=zU)->Ca t 3 i 0=(v,i+n):=λh=>by
   rw[P];rcases h with rfl | h
   ·rfl
   ·cases z:3-n with
    | zero=>rfl
    | succ m=>unfold Ca;rw[h];rfl
  refine As.of (Al (FN (r.blk k a)) λG1 E=>?_);have F_:=r.call E;by_cases p:i+n<t.size
  ·obtain⟨V,-,-,R⟩:=Es p;rw[n_ (show¬t.size<=i+n by omega)];refine G_ Bg ?_;refine lT (v:=A_ ((i+n:Nat):Int)) E_ ((F_.blk k a).ce rfl) ?_;(conv=>whnf);rw[W_ (x:=(i:Int)+3) zO];by_cases Q:n=3
   ·have F:zT (((i+n:Nat):Int)<(i:Int)+3)=zU:=g_;(conv=>whnf);rw[F];refine B8.run (G_ Bg ?_);refine lT (v:=A_ ((i+n:Nat):Int)) E_ ((F_.blk k a).ce rfl) ?_;have l:=out (.inl Q);by_cases b:n=0
    ·have d:(((i+n:Nat):Int)==(i:Int))=zW:=by rw[b];exact beq_self_eq_true _
     (conv=>whnf);rw[d];refine G_ Bg ?_;refine lT (v:=A_ ((i+n:Nat):Int)) E_ ((F_.blk k a).ce rfl) ?_;refine As.mk (Dk (c:=20) (e:=i+n)) (λ_ _ h=>h.elim) ?_;rintro _ _ ⟨rfl,rfl⟩;subst b
     exact⟨by
       rcases(.inl Q:0=3\/E0 t (i+0)=zU)with h | h
       ·omega
       ·exact h,rfl,F_.old⟩
    ·have d:(((i+n:Nat):Int)==(i:Int))=zU:=beq_eq_false_iff_ne.2 zO;(conv=>whnf);rw[d];(conv=>whnf);rw[l];exact⟨j.resolve_left b,rfl,F_⟩
   ·have F:zT (((i+n:Nat):Int)<(i:Int)+3)=zW:=t_;(conv=>whnf);rw[F];refine As.of (Al (Eb (F_.blk k a) p) λG2 I=>?_);have f:=F_.call I;by_cases J:48<=bt t (i+n)
    ·have S:zT (((bt t (i+n):Nat):Int)>=48)=zW:=t_;have o:zT (48<=((bt t (i+n):Nat):Int))=zW:=S;(conv=>whnf);rw[o];refine As.of (Al (Eb (f.blk k a) p) λG3 K=>?_);have g:=f.call K;by_cases z:bt t (i+n)<=57
     ·have L:zT (((bt t (i+n):Nat):Int)<=57)=zW:=t_;have u:E0 t (i+n)=zW:=r_ ⟨J,z⟩;(conv=>whnf);rw[L];refine As.of (Al (Eb (g.blk k a) p) λG4 M=>?_);have w:=g.call M;(conv=>whnf);rw[xG (x:=10*(v:Int)) (by have:v<1000:=wV D (uG zO C);omega) (by have:v<1000:=wV D (uG zO C);omega)];(conv=>whnf);rw[w8 (x:=((bt t (i+n):Nat):Int)-48) zO zO];(conv=>whnf);rw[xG (x:=((bt t (i+n):Nat):Int)-48) zO zO];(conv=>whnf);rw[xG (x:=10*(v:Int)+(((bt t (i+n):Nat):Int)-48)) zO (by have:v<1000:=wV D (uG zO C);omega)];refine G_ Bg ?_;refine lT (v:=A_ ((i+n:Nat):Int)) E_ ((w.blk k a).ce rfl) ?_;(conv=>whnf);rw[W_ (x:=((i+n:Nat):Int)+1) zO];refine G_ Bg (Bb w k E_ a zZ rfl λG5 y=>?_);refine⟨rfl,(n+1,10*v+(bt t (i+n)-48)),?_,⟨zO,?_,?_,.inr ?_,?_⟩,by show 3-(n+1)<3-n;omega⟩
      ·show [Value.int .i64 (10*(v:Int)+(((bt t (i+n):Nat):Int)-48))]=[A_ ((10*v+(bt t (i+n)-48):Nat):Int)]
       congr 2;omega
      ·rw[lG];omega
      ·rw[P,(zO:3-n=(3-(n+1))+1),Ca,u];rfl
      ·rcases j with rfl | j
       ·exact u
       ·exact j
      ·rw[vO]at y;exact y
     ·have L:zT (((bt t (i+n):Nat):Int)<=57)=zU:=g_;(conv=>whnf);rw[L];refine B8.run (G_ Bg ?_);refine lT (v:=A_ ((i+n:Nat):Int)) E_ ((g.blk k a).ce rfl) ?_;have l:=out (.inr (n_ λh=>z h.2));by_cases b:n=0
      ·have d:(((i+n:Nat):Int)==(i:Int))=zW:=by rw[b];exact beq_self_eq_true _
       (conv=>whnf);rw[d];refine G_ Bg ?_;refine lT (v:=A_ ((i+n:Nat):Int)) E_ ((g.blk k a).ce rfl) ?_;refine As.mk (Dk (c:=20) (e:=i+n)) (λ_ _ h=>h.elim) ?_;rintro _ _ ⟨rfl,rfl⟩;subst b
       exact⟨by
         rcases(.inr (n_ λh=>z h.2):0=3\/E0 t (i+0)=zU)with h | h
         ·omega
         ·exact h,rfl,g.old⟩
      ·have d:(((i+n:Nat):Int)==(i:Int))=zU:=beq_eq_false_iff_ne.2 zO;(conv=>whnf);rw[d];(conv=>whnf);rw[l];exact⟨j.resolve_left b,rfl,g⟩
    ·have o:zT (48<=((bt t (i+n):Nat):Int))=zU:=g_;(conv=>whnf);rw[o];refine B8.run (G_ Bg ?_);refine lT (v:=A_ ((i+n:Nat):Int)) E_ ((f.blk k a).ce rfl) ?_;have l:=out (.inr (n_ λh=>J h.1));by_cases b:n=0
     ·have d:(((i+n:Nat):Int)==(i:Int))=zW:=by rw[b];exact beq_self_eq_true _
      (conv=>whnf);rw[d];refine G_ Bg ?_;refine lT (v:=A_ ((i+n:Nat):Int)) E_ ((f.blk k a).ce rfl) ?_;refine As.mk (Dk (c:=20) (e:=i+n)) (λ_ _ h=>h.elim) ?_;rintro _ _ ⟨rfl,rfl⟩;subst b
      exact⟨by
        rcases(.inr (n_ λh=>J h.1):0=3\/E0 t (i+0)=zU)with h | h
        ·omega
        ·exact h,rfl,f.old⟩
     ·have d:(((i+n:Nat):Int)==(i:Int))=zU:=beq_eq_false_iff_ne.2 zO;(conv=>whnf);rw[d];(conv=>whnf);rw[l];exact⟨j.resolve_left b,rfl,f⟩
  ·rw[r_ (zO:t.size<=i+n)];refine B8.run (G_ Bg ?_);refine lT (v:=A_ ((i+n:Nat):Int)) E_ ((F_.blk k a).ce rfl) ?_;have l:=out (.inr (n_ λh=>by have:=DD p;omega));by_cases b:n=0
   ·have d:(((i+n:Nat):Int)==(i:Int))=zW:=by rw[b];exact beq_self_eq_true _
    (conv=>whnf);rw[d];refine G_ Bg ?_;refine lT (v:=A_ ((i+n:Nat):Int)) E_ ((F_.blk k a).ce rfl) ?_;refine As.mk (Dk (c:=20) (e:=i+n)) (λ_ _ h=>h.elim) ?_;rintro _ _ ⟨rfl,rfl⟩;subst b
    exact⟨by
      rcases(.inr (n_ λh=>by have:=DD p;omega):0=3\/E0 t (i+0)=zU)with h | h
      ·omega
      ·exact h,rfl,F_.old⟩
   ·have d:(((i+n:Nat):Int)==(i:Int))=zU:=beq_eq_false_iff_ne.2 zO;(conv=>whnf);rw[d];(conv=>whnf);rw[l];exact⟨j.resolve_left b,rfl,F_⟩
def Ug{l:List Pc}{q r:Pc}(a:ps[k]?=zY p):(ps.set k q++l).set k r=ps.set k r++l:=by rw[nL (JE a),vO]
def HO{l:List Pc}{q:Pc}(a:ps[k]?=zY p):(ps.set k q++l)[k]?=zY q:=sD (JE a)
structure AbI(B:Nat->Prop)(H:Aa)(ps:List Pc)(k s:Nat)(t:ByteArray)(j:Nat)(ov:v_)(r:ReM)(v:v_)(H':Aa):Prop where
 ex:∃(B':Nat->Prop) (fn:v_),v= .agg (Ad r fn).toArray/\(∀k,B k->B' k)/\D_ B H H'/\B_ B' H' H' (ps.set k (pSc s t j ov))/\CN B' H' fn r
def Gk{d:Nat}(h:c≠d):((c:Int)==(d:Int))=zU:=beq_eq_false_iff_ne.2 zO
def cV{s:Nat}{M:v_}{a:ReM}(ht:t.size<=1152921504606846)(hc:bt t i=123)(st:B_ B H H ps)(l:ps[k]?=zY (pSc s t i M))(ga:CN B H va a):
  Cf prog 124 #[U_ s,.agg (Ad a va).toArray] H (λv H'=>∃m n j,Cj t i= .inr (m,n,j)/\AbI B H ps k s t j M (C9 a m n) v H')
   (λx H'=>∃c p:Nat,Cj t i= .inl (c,p)/\x=EP c p/\D_ B H H'):=by
 have hi:i<t.size:=EU zO;obtain⟨g1,I,rfl⟩:=ga.fn;refine Cf.of_vc func124 rfl (call124 _) (BI (Ad a (.func (.func g1) #[] I)) rfl ?_);intro O H1 a0 a1 a2 a5;have F_:=st.box a0 a1 a2 a5;refine Af (.agg Aq.toArray) Aq DG rfl ?_;intro P H2 a6 a7 a9 ab;have C:=F_.box a6 a7 a9 ab;rw[zS]at C;replace C:B_ B H H2 (ps++[pB 60 O (Ad a (.func (.func g1) #[] I)),pB 60 P Aq]):=C;have Q:(ps++[pB 60 O (Ad a (.func (.func g1) #[] I)),pB 60 P Aq])[k]?=zY (pSc s t i M):=sD l;refine G_ Bg ?_;refine lT (v:=A_ i) E_ ((C.blk k Q).ce rfl) ?_;refine G_ Bg ?_;refine lT (v:=A_ i) E_ ((C.blk k Q).ce rfl) ?_;(conv=>whnf);rw[W_ (x:=(i:Int)+1) zO];refine G_ Bg (Bb C k E_ Q zZ rfl λH3 E=>?_);rw[nL l]at E;replace E:B_ B H H3 (ps.set k (pSc s t (i+1) M)++[pB 60 O (Ad a (.func (.func g1) #[] I)),pB 60 P Aq]):=E;have a3:=E.old;refine As.mk (Ue zO zO E.rebase (HO l)) ?_ ?_;rotate_left
 {rintro _ H4 ⟨hd,rfl,J⟩;exact⟨20,i+1,by unfold Cj;rw[hd];rfl,rfl,a3.trans J⟩}
 rintro _ H4 ⟨hd,rfl,y⟩;have J:=a3.trans y.old;rw[Ug l]at y;replace y:=y.rebase;obtain⟨-,-,W⟩:=Ii (t:=t) 3 (i+1) 0;replace W:=W zO;have hm:=Pi (t:=t) 3 (i+1) 0;have f:Cj t i=(match upM t (Ca t 3 (i+1) 0).1 (Ca t 3 (i+1) 0).2 with
  | .inl e=>.inl e
  | .inr (n,j)=>Jk t i (Ca t 3 (i+1) 0).1 n j):=by unfold Cj;rw[J_ hd];cases upM t (Ca t 3 (i+1) 0).1 (Ca t 3 (i+1) 0).2<;>rfl
 generalize Ca t 3 (i+1) 0=q at*;have⟨m,j⟩:=q;replace hm:m<1000:=hm;replace W:j<=t.size:=W;replace f:Cj t i=(match upM t m j with
  | .inl e=>.inl e
  | .inr (n,j)=>Jk t i m n j):=f
 replace y:B_ B H4 H4 (ps.set k (pSc s t j M)++[pB 60 O (Ad a (.func (.func g1) #[] I)),pB 60 P Aq]):=y;(conv=>whnf);refine B8.cut [7] (λx:Int×Nat=>match x with | (n,_)=>[A_ n]) (λx G=>match x with | (n,e)=>upM t m j= .inr (n,e)/\e<=t.size/\ -1<=n/\n<1000/\D_ B H G/\B_ B G G (ps.set k (pSc s t e M)++[pB 60 O (Ad a (.func (.func g1) #[] I)),pB 60 P Aq])) ?_ ?_;{refine As.of (Al (FN (y.blk k (HO l))) λH5 R=>?_);have r:=y.call R;by_cases X:j<t.size;{rw[n_ (show¬t.size<=j by omega)];refine As.of (Al (Eb (r.blk k (HO l)) X) λH6 S=>?_);have u:=r.call S;by_cases N:bt t j=44;{have F:(((bt t j:Nat):Int)==44)=zW:=by{rw[N];rfl};have D:upM t m j=(if bt t (j+1)=125 then .inr (-1,j+1)else if E0 t (j+1)then .inr (((Ca t 3 (j+1) 0).1:Int),(Ca t 3 (j+1) 0).2)else .inl (20,j+1)):=by{unfold upM;rw[J_ N]};(conv=>whnf);rw[F];refine G_ Bg ?_;refine C_ (v:=A_ j) E_ (by rw[(u.blk k (HO l)).cell];rfl) zA ?_;(conv=>whnf);rw[W_ (x:=(j:Int)+1) zO];refine G_ Bg (Bb u k E_ (HO l) zZ rfl λH7 b=>?_);rw[Ug l]at b;replace b:B_ B H4 H7 (ps.set k (pSc s t (j+1) M)++[pB 60 O (Ad a (.func (.func g1) #[] I)),pB 60 P Aq]):=b;refine As.of (Al (FN (b.blk k (HO l))) λH8 ae=>?_);have w:=b.call ae;by_cases h2:j+1<t.size;{rw[n_ (show¬t.size<=j+1 by omega)];refine As.of (Al (Eb (w.blk k (HO l)) h2) λH9 T=>?_);have d:=w.call T;by_cases h3:bt t (j+1)=125;{have F:(((bt t (j+1):Nat):Int) != 125)=zU:=by{rw[h3];rfl};(conv=>whnf);rw[F];(conv=>whnf);exact⟨rfl,(-1,j+1),rfl,by rw[D,J_ h3],zO,zO,zO,J.trans d.old,d.rebase⟩};{have F:(((bt t (j+1):Nat):Int) != 125)=zW:=bne_iff_ne.2 zO;rw[I_ h3]at D;(conv=>whnf);rw[F];refine As.mk (Ue zO zO d.rebase (HO l)) ?_ ?_;{rintro _ H10 ⟨z,rfl,g⟩;rw[J_ z]at D;rw[Ug l]at g;obtain⟨-,-,U⟩:=Ii (t:=t) 3 (j+1) 0;have ah:=Pi (t:=t) 3 (j+1) 0;(conv=>whnf);exact⟨rfl,(_,_),rfl,D,U zO,zO,zO,(J.trans d.old).trans g.old,g.rebase⟩};{rintro _ H10 ⟨z,rfl,V⟩;rw[I_ (by rw[z];decide)]at D;exact⟨20,j+1,by rw[f,D],rfl,(J.trans d.old).trans V⟩}}};{rw[r_ (zO:t.size<=j+1)];rw[I_ (by rw[DD h2];omega)]at D;refine As.mk (Ue zO zO w.rebase (HO l)) ?_ ?_;{rintro _ H10 ⟨z,rfl,g⟩;rw[J_ z]at D;rw[Ug l]at g;obtain⟨-,-,U⟩:=Ii (t:=t) 3 (j+1) 0;have ah:=Pi (t:=t) 3 (j+1) 0;(conv=>whnf);exact⟨rfl,(_,_),rfl,D,U zO,zO,zO,(J.trans w.old).trans g.old,g.rebase⟩};{rintro _ H10 ⟨z,rfl,V⟩;rw[I_ (by rw[z];decide)]at D;exact⟨20,j+1,by rw[f,D],rfl,(J.trans w.old).trans V⟩}}};{have F:(((bt t j:Nat):Int)==44)=zU:=Gk N;(conv=>whnf);rw[F];(conv=>whnf);exact⟨rfl,((m:Int),j),rfl,by unfold upM;rw[I_ N],W,zO,zO,J.trans u.old,u.rebase⟩}};{rw[r_ (zO:t.size<=j)];(conv=>whnf);exact⟨rfl,((m:Int),j),rfl,by unfold upM;rw[I_ (by rw[DD X];omega)],W,zO,zO,J.trans r.old,r.rebase⟩}};{rintro⟨n,e⟩ G aj ⟨D,he,Y,ak,K,Z⟩;rw[D]at f;replace f:Cj t i=Jk t i m n e:=f;refine B8.run (As.of (Al (FN (Z.blk k (HO l))) λH5 R=>?_));have r:=Z.call R;by_cases X:e<t.size;{rw[n_ (show¬t.size<=e by omega)];refine As.of (Al (Eb (r.blk k (HO l)) X) λH6 S=>?_);have u:=r.call S;by_cases N:bt t e=125;{have F:(((bt t e:Nat):Int) != 125)=zU:=by{rw[N];rfl};have o:Jk t i m n e=(if 255<m\/255<n\/(0<=n/\n<(m:Int))then .inl (22,i)else .inr (m,n,e+1)):=by{unfold Jk;rw[J_ N]};(conv=>whnf);rw[F];refine G_ Bg ?_;refine C_ (v:=A_ e) E_ (by rw[(u.blk k (HO l)).cell];rfl) zA ?_;(conv=>whnf);rw[W_ (x:=(e:Int)+1) zO];refine G_ Bg (Bb u k E_ (HO l) zZ rfl λH7 b=>?_);rw[Ug l]at b;replace b:B_ B G H7 (ps.set k (pSc s t (e+1) M)++[pB 60 O (Ad a (.func (.func g1) #[] I)),pB 60 P Aq]):=b;refine B8.run ?_;(conv=>whnf);by_cases w1:255<m;{have e1:zT (255<(m:Int))=zW:=t_;(conv=>whnf);rw[e1];rw[J_ (.inl w1)]at o;refine As.mk (Dk (c:=22) (e:=i)) (λ_ _ h=>h.elim) ?_;rintro _ _ ⟨rfl,rfl⟩;exact⟨22,i,by rw[f,o],rfl,K.trans b.old⟩};{have e1:zT (255<(m:Int))=zU:=g_;(conv=>whnf);rw[e1];by_cases L:255<n;{have e2:zT (255<n)=zW:=r_ L;(conv=>whnf);rw[e2];rw[J_ (.inr (.inl L))]at o;refine As.mk (Dk (c:=22) (e:=i)) (λ_ _ h=>h.elim) ?_;rintro _ _ ⟨rfl,rfl⟩;exact⟨22,i,by rw[f,o],rfl,K.trans b.old⟩};{have e2:zT (255<n)=zU:=n_ L;(conv=>whnf);rw[e2];by_cases c3:0<=n;{have e3:zT (0<=n)=zW:=r_ c3;(conv=>whnf);rw[e3];by_cases c4:n<(m:Int);{have e4:zT (n<(m:Int))=zW:=r_ c4;(conv=>whnf);rw[e4];rw[J_ (.inr (.inr ⟨c3,c4⟩))]at o;refine As.mk (Dk (c:=22) (e:=i)) (λ_ _ h=>h.elim) ?_;rintro _ _ ⟨rfl,rfl⟩;exact⟨22,i,by rw[f,o],rfl,K.trans b.old⟩};{have e4:zT (n<(m:Int))=zU:=n_ c4;(conv=>whnf);rw[e4];rw[I_ zO]at o;refine L_ (cs:=Ad a (.func (.func g1) #[] I)) BZ (AA (b.blk _ (Gh _ _))) zA (As.of (Ae.mk (Zp b (ga.frame (K.trans b.old) λk A=>A) zO Y zO zO) ?_));rintro _ H8 ⟨B1,f1,rfl,s1,a8,w,gs⟩;obtain⟨g2,L,rfl⟩:=gs.fn;refine BH (cs:=Ad (C9 a m n) (.func (.func g2) #[] L)) w _ rfl (X_ _ _ 1) (by simp[Ad,Aq]) rfl λH9 d T ai=>?_;rw[zG,De rfl]at d;refine lN (cs:=Ad (C9 a m n) (.func (.func g2) #[] L)) BZ (AA (d.blk _ (X_ _ _ 1))) ?_;exact⟨m,n,e+1,by rw[f,o],B1,_,rfl,s1,((K.trans b.old).trans (a8.mono λk A=>b.up A)).trans λk A=>d.old k (s1 k A),d.lft.rebase,gs.frame d.old λk A=>A⟩}};{have e3:zT (0<=n)=zU:=n_ c3;(conv=>whnf);rw[e3];rw[I_ zO]at o;refine L_ (cs:=Ad a (.func (.func g1) #[] I)) BZ (AA (b.blk _ (Gh _ _))) zA (As.of (Ae.mk (Zp b (ga.frame (K.trans b.old) λk A=>A) zO Y zO zO) ?_));rintro _ H8 ⟨B1,f1,rfl,s1,a8,w,gs⟩;obtain⟨g2,L,rfl⟩:=gs.fn;refine BH (cs:=Ad (C9 a m n) (.func (.func g2) #[] L)) w _ rfl (X_ _ _ 1) (by simp[Ad,Aq]) rfl λH9 d T ai=>?_;rw[zG,De rfl]at d;refine lN (cs:=Ad (C9 a m n) (.func (.func g2) #[] L)) BZ (AA (d.blk _ (X_ _ _ 1))) ?_;exact⟨m,n,e+1,by rw[f,o],B1,_,rfl,s1,((K.trans b.old).trans (a8.mono λk A=>b.up A)).trans λk A=>d.old k (s1 k A),d.lft.rebase,gs.frame d.old λk A=>A⟩}}}};{have F:(((bt t e:Nat):Int) != 125)=zW:=bne_iff_ne.2 zO;(conv=>whnf);rw[F];refine G_ Bg ?_;refine C_ (v:=A_ e) E_ (by rw[(u.blk k (HO l)).cell];rfl) zA ?_;refine As.mk (Dk (c:=20) (e:=e)) (λ_ _ h=>h.elim) ?_;rintro _ _ ⟨rfl,rfl⟩;exact⟨20,e,by rw[f];unfold Jk;rw[I_ N],rfl,K.trans u.old⟩}};{rw[r_ (zO:t.size<=e)];refine G_ Bg ?_;refine C_ (v:=A_ e) E_ (by rw[(r.blk k (HO l)).cell];rfl) zA ?_;refine As.mk (Dk (c:=20) (e:=e)) (λ_ _ h=>h.elim) ?_;rintro _ _ ⟨rfl,rfl⟩;exact⟨20,e,by rw[f];unfold Jk;rw[I_ (by rw[DD X];omega)],rfl,K.trans r.old⟩}}
def Q3{m:Nat}{a:ReM}(b:f.factor=zY a)(c:GJ (bt t i)=zW)(d:Fs t i= .inr (m,n,k)):Cv t ⟨i,f,fs⟩= .inr ⟨k,{f with factor:=zY (C9 a m n)},fs⟩:=by unfold Cv;show(if GJ (bt t i)then _ else _)=_;rw[J_ c,b];show(match Fs t i with | .inl e=>_ | .inr (m,n,k)=>_)=_;rw[d]
def Oz{e:Nat×Nat}{a:ReM}(b:f.factor=zY a)(c:GJ (bt t i)=zW)(d:Fs t i= .inl e):Cv t ⟨i,f,fs⟩= .inl e:=by unfold Cv;show(if GJ (bt t i)then _ else _)=_;rw[J_ c,b];show(match Fs t i with | .inl e=>_ | .inr (m,n,k)=>_)=_;rw[d]
def VA(h:c=42\/c=43\/c=63\/c=123):GJ c=zW:=by rcases h with rfl | rfl | rfl | rfl<;>rfl
def MZ(a:c≠42)(b:c≠43)(d:c≠63)(e:c≠123):GJ c=zU:=by unfold GJ;rw[beq_eq_false_iff_ne.2 a,beq_eq_false_iff_ne.2 b,beq_eq_false_iff_ne.2 d,beq_eq_false_iff_ne.2 e];rfl
structure RepI(B:Nat->Prop)(H:Aa)(ps:List Pc)(k s q1 q2 i:Nat)(t:ByteArray)(ov:v_)(f:AF)(fs:List AF)(j:Nat)(G:Aa):Prop where
 ex:∃(a:ReM) (B':Nat->Prop) (fn:v_),Ch t ⟨i,f,fs⟩=Ch t ⟨j,{f with factor:=zY a},fs⟩/\i<=j/\j<=t.size/\(∀k,B k->B' k)/\D_ B H G/\
  B_ B' G G (ps.set k (pSc s t j ov)++[pB 60 q1 (Ad a fn),pB 60 q2 Aq])/\CN B' G fn a
def dK{s:Nat}{I:v_}{a:ReM}(ht:t.size<=1152921504606846)(hi:i<=t.size)(hf:f.factor=zY a)(st:B_ B H H ps)(D:ps[k]?=zY (pSc s t i I))(ga:CN B H va a):
  Cf prog 101 #[U_ s,.agg (Ad a va).toArray] H
   (λv H'=>∃j r,i<=j/\j<=t.size/\GJ (bt t j)=zU/\Ch t ⟨i,f,fs⟩=Ch t ⟨j,{f with factor:=zY r},fs⟩/\AbI B H ps k s t j I r v H')
   (λx H'=>∃c p:Nat,Ch t ⟨i,f,fs⟩= .inl (c,(p:Int))/\x=EP c p/\D_ B H H'):=by obtain⟨g1,c1,rfl⟩:=ga.fn;refine Cf.of_vc func101 rfl (call101 _) (BI (Ad a (.func (.func g1) #[] c1)) rfl ?_);intro J H1 a9 ab Y Z;have F_:=st.box a9 ab Y Z;refine Af (.agg Aq.toArray) Aq DG rfl ?_;intro R H2 ae ah a0 a1;have z:=F_.box ae ah a0 a1;rw[zS]at z;replace z:B_ B H H2 (ps++[pB 60 J (Ad a (.func (.func g1) #[] c1)),pB 60 R Aq]):=z;rw[<-CI D]at z;(conv=>whnf);refine Gx.mk [] (λ_:Nat=>[]) (λj G=>RepI B H ps k s J R i t I f fs j G) (λj _=>t.size-j) ?_ ?_;{(conv=>whnf);refine⟨i,rfl,⟨a,B,.func (.func g1) #[] c1,?_,M_ _,hi,λk b=>b,z.old,z.rebase,ga.frame z.old λk b=>b⟩⟩;rw[<-hf]};{rintro j G ao ⟨a',B1,f1,K,a2,hj,q,S,a4,P⟩;obtain⟨u,w,rfl⟩:=P.fn;clear st F_ z ga Y a0 Z a1;have T:(ps.set k (pSc s t j I)++[pB 60 J (Ad a' (.func (.func u) #[] w)),pB 60 R Aq])[k]?=zY (pSc s t j I):=HO D;refine As.of (Al (FN (a4.blk k T)) λG1 ai=>?_);have L:=a4.call ai;by_cases h0:j<t.size;{rw[n_ (show¬t.size<=j by omega)];refine B8.run (As.of (Al (Eb (L.blk k T) h0) λG2 aj=>?_));have g:=L.call aj;have M:∀{m k2:Nat} {n:Int},(bt t j=42\/bt t j=43\/bt t j=63\/bt t j=123)->Fs t j= .inr (m,n,k2)->Ch t ⟨i,f,fs⟩=Ch t ⟨k2,{f with factor:=zY (C9 a' m n)},fs⟩:=λhc D=>by{rw[K];exact EY (s:=⟨j,{f with factor:=zY a'},fs⟩) h0 (Q3 rfl (VA hc) D)};by_cases N:bt t j=42;{have d1:(((bt t j:Nat):Int)==42)=zW:=by{rw[N];rfl};(conv=>whnf);rw[d1];refine L_ (cs:=Ad a' (.func (.func u) #[] w)) BZ (AA (g.blk _ (Gh _ _))) zA (As.of (Ae.mk (Uj g (P.frame g.old λk b=>b)) ?_));rintro _ G3 ⟨B2,f2,rfl,F,U,y,E⟩;have A:D_ B H G3:=(S.trans λk b=>g.old k (q k b)).trans (U.mono λk b=>g.up (q k b));obtain⟨g2,l,rfl⟩:=E.fn;refine BH (cs:=Ad (.star a') (.func (.func g2) #[] l)) y _ rfl (Gh _ _) (by simp[Ad]) rfl λG4 d ja js=>?_;rw[T4]at d;have V:Ah (Ad a' (.func (.func u) #[] w)) 0 (Ad (.star a') (.func (.func g2) #[] l))=Ad (.star a') (.func (.func g2) #[] l):=De rfl;replace d:B_ B2 G3 G4 (ps.set k (pSc s t j I)++[pB 60 J (Ah (Ad a' (.func (.func u) #[] w)) 0 (Ad (.star a') (.func (.func g2) #[] l))),pB 60 R Aq]):=d;rw[V]at d;refine G_ Bg ?_;refine C_ (v:=A_ j) E_ (by rw[(d.blk k (HO D)).cell];rfl) zA ?_;(conv=>whnf);rw[W_ (x:=(j:Int)+1) zO];refine G_ Bg (Bb d k E_ (HO D) zZ rfl λG5 h=>?_);rw[Ug D]at h;have C:D_ B G3 G5:=λk b=>h.old k (F k (q k b));exact⟨rfl,j+1,rfl,⟨.star a',B2,.func (.func g2) #[] l,M (m:=0) (n:= -1) (.inl N) (by unfold Fs;rw[J_ N]),zO,zO,λk b=>F k (q k b),A.trans C,h.rebase,E.frame h.old λk b=>b⟩,zO⟩};{have d1:(((bt t j:Nat):Int)==42)=zU:=Gk N;(conv=>whnf);rw[d1];by_cases Q:bt t j=43;{have d2:(((bt t j:Nat):Int)==43)=zW:=by{rw[Q];rfl};(conv=>whnf);rw[d2];refine Du.of (Ap.heldZ (H_ G2) [4] (sq [0,1] (.f 2 (.f 3 (.f 4 .e)))) rfl zX (L_ (cs:=Ad a' (.func (.func u) #[] w)) BZ (AA (g.blk _ (Gh _ _))) ((g.in_ _ (Gh _ _) (k:=J) rfl).2) (L_ (cs:=Ad a' (.func (.func u) #[] w)) BZ (AA (g.blk _ (Gh _ _))) ((g.in_ _ (Gh _ _) (k:=J) rfl).2) (Ae.mk (Uj g (P.frame g.old λk b=>b)) ?_))));rintro _ G6 ⟨B6,f6,rfl,s6,a6,ak,am⟩;refine⟨a6,?_⟩;refine Ae.mk (J6 .cat ak ((P.frame g.old λk b=>b).frame (a6.mono λk b=>g.up b) s6) am) ?_;rintro _ G3 ⟨B7,f7,rfl,s7,a7,y,E⟩;have a5:=a6.trans (a7.mono λk b=>An a6 b);refine⟨a5,?_⟩;have A:D_ B H G3:=(S.trans λk b=>g.old k (q k b)).trans (a5.mono λk b=>g.up (q k b));obtain⟨B2,a8⟩:∃B2,B2=B7:=⟨_,rfl⟩;rw[<-a8]at y E;have F:∀k,B1 k->B2 k:=λk b=>by{rw[a8];exact s7 k (s6 k b)};obtain⟨g2,l,rfl⟩:=E.fn;refine BH (cs:=Ad (opR .cat a' (.star a')) (.func (.func g2) #[] l)) y _ rfl (Gh _ _) (by simp[Ad]) rfl λG4 d ja js=>?_;rw[T4]at d;have V:Ah (Ad a' (.func (.func u) #[] w)) 0 (Ad (opR .cat a' (.star a')) (.func (.func g2) #[] l))=Ad (opR .cat a' (.star a')) (.func (.func g2) #[] l):=De rfl;replace d:B_ B2 G3 G4 (ps.set k (pSc s t j I)++[pB 60 J (Ah (Ad a' (.func (.func u) #[] w)) 0 (Ad (opR .cat a' (.star a')) (.func (.func g2) #[] l))),pB 60 R Aq]):=d;rw[V]at d;refine G_ Bg ?_;refine C_ (v:=A_ j) E_ (by rw[(d.blk k (HO D)).cell];rfl) zA ?_;(conv=>whnf);rw[W_ (x:=(j:Int)+1) zO];refine G_ Bg (Bb d k E_ (HO D) zZ rfl λG5 h=>?_);rw[Ug D]at h;have C:D_ B G3 G5:=λk b=>h.old k (F k (q k b));exact⟨rfl,j+1,rfl,⟨opR .cat a' (.star a'),B2,.func (.func g2) #[] l,M (m:=1) (n:= -1) (.inr (.inl Q)) (by unfold Fs;rw[I_ N,J_ Q]),zO,zO,λk b=>F k (q k b),A.trans C,h.rebase,E.frame h.old λk b=>b⟩,zO⟩};{have d2:(((bt t j:Nat):Int)==43)=zU:=Gk Q;(conv=>whnf);rw[d2];by_cases W:bt t j=63;{have d3:(((bt t j:Nat):Int)==63)=zW:=by{rw[W];rfl};(conv=>whnf);rw[d3];refine L_ (cs:=Ad a' (.func (.func u) #[] w)) BZ (AA (g.blk _ (Gh _ _))) zA (As.of (Ae.mk (T7 g (P.frame g.old λk b=>b)) ?_));rintro _ G3 ⟨B2,f2,rfl,F,U,y,E⟩;have A:D_ B H G3:=(S.trans λk b=>g.old k (q k b)).trans (U.mono λk b=>g.up (q k b));obtain⟨g2,l,rfl⟩:=E.fn;refine BH (cs:=Ad (BL a') (.func (.func g2) #[] l)) y _ rfl (Gh _ _) (by simp[Ad]) rfl λG4 d ja js=>?_;rw[T4]at d;have V:Ah (Ad a' (.func (.func u) #[] w)) 0 (Ad (BL a') (.func (.func g2) #[] l))=Ad (BL a') (.func (.func g2) #[] l):=De rfl;replace d:B_ B2 G3 G4 (ps.set k (pSc s t j I)++[pB 60 J (Ah (Ad a' (.func (.func u) #[] w)) 0 (Ad (BL a') (.func (.func g2) #[] l))),pB 60 R Aq]):=d;rw[V]at d;refine G_ Bg ?_;refine C_ (v:=A_ j) E_ (by rw[(d.blk k (HO D)).cell];rfl) zA ?_;(conv=>whnf);rw[W_ (x:=(j:Int)+1) zO];refine G_ Bg (Bb d k E_ (HO D) zZ rfl λG5 h=>?_);rw[Ug D]at h;have C:D_ B G3 G5:=λk b=>h.old k (F k (q k b));exact⟨rfl,j+1,rfl,⟨BL a',B2,.func (.func g2) #[] l,M (m:=0) (n:=1) (.inr (.inr (.inl W))) (by unfold Fs;rw[I_ N,I_ Q,J_ W]),zO,zO,λk b=>F k (q k b),A.trans C,h.rebase,E.frame h.old λk b=>b⟩,zO⟩};{have d3:(((bt t j:Nat):Int)==63)=zU:=Gk W;(conv=>whnf);rw[d3];by_cases X:bt t j=123;{have d4:(((bt t j:Nat):Int)==123)=zW:=by{rw[X];rfl};(conv=>whnf);rw[d4];refine L_ (cs:=Ad a' (.func (.func u) #[] w)) BZ (AA (g.blk _ (Gh _ _))) zA (As.mk (cV ht X g.rebase T (P.frame g.old λk b=>b)) ?_ ?_);{rintro _ G3 ⟨m,n,j2,O,⟨B2,f2,rfl,F,U,y,E⟩⟩;have ap:=LL O;rw[Ug D]at y;obtain⟨g2,l,rfl⟩:=E.fn;refine BH (cs:=Ad (C9 a' m n) (.func (.func g2) #[] l)) y _ rfl (Gh _ _) (by simp[Ad]) rfl λG4 d ja js=>?_;rw[T4]at d;have V:Ah (Ad a' (.func (.func u) #[] w)) 0 (Ad (C9 a' m n) (.func (.func g2) #[] l))=Ad (C9 a' m n) (.func (.func g2) #[] l):=De rfl;replace d:B_ B2 G3 G4 (ps.set k (pSc s t j2 I)++[pB 60 J (Ah (Ad a' (.func (.func u) #[] w)) 0 (Ad (C9 a' m n) (.func (.func g2) #[] l))),pB 60 R Aq]):=d;rw[V]at d;(conv=>whnf);have A:D_ B H G3:=(S.trans λk b=>g.old k (q k b)).trans (U.mono λk b=>q k b);have C:D_ B G3 G4:=λk b=>d.old k (F k (q k b));exact⟨rfl,j2,rfl,⟨C9 a' m n,B2,.func (.func g2) #[] l,M (m:=m) (n:=n) (.inr (.inr (.inr X))) (by unfold Fs;rw[I_ N,I_ Q,I_ W];exact O),zO,zO,λk b=>F k (q k b),A.trans C,d.rebase,E.frame d.old λk b=>b⟩,zO⟩};{rintro _ G3 ⟨c,p,O,rfl,U⟩;refine⟨c,p,?_,rfl,(S.trans λk b=>g.old k (q k b)).trans (U.mono λk b=>q k b)⟩;rw[K];exact Ft (s:=⟨j,{f with factor:=zY a'},fs⟩) h0 (Oz rfl (VA (.inr (.inr (.inr X)))) (by unfold Fs;rw[I_ N,I_ Q,I_ W];exact O))}};{have d4:(((bt t j:Nat):Int)==123)=zU:=Gk X;(conv=>whnf);rw[d4];refine L_ (cs:=Ad a' (.func (.func u) #[] w)) BZ (AA (g.blk _ (Gh _ _))) zA (BH (cs:=Ad a' (.func (.func u) #[] w)) g _ rfl (X_ _ _ 1) (by simp[Ad,Aq]) rfl λG9 o ja js=>?_);rw[zG,De rfl]at o;refine lN (cs:=Ad a' (.func (.func u) #[] w)) BZ (AA (o.blk _ (X_ _ _ 1))) ?_;exact⟨j,a',a2,hj,MZ N Q W X,K,B1,_,rfl,q,S.trans λk b=>o.old k (q k b),o.lft.rebase,P.frame o.old λk b=>b⟩}}}}};{rw[r_ (zO:t.size<=j)];refine L_ (cs:=Ad a' (.func (.func u) #[] w)) BZ (AA (L.blk _ (Gh _ _))) zA (BH (cs:=Ad a' (.func (.func u) #[] w)) L _ rfl (X_ _ _ 1) (by simp[Ad,Aq]) rfl λG9 o ja js=>?_);rw[zG,De rfl]at o;refine lN (cs:=Ad a' (.func (.func u) #[] w)) BZ (AA (o.blk _ (X_ _ _ 1))) ?_;exact⟨j,a',a2,hj,by rw[DD h0];rfl,K,B1,_,rfl,q,S.trans λk b=>o.old k (q k b),o.lft.rebase,P.frame o.old λk b=>b⟩}}
def sG{a:IntKind}{K:v_->Prop}(c:i<t.size)(k:K (.int .u8 (bt t i:Int))):AH prog (Instr.index 9 (.string t) (.int a (i:Int))) S H K:=by have⟨b,d,e,f⟩:=Es c;refine EJ HI rfl d ?_;rw[<-e];exact k
def dF(c:Nat)(H:Aa):BK prog 18 #[.int .u8 (c:Int)] H (.bool (GJ c)):=by refine Ai.of_vc func18 rfl (call18 _) ?_;(conv=>whnf);by_cases b:c=42;{have d:((c:Int)==42)=zW:=by{rw[b];rfl};(conv=>whnf);rw[d];(conv=>whnf);refine⟨?_,D_.refl _ _⟩;rw[b];rfl};have d:((c:Int)==42)=zU:=Gk b;(conv=>whnf);rw[d];clear d;by_cases e:c=43;{have d:((c:Int)==43)=zW:=by{rw[e];rfl};(conv=>whnf);rw[d];(conv=>whnf);refine⟨?_,D_.refl _ _⟩;rw[e];rfl};have d:((c:Int)==43)=zU:=Gk e;(conv=>whnf);rw[d];clear d;by_cases f:c=63;{have d:((c:Int)==63)=zW:=by{rw[f];rfl};(conv=>whnf);rw[d];(conv=>whnf);refine⟨?_,D_.refl _ _⟩;rw[f];rfl};have d:((c:Int)==63)=zU:=Gk f;(conv=>whnf);rw[d];clear d;by_cases a:c=123;{have d:((c:Int)==123)=zW:=by{rw[a];rfl};(conv=>whnf);rw[d];(conv=>whnf);refine⟨?_,D_.refl _ _⟩;rw[a];rfl};have d:((c:Int)==123)=zU:=Gk a;(conv=>whnf);rw[d];clear d;(conv=>whnf);refine⟨?_,D_.refl _ _⟩;rw[MZ b e f a]
def OU(H:Aa):BK prog 48 #[.string t,A_ i] H (.bool (E0 t i)):=by refine Ai.of_vc func48 rfl (call48 _) ?_;by_cases a:i<t.size;{have b:zT ((i:Int)<(t.size:Int))=zW:=t_;(conv=>whnf);rw[b];refine sG a ?_;by_cases d:48<=bt t i;{have c:zT (48<=((bt t i:Nat):Int))=zW:=t_;(conv=>whnf);rw[c];refine sG a ?_;(conv=>whnf);refine⟨?_,D_.refl _ _⟩;congr 1;unfold E0;rw[decide_eq_decide];omega};have c:zT (48<=((bt t i:Nat):Int))=zU:=g_;(conv=>whnf);rw[c];(conv=>whnf);refine⟨?_,D_.refl _ _⟩;congr 1;exact(n_ λh=>d h.1).symm};have b:zT ((i:Int)<(t.size:Int))=zU:=g_;(conv=>whnf);rw[b];(conv=>whnf);refine⟨?_,D_.refl _ _⟩;congr 1;exact(n_ λh=>by have:=DD a;omega).symm
def frZ:List v_:=[A_ 0,A_ 0,A_ 0,.int .u8 0,A_ 0,A_ 0]
def pE:(prog.info? 68).bind (·.zero)=zY (.agg frZ.toArray):=zX
def uL(p:Int):List v_:=[A_ p,A_ (-1),A_ (-1),.int .u8 0,A_ (-1),A_ (-1)]
def iD(p:Int)(H:Aa):Ai prog 17 #[A_ p] H λv H'=>v= .agg (uL p).toArray/\D_ (H_ H) H H':=by refine Ai.of_vc func17 rfl (call17 _) (Af (.agg frZ.toArray) frZ pE rfl ?_);intro q H1 f g b c;refine Au underlying68 rfl (.agg frZ.toArray) pE (uL p) rfl (Zaa (cs:=uL p) rfl b (M_ _) rfl ?_);intro H2 a d h;rw[Bo (show(uL p).length=frZ.length from rfl)]at a;refine L_ (cs:=uL p) lO (a.cells λj v i=>by rw[K_];exact i) zA ?_;exact⟨rfl,(c.mono λk e=>by have:k<H.size:=e;have:q=H.size:=f;omega).trans (d.mono λk e=>by have:k<H.size:=e;have:q=H.size:=f;omega)⟩
def tA(t:ByteArray)(i:Nat)(v:v_):Prop:=match Cj t i with
 | .inl (c,p)=>v= .tuple #[A_ 0,A_ 0,A_ 0,A_ c,A_ p]
 | .inr (m,n,j)=>v= .tuple #[A_ m,A_ n,A_ j,A_ 0,A_ 0]
abbrev rZ(q:Nat)(x y:Int):Pc:=pB 115 q [A_ x,A_ y]
def lM:(prog.info? 115).bind (·.zero)=zY (.agg #[A_ 0,A_ 0]):=zX
def YS{w:Nat}(h:E0 t e=zU):∀k,Ca t k e w=(w,e)| 0=>rfl | k+1=>by unfold Ca;rw[h];rfl
structure BrI(t:ByteArray)(i k e:Nat)(x0 x1:Int):Prop where
 le:e<=t.size
 z:k=0->e=i+1/\x0=0/\x1=0
 one:k=1->E0 t (i+1)=zW/\x0=((Ca t 3 (i+1) 0).1:Int)/\x1=0/\e=(Ca t 3 (i+1) 0).2+1/\bt t (Ca t 3 (i+1) 0).2=44/\bt t e≠125
 two:k=2->E0 t (i+1)=zW/\x0=((Ca t 3 (i+1) 0).1:Int)/\x1= -1/\upM t (Ca t 3 (i+1) 0).1 (Ca t 3 (i+1) 0).2= .inr (-1,e)
 le2:k<=2
def AnN(a:E0 t (i+1)=zW)(b:upM t (Ca t 3 (i+1) 0).1 (Ca t 3 (i+1) 0).2= .inr (n,e)):Cj t i=Jk t i (Ca t 3 (i+1) 0).1 n e:=by unfold Cj;rw[J_ a,b]
def AnO(a:E0 t (i+1)=zU):Cj t i= .inl (20,i+1):=by unfold Cj;rw[a];rfl
def ZH(ht:t.size<=1048576)(hi:i<t.size):Ai prog 19 #[.string t,A_ i] H λv H'=>D_ (H_ H) H H'/\tA t i v:=by
 refine Ai.of_vcL func19 rfl (call19 _) ?_;(conv=>whnf);rw[R_ i zO];refine Af (.agg #[A_ 0,A_ 0]) [A_ 0,A_ 0] lM rfl ?_;intro q H1 a0 a1 a2 a3;have F_:=(St.nil H).box a0 a1 a2 a3;(conv=>whnf);refine A7.cut [11,9] (λx:Nat×Nat×Int×Int=>match x with | (k,e,_,_)=>[A_ k,A_ e]) (λx G=>match x with | (k,e,l,E)=>((k=1\/k=2)/\e<=t.size/\E0 t (i+1)=zW/\l=((Ca t 3 (i+1) 0).1:Int)/\(∃n:Int,upM t (Ca t 3 (i+1) 0).1 (Ca t 3 (i+1) 0).2= .inr (n,e)/\ -1<=n/\n<1000/\(k=1->n=l)/\(k=2->n=E)))/\St H G [rZ q l E]) ?_ ?_;{
 (conv=>whnf);refine A0.mk [11,9] (λx:Nat×Nat×Int×Int=>match x with | (k,e,_,_)=>[A_ k,A_ e]) (λx G=>match x with | (k,e,l,E)=>BrI t i k e l E/\St H G [rZ q l E]) (λx _=>match x with | (k,_,_,_)=>2-k) ?_ ?_;{(conv=>whnf);exact⟨(0,i+1,0,0),rfl,⟨hi,λ_=>⟨rfl,rfl,rfl⟩,λh=>absurd h zQ,λh=>absurd h zQ,zO⟩,F_⟩};rintro⟨k,e,l,E⟩ G F ⟨I,b⟩;have J:=I.le;refine AB.m2 (λhz=>?_) (λhz=>?_);{
 have a8:k<2:=zO;rcases(zO:k=0\/k=1)with rfl | rfl;{
 (conv=>whnf);try refine A7.run ?_
 obtain⟨rfl,rfl,rfl⟩:=I.z rfl;refine Al (OU (i:=(i+1)) G) λG1 K=>?_;have w:=b.call K;cases L:E0 t (i+1)with|false=>(conv=>whnf);refine⟨w.old,?_⟩;unfold tA;rw[AnO L];rfl|true=>{
 (conv=>whnf);have p:=L;(conv=>whnf);refine A0.mk [12,9] (λx:Nat×Nat=>match x with | (a,_)=>[A_ a,A_ (((i+1)+a:Nat):Int)]) (λx G=>match x with | (a,v)=>a<=3/\v<10^a/\(i+1)+a<=t.size/\Ca t 3 (i+1) 0=Ca t (3-a) ((i+1)+a) v/\St H G [rZ q (v:Int) 0]) (λx _=>match x with | (a,_)=>3-a) ?_ ?_;{(conv=>whnf);exact⟨(0,0),rfl,zO,zQ,J,rfl,w⟩};rintro⟨a,v⟩ G2 M ⟨N,hv,D,y,d⟩;have a4:v<1000:=wV hv (uG zO N);have r:(a=3\/E0 t ((i+1)+a)=zU)->Ca t 3 (i+1) 0=(v,(i+1)+a):=λh=>by{rw[y];rcases h with rfl | h;{rfl};exact YS h _};clear I;by_cases a5:a<3;(conv=>whnf);rw[show zT ((a:Int)<3)=zW from t_];refine Al (OU (i:=(i+1)+a) G2) λG3 O=>?_;replace d:=d.call O;cases g:E0 t ((i+1)+a);rotate_left
 {skip;have P:(i+1)+a<t.size:=by{unfold E0 at g;have:=of_decide_eq_true g;exact EU zO};have a6:48<=bt t ((i+1)+a)/\bt t ((i+1)+a)<=57:=by{unfold E0 at g;exact of_decide_eq_true g};(conv=>whnf);(try refine A7.run ?_);refine Ap.heldZ (λk=>k=q) [12] (sq [0,1,2,3,4,5,6,7,8,9,10,11] (.f 12 .e)) rfl zX (V' EA zQ zQ ?_);refine C_ (v:=A_ v) E_ ((d.blk 0 rfl).ce rfl) rfl ?_;(conv=>whnf);rw[W_ (x:=10*(v:Int)) zO];refine sG P ?_;(conv=>whnf);rw[w8 (x:=((bt t ((i+1)+a):Nat):Int)-48) zO zO];(conv=>whnf);rw[xG (x:=((bt t ((i+1)+a):Nat):Int)-48) zO zO];(conv=>whnf);rw[xG (x:=10*(v:Int)+(((bt t ((i+1)+a):Nat):Int)-48)) zO zO];refine V' EA zQ zQ ?_;refine Bb d 0 E_ rfl (by show _<(2:Nat);decide) rfl λG5 A=>?_;(conv=>whnf);rw[xG (x:=(((i+1)+a:Nat):Int)+1) zO zO];(conv=>whnf);rw[R_ a zO];have ev:10*(v:Int)+(((bt t ((i+1)+a):Nat):Int)-48)=((10*v+(bt t ((i+1)+a)-48):Nat):Int):=zO;rw[ev]at A;refine⟨rfl,(a+1,10*v+(bt t ((i+1)+a)-48)),rfl,⟨zO,by rw[lG];omega,zO,?_,A⟩,by show 3-(a+1)<3-a;omega⟩;rw[y,(zO:3-a=(3-(a+1))+1),Ca,g];rfl};(conv=>whnf);rw[show zT ((a:Int)<3)=zU from g_];have B:Ca t 3 (i+1) 0=(v,(i+1)+a):=r (.inl zO);rotate_left
 have B:Ca t 3 (i+1) 0=(v,(i+1)+a):=r (.inr g);(all_goals (conv=>whnf);(try refine A7.run ?_);(conv=>whnf);have j:Ca t 3 (i+1) 0=(v,(i+1)+a):=B;by_cases h0:(i+1)+a<t.size;{have Q:zT ((t.size:Int)<=(((i+1)+a:Nat):Int))=zU:=g_;(conv=>whnf);rw[Q];refine sG h0 ?_;by_cases s:bt t ((i+1)+a)=44;{have R:(((bt t ((i+1)+a):Nat):Int) != 44)=zU:=by{rw[s];rfl};(conv=>whnf);rw[R];(conv=>whnf);rw[xG (x:=(((i+1)+a:Nat):Int)+1) zO zO];(conv=>whnf);(try refine A7.run ?_);(conv=>whnf);by_cases X:(i+1)+a+1<t.size;{have d7:zT ((((i+1)+a:Nat):Int)+1<(t.size:Int))=zW:=t_;(conv=>whnf);rw[d7];refine sG (i:=(i+1)+a+1) X ?_;by_cases c:bt t ((i+1)+a+1)=125;{have d8:(((bt t ((i+1)+a+1):Nat):Int)==125)=zW:=by{rw[c];rfl};(conv=>whnf);rw[d8];refine V' EA zQ zQ ?_;refine Bb d 0 E_ rfl (by show _<(2:Nat);decide) rfl λG7 S=>?_;replace S:St H G7 [rZ q (v:Int) (-1)]:=S;(conv=>whnf);exact⟨rfl,(2,(i+1)+a+1,(v:Int),-1),rfl,⟨⟨zO,λh=>absurd h zQ,λh=>absurd h zQ,λ_=>⟨p,by rw[j],rfl,by rw[j];unfold upM;rw[J_ s,J_ c]⟩,zO⟩,S⟩,by show 2-2<2-0;omega⟩};have d8:(((bt t ((i+1)+a+1):Nat):Int)==125)=zU:=Gk c;(conv=>whnf);rw[d8];(conv=>whnf);exact⟨rfl,(1,(i+1)+a+1,(v:Int),0),rfl,⟨⟨zO,λh=>absurd h zQ,λ_=>⟨p,by rw[j],rfl,by rw[j],by rw[j];exact s,c⟩,λh=>absurd h zQ,zO⟩,d⟩,by show 2-1<2-0;omega⟩};have d7:zT ((((i+1)+a:Nat):Int)+1<(t.size:Int))=zU:=g_;(conv=>whnf);rw[d7];(conv=>whnf);exact⟨rfl,(1,(i+1)+a+1,(v:Int),0),rfl,⟨⟨zO,λh=>absurd h zQ,λ_=>⟨p,by rw[j],rfl,by rw[j],by rw[j];exact s,by rw[DD X];decide⟩,λh=>absurd h zQ,zO⟩,d⟩,by show 2-1<2-0;omega⟩};have R:(((bt t ((i+1)+a):Nat):Int) != 44)=zW:=bne_iff_ne.2 zO;(conv=>whnf);rw[R];(conv=>whnf);exact⟨rfl,(1,(i+1)+a,(v:Int),0),rfl,⟨⟨.inl rfl,D,(by first | exact p | rfl),by rw[j],(v:Int),by rw[j];unfold upM;rw[I_ s],zO,zO,λ_=>rfl,λh=>absurd h zQ⟩,d⟩⟩};have Q:zT ((t.size:Int)<=(((i+1)+a:Nat):Int))=zW:=t_;(conv=>whnf);rw[Q];(conv=>whnf);exact⟨rfl,(1,(i+1)+a,(v:Int),0),rfl,⟨⟨.inl rfl,D,(by first | exact p | rfl),by rw[j],(v:Int),by rw[j];unfold upM;rw[I_ (by rw[DD h0];omega)],zO,zO,λ_=>rfl,λh=>absurd h zQ⟩,d⟩⟩)}};(conv=>whnf);try refine A7.run ?_
 obtain⟨p,C,rfl,T,s,c⟩:=I.one rfl;refine Al (OU (i:=e) G) λG1 K=>?_;have w:=b.call K;cases L:E0 t e with|false=>(conv=>whnf);refine⟨w.old,?_⟩;unfold tA;have Y:upM t (Ca t 3 (i+1) 0).1 (Ca t 3 (i+1) 0).2= .inl (20,e):=by{unfold upM;rw[J_ s,<-T,I_ c,L]<;>rfl};have hb:Cj t i= .inl (20,e):=by{unfold Cj;rw[J_ p,Y]};rw[hb];rfl|true=>{
 (conv=>whnf);(conv=>whnf);refine A0.mk [12,9] (λx:Nat×Nat=>match x with | (a,_)=>[A_ a,A_ ((e+a:Nat):Int)]) (λx G=>match x with | (a,v)=>a<=3/\v<10^a/\e+a<=t.size/\Ca t 3 e 0=Ca t (3-a) (e+a) v/\St H G [rZ q l (v:Int)]) (λx _=>match x with | (a,_)=>3-a) ?_ ?_;{(conv=>whnf);exact⟨(0,0),rfl,zO,zQ,J,rfl,w⟩};rintro⟨a,v⟩ G2 M ⟨N,hv,D,y,d⟩;have a4:v<1000:=wV hv (uG zO N);have r:(a=3\/E0 t (e+a)=zU)->Ca t 3 e 0=(v,e+a):=λh=>by{rw[y];rcases h with rfl | h;{rfl};exact YS h _};clear I;by_cases a5:a<3;(conv=>whnf);rw[show zT ((a:Int)<3)=zW from t_];refine Al (OU (i:=e+a) G2) λG3 O=>?_;replace d:=d.call O;cases g:E0 t (e+a);rotate_left
 {skip;have P:e+a<t.size:=by{unfold E0 at g;have:=of_decide_eq_true g;exact EU zO};have a6:48<=bt t (e+a)/\bt t (e+a)<=57:=by{unfold E0 at g;exact of_decide_eq_true g};(conv=>whnf);(try refine A7.run ?_);refine Ap.heldZ (λk=>k=q) [12] (sq [0,1,2,3,4,5,6,7,8,9,10,11] (.f 12 .e)) rfl zX (V' EA zQ zQ ?_);refine C_ (v:=A_ v) E_ ((d.blk 0 rfl).ce rfl) rfl ?_;(conv=>whnf);rw[W_ (x:=10*(v:Int)) zO];refine sG P ?_;(conv=>whnf);rw[w8 (x:=((bt t (e+a):Nat):Int)-48) zO zO];(conv=>whnf);rw[xG (x:=((bt t (e+a):Nat):Int)-48) zO zO];(conv=>whnf);rw[xG (x:=10*(v:Int)+(((bt t (e+a):Nat):Int)-48)) zO zO];refine V' EA zQ zQ ?_;refine Bb d 0 E_ rfl (by show _<(2:Nat);decide) rfl λG5 A=>?_;(conv=>whnf);rw[W_ (x:=((e+a:Nat):Int)+1) zO];(conv=>whnf);rw[R_ a zO];have ev:10*(v:Int)+(((bt t (e+a):Nat):Int)-48)=((10*v+(bt t (e+a)-48):Nat):Int):=zO;rw[ev]at A;refine⟨rfl,(a+1,10*v+(bt t (e+a)-48)),rfl,⟨zO,by rw[lG];omega,zO,?_,A⟩,by show 3-(a+1)<3-a;omega⟩;rw[y,(zO:3-a=(3-(a+1))+1),Ca,g];rfl};(conv=>whnf);rw[show zT ((a:Int)<3)=zU from g_];have B:Ca t 3 e 0=(v,e+a):=r (.inl zO);rotate_left
 have B:Ca t 3 e 0=(v,e+a):=r (.inr g);(all_goals (conv=>whnf);(try refine A7.run ?_);(conv=>whnf);exact⟨rfl,(2,e+a,l,(v:Int)),rfl,⟨⟨.inr rfl,D,p,C,(v:Int),by unfold upM;rw[J_ s,<-T,I_ c,L];show(if zW=zW then _ else _)=_;rw[J_ rfl,B],zO,zO,λh=>absurd h zQ,λ_=>rfl⟩,d⟩⟩)}};have Z:k=2:=by have:=I.le2;omega
 subst Z;have⟨X,h2,h3,h4⟩:=I.two rfl;(conv=>whnf);exact⟨rfl,(2,e,l,E),rfl,⟨⟨.inr rfl,J,X,h2,-1,h4,zO,zO,λh=>absurd h zQ,λ_=>h3.symm⟩,b⟩⟩};rintro⟨k,e,l,E⟩ G F ⟨⟨Z,he,L,C,n,Y,a9,ab,U,V⟩,b⟩;have u:=AnN L Y;obtain⟨m,hm⟩:∃m,m=(Ca t 3 (i+1) 0).1:=⟨_,rfl⟩;rw[<-hm]at u C;clear Y hm F_;refine A7.cut [] (λ_:Unit=>[]) (λ_ G=>St H G [rZ q l n]) ?_ ?_;{rcases Z with rfl | rfl;{rw[U rfl];refine V' EA zQ zQ ?_;refine lT (v:=A_ (l)) E_ ((b.blk 0 rfl).ce rfl) ?_;refine V' EA zQ zQ ?_;refine Bb b 0 E_ rfl (by show _<(2:Nat);decide) rfl λG2 a7=>?_;(conv=>whnf);exact⟨rfl,(),rfl,a7⟩};(conv=>whnf);rw[V rfl];exact⟨rfl,(),rfl,b⟩};clear b U V Z;rintro⟨⟩ G F b;(conv=>whnf);try refine A7.run ?_
 (conv=>whnf);by_cases W:e<t.size;have d1:zT ((t.size:Int)<=(e:Int))=zU:=g_;(conv=>whnf);rw[d1];refine sG W ?_;by_cases c:bt t e=125;{
 have d2:(((bt t e:Nat):Int) != 125)=zU:=by rw[c];rfl
 have o:Jk t i m n e=(if 255<m\/255<n\/(0<=n/\n<(m:Int))then .inl (22,i)else .inr (m,n,e+1)):=by unfold Jk;rw[J_ c]
 (conv=>whnf);rw[d2];refine V' EA zQ zQ ?_;refine lT (v:=A_ (l)) E_ ((b.blk 0 rfl).ce rfl) ?_;by_cases c1:255<l;{have d3:zT (255<l)=zW:=r_ c1;(conv=>whnf);rw[d3];(conv=>whnf);refine⟨b.old,?_⟩;unfold tA;rw[u,o,J_ (.inl zO)]<;>rfl};have d3:zT (255<l)=zU:=n_ c1;(conv=>whnf);rw[d3];refine V' EA zQ zQ ?_;refine lT (v:=A_ (n)) E_ ((b.blk 0 rfl).ce rfl) ?_;by_cases c2:255<n;{have d4:zT (255<n)=zW:=t_;(conv=>whnf);rw[d4];(conv=>whnf);refine⟨b.old,?_⟩;unfold tA;rw[u,o,J_ (.inr (.inl c2))]<;>rfl};have d4:zT (255<n)=zU:=g_;(conv=>whnf);rw[d4];refine V' EA zQ zQ ?_;refine lT (v:=A_ (n)) E_ ((b.blk 0 rfl).ce rfl) ?_;by_cases c3:0<=n;have Q:zT (0<=n)=zW:=t_;(conv=>whnf);rw[Q];refine V' EA zQ zQ ?_;refine lT (v:=A_ (n)) E_ ((b.blk 0 rfl).ce rfl) ?_;refine V' EA zQ zQ ?_;refine lT (v:=A_ (l)) E_ ((b.blk 0 rfl).ce rfl) ?_;by_cases c4:n<(m:Int);{have R:zT (n<l)=zW:=t_;(conv=>whnf);rw[R];(conv=>whnf);refine⟨b.old,?_⟩;unfold tA;rw[u,o,J_ (.inr (.inr ⟨c3,c4⟩))]<;>rfl};have R:zT (n<l)=zU:=g_;(conv=>whnf);rw[R];rotate_left
 have Q:zT (0<=n)=zU:=g_;(conv=>whnf);rw[Q];all_goals refine Ap.lex rfl zX (V' EA zQ zQ ?_);refine lT (v:=A_ (l)) E_ ((b.blk 0 rfl).ce rfl) ?_;refine V' EA zQ zQ ?_;refine lT (v:=A_ (n)) E_ ((b.blk 0 rfl).ce rfl) ?_;(conv=>whnf);rw[R_ e zO];(conv=>whnf);refine⟨b.old,?_⟩;unfold tA;rw[u,o,I_ zO,C]<;>rfl};have d2:(((bt t e:Nat):Int) != 125)=zW:=bne_iff_ne.2 zO;have o:Jk t i m n e= .inl (20,e):=by unfold Jk;rw[I_ c]
 (conv=>whnf);rw[d2];rotate_left
 have d1:zT ((t.size:Int)<=(e:Int))=zW:=t_;have o:Jk t i m n e= .inl (20,e):=by unfold Jk;rw[I_ (by rw[DD W];omega)]
 (conv=>whnf);rw[d1];all_goals (conv=>whnf);refine⟨b.old,?_⟩;unfold tA;rw[u,o];rfl
def GU(c m:Nat)(n:Int):Nat:=if n<0 then(if m=0 then c+1 else m*c+m+c+1)else if n=0 then 1 else if m=0 then n.toNat*(c+2)+n.toNat-1 else m*c+m-1+(n.toNat-m)*(c+3)
def Mn(a:ReM)(m:Nat):∀k,1<=k->((DR a m k).getD .eps).nodes+1=min k m*(a.nodes+1)+(k-m)*(a.nodes+3)
 | 0,h=>absurd h (by decide)
 | 1,_=>by
   rw[K8];by_cases b:0<m
   ·rw[J_ b,show min 1 m=1 by omega,show 1-m=0 by omega];simp
   ·rw[I_ b,show min 1 m=0 by omega,show 1-m=1 by omega];show 1+a.nodes+1+1=_;omega
 | k+2,_=>by
   have c:=Mn a m (k+1) zO;rw[Hd a m (k+1) zO];show 1+_+(if k+1<m then a else BL a).nodes+1=_;by_cases b:k+1<m
   ·rw[J_ b];rw[(zO:min (k+1) m=k+1),(zO:k+1-m=0)]at c;rw[(zO:min (k+2) m=k+1+1),(zO:k+2-m=0),Nat.add_mul (k+1) 1];omega
   ·rw[I_ b];rw[(zO:min (k+1) m=m)]at c;rw[(zO:min (k+2) m=m),(zO:k+2-m=(k+1-m)+1),Nat.add_mul (k+1-m) 1];show 1+_+(1+a.nodes+1)+1=_;omega
def Xx(a:ReM)(m:Nat)(n:Int)(e:0<=n->(m:Int)<=n):(C9 a m n).nodes=GU a.nodes m n:=by
 unfold C9 GU;by_cases c:n<0;{rw[J_ c,J_ c];by_cases b:m=0;{rw[J_ b,J_ b];show 1+a.nodes=_;omega};rw[I_ b,I_ b];have h:=Mn a m m zO;rw[Nat.min_self,Nat.sub_self,Nat.zero_mul,xC]at h;show 1+((DR a m m).getD .eps).nodes+(1+a.nodes)=_;omega};rw[I_ c,I_ c];by_cases d:n=0;{rw[J_ d,J_ d]<;>rfl};rw[I_ d,I_ d];obtain⟨k,rfl⟩:=xR (zO:0<=n);have f:m<=k:=by have:=e zO;omega
 have h:=Mn a m k zO;rw[O'];rw[(zO:min k m=m)]at h;by_cases b:m=0;{rw[J_ b];subst b;have g:k*(a.nodes+3)=k*(a.nodes+2)+k:=by{rw[(zO:a.nodes+3=a.nodes+2+1),xC (k) (a.nodes+2) 1,zI]};simp only[Nat.zero_mul,K_,Nat.sub_zero]at h;omega};rw[I_ b];rw[xC,zI]at h;have:1<=m*a.nodes+m:=zO;omega
def AeV(c m:Nat)(n:Int)(d:0<=n->(m:Int)<=n):min (GU (min c 2001) m n) 2001=min (GU c m n) 2001:=by by_cases e:c<=2001;{rw[Nat.min_eq_left e]};have f:GU 2001 m n<=GU c m n:=by{unfold GU;split;{split;{omega};have:=vY m (zO:2001<=c);omega};split;{omega};split;{have:=vY n.toNat (zO:2001+2<=c+2);omega};have f:=vY m (zO:2001<=c);have b:=vY (n.toNat-m) (zO:2001+3<=c+3);omega};have b:n≠0->2001<=GU 2001 m n:=by{intro a;unfold GU;split;{split;{omega};have:=wO 2001 (zO:1<=m);omega};have g:1<=n.toNat:=zO;split;{have:=wO (2001+2) g;omega};have:=wO 2001 (zO:1<=m);have:=p_ ((n.toNat-m)*(2001+3));omega};rw[Nat.min_eq_right (zO:2001<=c)];by_cases a:n=0;{subst a;rfl};have:=b a;omega
def AjG(a:ReM)(m:Nat)(n:Int)(b:0<=n->(m:Int)<=n):Z' (C9 a m n)=min (GU (Z' a) m n) 2001:=by unfold Z';rw[Xx a m n b,AeV _ _ _ b]
def Pp(op:ROp)(a b:ReM):Z' (opR op a b)=min (1+Z' a+Z' b) 2001:=by unfold Z';rw[RN];omega
def AjK{m:Int}(s:c<=2001)(h:NY m n)(H:Aa):BK prog 51 #[A_ c,A_ m,A_ n] H (.int .i64 ((GU c (Bh m) n:Nat):Int)):=by
 refine Ai.of_vc func51 rfl (call51 _) ?_;by_cases i:m= -2;{have t:n= -1:=by{rcases h with h | h;exact h.2;omega};subst i t;(conv=>whnf);refine⟨?_,D_.refl _ _⟩;congr 1;rw[R_ c zO];rw[W_ (x:=(c:Int)+1+(c:Int)) zO];rw[W_ (x:=(c:Int)+1+(c:Int)+1) zO];show _=((1*c+1+c+1:Nat):Int);omega};obtain⟨l,u,v,w,b⟩:0<=m/\m<=255/\ -1<=n/\n<=255/\(0<=n->m<=n):=by rcases h with h | h;exact absurd h.1 i;exact h
 obtain⟨k,rfl⟩:=xR l;have d:Bh (k:Int)=k:=by unfold Bh;rw[I_ i]<;>rfl
 have y:((k:Int)== -2)=zU:=beq_eq_false_iff_ne.2 i;have C:k*c<=255*2001:=vV zO s;rw[d];unfold GU;(conv=>whnf);try rw[y]
 (conv=>whnf);try refine A7.run ?_
 (conv=>whnf);by_cases a:n<0;{
 have e:zT (n<0)=zW:=r_ a;rw[J_ a];rw[e];by_cases f:k=0;{subst f;(conv=>whnf);refine⟨?_,D_.refl _ _⟩;congr 1;rw[R_ c zO];rfl};have o:((k:Int)==0)=zU:=beq_eq_false_iff_ne.2 zO;rw[I_ f];(conv=>whnf);try rw[o]
 (conv=>whnf);try refine A7.run ?_
 (conv=>whnf);try rw[e]
 (conv=>whnf);refine⟨?_,D_.refl _ _⟩;congr 1;have g:(k:Int)*(c:Int)=((k*c:Nat):Int):=(nE k c).symm;rw[g];generalize k*c=p at*;rw[W_ (x:=(p:Int)) zO];rw[W_ (x:=(p:Int)+k) zO];rw[W_ (x:=(p:Int)+k-1) zO];rw[W_ (x:=(p:Int)+k-1+1) zO];rw[W_ (x:=(p:Int)+k-1+1+c) zO];rw[W_ (x:=(p:Int)+k-1+1+c+1) zO];omega};have e:zT (n<0)=zU:=n_ a;rw[I_ a];try rw[e]
 (conv=>whnf);try refine A7.run ?_
 (conv=>whnf);try rw[e]
 (conv=>whnf);try refine A7.run ?_
 (conv=>whnf);obtain⟨j,rfl⟩:=xR (zO:0<=n);have D:j*(c+2)<=255*2003:=vV zO zO;have E:(j-k)*(c+3)<=255*2004:=vV zO zO;rw[O'];by_cases z:j=0;{subst z;(conv=>whnf);exact⟨by rw[J_ (show((0:Nat):Int)=0 from rfl)]<;>rfl,D_.refl _ _⟩};have o:((j:Int)==0)=zU:=beq_eq_false_iff_ne.2 zO;rw[I_ (show¬(j:Int)=0 by omega)];try rw[o]
 (conv=>whnf);try refine A7.run ?_
 (conv=>whnf);by_cases f:k=0;{subst f;(conv=>whnf);refine⟨?_,D_.refl _ _⟩;congr 1;rw[J_ (show(0:Nat)=0 from rfl)];rw[W_ (x:=(c:Int)+2) zO];have g:(j:Int)*((c:Int)+2)=((j*(c+2):Nat):Int):=by{rw[nE];rfl};rw[g];have A:1<=j*(c+2):=Nat.le_trans zO (vV (zO:1<=j) (zO:2<=c+2));generalize j*(c+2)=p at*;rw[W_ (x:=(p:Int)) zO];rw[W_ (x:=(p:Int)+j) zO];rw[W_ (x:=(p:Int)+j-1) zO];omega};have B:((k:Int)==0)=zU:=beq_eq_false_iff_ne.2 zO;rw[I_ f];try rw[B]
 (conv=>whnf);refine⟨?_,D_.refl _ _⟩;congr 1;rw[W_ (x:=(c:Int)+2) zO];rw[W_ (x:=(c:Int)+2+1) zO];rw[W_ (x:=(j:Int)-(k:Int)) zO];have g:(k:Int)*(c:Int)=((k*c:Nat):Int):=(nE k c).symm;have eq:((j:Int)-(k:Int))*((c:Int)+2+1)=(((j-k)*(c+3):Nat):Int):=by{rw[nE,show((j-k:Nat):Int)=(j:Int)-k by have:=b zO;omega,show(c:Int)+2+1=((c+3:Nat):Int) by omega]};rw[g,eq];have q:=b zO;generalize k*c=p at*;generalize (j-k)*(c+3)=r at*;rw[W_ (x:=(p:Int)) zO];rw[W_ (x:=(p:Int)+k) zO];rw[W_ (x:=(p:Int)+k-1) zO];rw[W_ (x:=(r:Int)) zO];rw[W_ (x:=(p:Int)+k-1+r) zO];omega
def IL(ps:List Pc)(k r:Nat)(t:ByteArray)(q2 q3 i:Nat)(x:BitVec 256):List Pc:=ps.set k (yG r t i)++[pB 108 q2 (Ag 0),pB 108 q3 (Ag x)]
def FJ{r a:Nat}(c:ps[k]?=zY p):(IL ps k r t a b i x)[k]?=zY (yG r t i):=sD (tM c)
def Gi{r a j:Nat}(c:ps[k]?=zY p):(IL ps k r t a b i x).set k (yG r t j)=IL ps k r t a b j x:=by unfold IL;rw[nL (tM c),vO]
def Kz{r a:Nat}:(IL ps k r t b a i x)[(ps.set k (yG r t i)).length+1]?=zY (pB 108 a (Ag x)):=X_ _ _ 1
def TB{r a:Nat}:(IL ps k r t a b i x)[(ps.set k (yG r t i)).length+0]?=zY (pB 108 a (Ag 0)):=X_ _ _ 0
def FH(h:S_ H b 108 (Ag x)):Bi H b 0 (Ag x):=h.cells (λj v a=>by rw[K_];exact a)
structure MemI(B:Nat->Prop)(H0:Aa)(ps:List Pc)(k r:Nat)(t:ByteArray)(q2 q3:Nat)(M:Sum Nat (BitVec 256×Nat))(y:Nat×Nat×BitVec 256)(G:Aa):Prop where
 le:y.1<=t.size
 fuel:t.size<y.2.1+y.1
 eq:F1 t y.2.1 y.1 y.2.2=M
 st:B_ B H0 G (IL ps k r t q2 q3 y.1 y.2.2)
def X0{r:Nat}(hE:I6 H0)(U:B 0)(ht:t.size<=1152921504606846976)(st:B_ B H0 H ps)(o:ps[k]?=zY (yG r t i))(hi:i<=t.size):
  Cf prog 151 #[U_ r] H (λv H'=>∃(x:BitVec 256) (j:Nat),Kd t i= .inr (x,j)/\v=BD x/\B_ B H0 H' (ps.set k (yG r t j)))
   (λx H'=>∃e j:Nat,Kd t i= .inl e/\x=EP 10 e/\B_ B H0 H' (ps.set k (yG r t j))):=by
 refine Cf.of_vc func151 rfl (call151 _) (Af (BD 0) (Ag 0) rfl rfl ?_);intro D H2 a3 a4 a0 a5;have a6:=st.box a3 a4 a0 a5;refine Af (BD 0) (Ag 0) rfl rfl ?_;intro E H3 a7 a8 a1 a9;have F:=a6.box a7 a8 a1 a9;rw[zS]at F;replace F:B_ B H0 H3 (IL ps k r t D E i 0#256):=by{unfold IL;rw[kC o];exact F};refine As.of (Al (NG (F.blk k (FJ o))) λH4 ab=>?_);have N:=F.call ab;obtain⟨O,I⟩:∃O:Bool,O=zT (bt t i=94):=⟨_,rfl⟩;have z:Kd t i=match F1 t (t.size+1) (if O then i+1 else i) 0#256 with | .inl e=>.inl e | .inr (x,k)=>.inr (if O then ~~~x else x,k):=by{unfold Kd;rw[I];by_cases h:bt t i=94;{simp only[h,if_true,decide_true];cases F1 t (t.size+1) (i+1) 0#256<;>rfl};{simp only[h,if_false,decide_false,vT];cases F1 t (t.size+1) i 0#256<;>rfl}}
 obtain⟨i0,J⟩:∃j,j=if O then i+1 else i:=⟨_,rfl⟩;obtain⟨M,hM⟩:∃M,M=F1 t (t.size+1) i0 0#256:=⟨_,rfl⟩;rw[<-J,<-hM]at z;have ae:i0<=t.size:=by{rw[J];cases L:O with|false=>exact hi|true=>rw[L]at I;have ap:=of_decide_eq_true I.symm;exact EU zO};by_cases h0:bt t i=256;rotate_left
 have d1:((bt t i:Int)==(94:Int))=O:=by{rw[I];by_cases h:bt t i=94;{rw[h];rfl};{rw[n_ h];exact beq_eq_false_iff_ne.2 zO}};rw[I_ h0,t_];(conv=>whnf);rw[d1];(conv=>whnf);refine B8.cut [] (λ_:Unit=>[]) (λ_ G=>B_ B H0 G (IL ps k r t D E i0 0#256)) ?_ ?_;{refine AB.mk (λL=>?_) (λL=>?_);{(conv=>whnf);refine G_ AR ?_;refine C_ (v:=A_ i) E_ (by rw[(N.blk k (FJ o)).cell];rfl) zA ?_;(conv=>whnf);rw[W_ (x:=(i:Int)+1) zO];refine G_ AR (Bb N k E_ (FJ o) zZ rfl λH5 P=>?_);replace P:B_ B H0 H5 ((IL ps k r t D E i 0#256).set k (yG r t (i+1))):=P;rw[Gi o]at P;exact⟨rfl,(),rfl,by rw[J,L];exact P⟩};{(conv=>whnf);exact⟨rfl,(),rfl,by rw[J,L];exact N⟩}};cases L:O;rotate_left 2
 have L:O=zU:=by rw[I,n_];omega
 rw[J_ h0,g_];(conv=>whnf);refine B8.cut [] (λ_:Unit=>[]) (λ_ G=>B_ B H0 G (IL ps k r t D E i0 0#256)) ?_ ?_;{(conv=>whnf);exact⟨rfl,(),rfl,by rw[J,L];exact N⟩};(all_goals
 rintro⟨⟩ G ag ah;(conv=>whnf);refine Gx.mk [] (λ_:Nat×Nat×BitVec 256=>[]) (λy G=>MemI B H0 ps k r t D E M y G) (λy _=>t.size-y.1) ?_ ?_;{(conv=>whnf);exact⟨(i0,t.size+1,0#256),rfl,⟨ae,by simp only;omega,hM.symm,ah⟩⟩};{
 rintro⟨j,n,x⟩ J0 ai ⟨hj,aj,K,V⟩;simp only at hj aj K V;obtain⟨n,rfl⟩:∃m,n=m+1:=⟨n-1,zO⟩;(conv=>whnf);try refine B8.run ?_
 refine As.of (Al (NG (V.blk k (FJ o))) λJ1 q=>?_);have C:=V.call q;by_cases Q:bt t j=256;{rw[J_ Q,g_];have h1:CD t Hu j= .inl j:=by{unfold CD;rw[Q,I_ zQ,J_ (.inr (.inl zQ))]};have d:F1 t (n+1) j x= .inl j:=by{rw[F1,I_ zO,h1]};(conv=>whnf);(try refine B8.run ?_);refine As.mk (Pj (s:=Hu) hE U ht C (FJ o)) ?_ ?_;{rintro _ J2 ⟨lo,u,p,rfl,a⟩;exfalso;rw[h1]at p;cases p};{rintro _ J2 ⟨e,u,p,rfl,a⟩;rw[Gi o]at a;refine⟨e,u,?_,rfl,a.lft⟩;rw[h1]at p;cases p;rw[z,<-K,d]}};{
 have ak:=EU Q;have⟨b1,aq,a0,a1⟩:=Es ak;rw[I_ Q,t_];by_cases R:bt t j=93;{
 have d2:((bt t j:Int)==(93:Int))=zW:=by rw[R];rfl
 have d:M= .inr (x,j+1):=by rw[<-K];unfold F1;rw[J_ R]
 (conv=>whnf);try refine B8.run ?_
 (conv=>whnf);rw[d2];refine G_ AR ?_;refine C_ (v:=A_ j) E_ (by rw[(C.blk k (FJ o)).cell];rfl) zA ?_;(conv=>whnf);rw[W_ (x:=(j:Int)+1) zO];refine G_ AR (Bb C k E_ (FJ o) zZ rfl λJ2 a=>?_);replace a:B_ B H0 J2 ((IL ps k r t D E j x).set k (yG r t (j+1))):=a;rw[Gi o]at a;rw[d]at z
 first
 | (skip
    refine L_ (cs:=Ag x) Bn (FH (a.blk _ Kz)) zA (AI (cs:=Ag x) a _ rfl TB (M_ _) rfl λJ4 b=>?_);have S:S_ J4 D 108 (Ag x):=by
     have:=b.blk _ (tM TB);rwa [Bo (by rfl)]at this
    unfold IL at b;rw[zG]at b;refine lN (cs:=Ag x) Bn (FH S) ?_;exact⟨x,j+1,by rw[z,L];rfl,rfl,b.lft⟩)
 | (skip
    refine L_ (cs:=Ag x) Bn (FH (a.blk _ Kz)) zA (As.of (Al (nX x J2) λJ3 w=>?_));have l:=a.call w;refine AI (cs:=Ag (~~~x)) l _ rfl TB (M_ _) rfl λJ4 b=>?_;have S:S_ J4 D 108 (Ag (~~~x)):=by
     have:=b.blk _ (tM TB);rwa [Bo (by rfl)]at this
    unfold IL at b;rw[zG]at b;refine lN (cs:=Ag (~~~x)) Bn (FH S) ?_;exact⟨~~~x,j+1,by rw[z,L];rfl,rfl,b.lft⟩)};{
 have d2:((bt t j:Int)==(93:Int))=zU:=beq_eq_false_iff_ne.2 zO;(conv=>whnf);try refine B8.run ?_
 (conv=>whnf);rw[d2];refine As.mk (Pj (s:=Hu) hE U ht C (FJ o)) ?_ ?_;{
 rintro _ J2 ⟨lo,u,p,rfl,a⟩;rw[Gi o]at a;have ar:=Fp p;have d:F1 t (n+1) j x=Oe t lo u x (F1 t n):=by{rw[F1,I_ R,p]};rw[K]at d;(conv=>whnf);try refine B8.run ?_
 refine As.of (Al (NG (a.blk k (FJ o))) λJ3 w=>?_);have l:=a.call w;by_cases W:bt t u=45;{have am:u<t.size:=EU zO;rw[I_ zO,t_];unfold Oe at d;rw[J_ W]at d;have d3:((bt t u:Int)==(45:Int))=zW:=by{rw[W];rfl};(conv=>whnf);(try refine B8.run ?_);(conv=>whnf);rw[d3];refine G_ AR ?_;refine C_ (v:=A_ u) E_ (by rw[(l.blk k (FJ o)).cell];rfl) zA ?_;(conv=>whnf);rw[W_ (x:=(u:Int)+1) zO];refine G_ AR (Bb l k E_ (FJ o) zZ rfl λJ4 b=>?_);replace b:B_ B H0 J4 ((IL ps k r t D E u x).set k (yG r t (u+1))):=b;rw[Gi o]at b;refine G_ AR ?_;refine C_ (v:=A_ ((u+1:Nat):Int)) E_ (by rw[(b.blk k (FJ o)).cell];rfl) zA ?_;refine As.mk (Pj (s:=Hu) hE U ht b (FJ o)) ?_ ?_;{rintro _ J5 ⟨A,j2,T,rfl,g⟩;rw[Gi o]at g;have ao:=Fp T;rw[T]at d;by_cases a2:A<lo;{have d4:zT ((A:Int)<(lo:Int))=zW:=t_;simp only[J_ a2]at d;(conv=>whnf);rw[d4];refine As.mk En (λ_ _ h=>h.elim) ?_;rintro _ _ ⟨rfl,rfl⟩;exact⟨u+1,j2,by rw[z,d],rfl,g.lft⟩};{have d4:zT ((A:Int)<(lo:Int))=zU:=g_;simp only[I_ a2]at d;(conv=>whnf);rw[d4];refine Du.held (H_ J5) [5] (sq [0,1,2] (.f 3 (.f 4 (.f 5 .e)))) (GZ _ _) rfl zX (L_ (cs:=Ag x) Bn (FH (g.blk _ Kz)) ((g.in_ _ Kz (k:=E) rfl).2) (As.of (Al (KG lo A zO zO J5) λJ1 q=>(⟨q,?_⟩))));refine As.of (Al (No x (Ba lo A) J1) λJ2 X=>?_);have w:=q.trans (X.mono λk hk=>An q hk);refine⟨w,?_⟩;have Y:=g.call w;refine AI (cs:=Ag (x ||| Ba lo A)) Y _ rfl Kz (M_ _) rfl λJ4 c=>?_;rw[Bo (by rfl)]at c;replace c:B_ B H0 J4 (IL ps k r t D E j2 (x ||| Ba lo A)):=by{unfold IL at c ⊢;rw[zG]at c;exact c};(conv=>whnf);exact⟨rfl,(j2,n,x ||| Ba lo A),rfl,⟨by simp only;omega,by simp only;omega,d.symm,c⟩,by simp only;omega⟩}};{rintro _ J5 ⟨e,j2,T,rfl,g⟩;rw[Gi o]at g;rw[T]at d;exact⟨e,j2,by rw[z,d],rfl,g.lft⟩}};{
 unfold Oe at d;rw[I_ W]at d;by_cases Z:bt t u=256;rw[J_ Z,g_];(conv=>whnf);try refine B8.run ?_
 rotate_left
 have S:=Es (EU Z);rw[I_ Z,t_];have d3:((bt t u:Int)==(45:Int))=zU:=beq_eq_false_iff_ne.2 zO;(conv=>whnf);try refine B8.run ?_
 (conv=>whnf);rw[d3];(all_goals refine Du.held (H_ J3) [5] (sq [0,1,2] (.f 3 (.f 4 (.f 5 .e)))) (GZ _ _) rfl zX (L_ (cs:=Ag x) Bn (FH (l.blk _ Kz)) ((l.in_ _ Kz (k:=E) rfl).2) (As.of (Al (KG lo lo zO zO J3) λJ1 q=>(⟨q,?_⟩))));refine As.of (Al (No x (Ba lo lo) J1) λJ2 X=>?_);have w:=q.trans (X.mono λk hk=>An q hk);refine⟨w,?_⟩;have Y:=l.call w;refine AI (cs:=Ag (x ||| Ba lo lo)) Y _ rfl Kz (M_ _) rfl λJ4 c=>?_;rw[Bo (by rfl)]at c;replace c:B_ B H0 J4 (IL ps k r t D E u (x ||| Ba lo lo)):=by{unfold IL at c ⊢;rw[zG]at c;exact c};(conv=>whnf);exact⟨rfl,(u,n,x ||| Ba lo lo),rfl,⟨by simp only;omega,by simp only;omega,d.symm,c⟩,by simp only;omega⟩)}};{rintro _ J2 ⟨e,u,p,rfl,a⟩;rw[Gi o]at a;refine⟨e,u,?_,rfl,a.lft⟩;rw[z,<-K];unfold F1;rw[I_ R,p]}}}})
def Wj{P:w_}{t:x_}{K:v_->Prop}{d:TypeDesc}(a:P.underlying A=zY d)(b:∀c,d≠ .interface c)(k:K v):AH P (Instr.typeAssert (.iface A v) t A zU) S H K:=by refine AH.mk _ (λw _=>?_) k;unfold Instr.typeAssert;simp only[Sem.run_bind,run_underlying a,Result.andThen_ok];cases d<;>first | (exact absurd rfl (b _)) | simp
def AoG:sX 0#256 (m_ ⟨#[10]⟩)=Ba 10 10:=by decide+kernel
def AlZ{r:Nat}(O:I6 H0)(A:B 0)(P:t.size<=1152921504606846976)(R:B_ B H0 H ps)(Q:ps[k]?=zY (yG r t i))(S:i<t.size):
  Cf prog 142 #[U_ r] H (λv H'=>∃(x:BitVec 256) (j:Nat),BP t i= .inr (x,j)/\v=BD x/\B_ B H0 H' (ps.set k (yG r t j)))
   (λx H'=>∃e j:Nat,BP t i= .inl e/\x=EP 10 e/\B_ B H0 H' (ps.set k (yG r t j))):=by
 refine Cf.of_vc func142 rfl (call142 _) ?_;have⟨b,F,I,T⟩:=Es S;refine Af (BD 0) (Ag 0) rfl rfl ?_;intro n H2 J K C L;have m:=R.box J K C L;have h:(ps++[pB 108 n (Ag 0)])[k]?=zY (yG r t i):=sD Q;have f:∀(j:Nat),(ps++[pB 108 n (Ag 0)]).set k (yG r t j)=ps.set k (yG r t j)++[pB 108 n (Ag 0)]:=λj=>nL Q;have z:∀(j:Nat),(ps.set k (yG r t j)++[pB 108 n (Ag 0)])[(ps.set k (yG r t j)).length]?=zY (pB 108 n (Ag 0)):=λj=>Gh _ _;have D:=m.blk k h;refine Du.of (Ap.lex rfl zX (G_ Td ?_));refine C_ (v:=.string t) wG (by rw[D.cell];rfl) zA ?_;refine G_ AR ?_;refine C_ (v:=A_ i) E_ (by rw[D.cell];rfl) zA ?_;refine EJ HI rfl F ?_;rw[<-I];have fin:∀(x:BitVec 256) (j:Nat) (G:Aa),BP t i= .inr (x,j)->B_ B H0 G (ps.set k (yG r t j)++[pB 108 n (Ag 0)])->True:=λ_ _ _ _ _=>trivial;by_cases p:bt t i=46;{have E:((bt t i:Int)==(46:Int))=zW:=by{rw[p];rfl};(conv=>whnf);(try refine B8.run ?_);(conv=>whnf);rw[E];refine G_ AR ?_;refine lT (v:=A_ i) E_ ((m.blk k h).ce rfl) ?_;(conv=>whnf);rw[W_ (x:=(i:Int)+1) zO];refine G_ AR (Bb m k E_ h zZ rfl λH4 g=>?_);replace g:B_ B H0 H4 ((ps++[pB 108 n (Ag 0)]).set k (yG r t (i+1))):=g;rw[f]at g;refine As.of (Al (kG ⟨#[10]⟩ zQ H4) λH5 M=>?_);have a:=g.call M;rw[AoG];refine As.of (Al (nX (Ba 10 10) H5) λH6 u=>?_);have w:=a.call u;refine AI (cs:=Ag (~~~(Ba 10 10))) w _ rfl (z _) (M_ _) rfl λH7 d=>?_;have o:S_ H7 n 108 (Ag (~~~(Ba 10 10))):=by{have:=d.blk _ (tM (z _));rwa [Bo (by rfl)]at this};rw[T4]at d;refine lN (cs:=Ag (~~~(Ba 10 10))) Bn (FH o) ?_;exact⟨_,i+1,by unfold BP;rw[J_ p],rfl,d.lft⟩};have E:((bt t i:Int)==(46:Int))=zU:=beq_eq_false_iff_ne.2 zO;by_cases y:bt t i=91;{have N:((bt t i:Int)==(91:Int))=zW:=by{rw[y];rfl};have l:BP t i=Kd t (i+1):=by{unfold BP;rw[I_ p,J_ y]};(conv=>whnf);(try refine B8.run ?_);(conv=>whnf);rw[E];(conv=>whnf);rw[N];refine G_ AR ?_;refine lT (v:=A_ i) E_ ((m.blk k h).ce rfl) ?_;(conv=>whnf);rw[W_ (x:=(i:Int)+1) zO];refine G_ AR (Bb m k E_ h zZ rfl λH4 g=>?_);replace g:B_ B H0 H4 ((ps++[pB 108 n (Ag 0)]).set k (yG r t (i+1))):=g;refine As.mk (X0 O A P g (tM h) zO) ?_ ?_;{rintro _ H5 ⟨x,j,q,rfl,a⟩;rw[vO,f]at a;refine AI (cs:=Ag x) a _ rfl (z _) (M_ _) rfl λH7 d=>?_;have o:S_ H7 n 108 (Ag x):=by{have:=d.blk _ (tM (z _));rwa [Bo (by rfl)]at this};rw[T4]at d;refine lN (cs:=Ag x) Bn (FH o) ?_;exact⟨x,j,by rw[l,q],rfl,d.lft⟩};{rintro _ H5 ⟨e,j,q,rfl,a⟩;rw[vO,f]at a;exact⟨e,j,by rw[l,q],rfl,a.lft⟩}};have N:((bt t i:Int)==(91:Int))=zU:=beq_eq_false_iff_ne.2 zO;have l:BP t i=match CD t Fy i with | .inl e=>.inl e | .inr (b,k)=>.inr (Ba b b,k):=by unfold BP;rw[I_ p,I_ y]<;>rfl
 (conv=>whnf);try refine B8.run ?_
 (conv=>whnf);rw[E];(conv=>whnf);rw[N];refine As.mk (Pj (s:=Fy) O A P m h) ?_ ?_;{rintro _ H5 ⟨c,j,q,rfl,a⟩;have U:=Fp q;rw[f]at a;rw[q]at l;refine As.of (Al (KG c c zO zO H5) λH6 u=>?_);have w:=a.call u;refine AI (cs:=Ag (Ba c c)) w _ rfl (z _) (M_ _) rfl λH7 d=>?_;have o:S_ H7 n 108 (Ag (Ba c c)):=by{have:=d.blk _ (tM (z _));rwa [Bo (by rfl)]at this};rw[T4]at d;refine lN (cs:=Ag (Ba c c)) Bn (FH o) ?_;exact⟨_,j,l,rfl,d.lft⟩};{rintro _ H5 ⟨e,j,q,rfl,a⟩;rw[f]at a;rw[q]at l;exact⟨e,j,l,rfl,a.lft⟩}
def FE(c i:Nat):v_:=.agg #[A_ c,A_ i,.string ⟨#[]⟩]
def Aw(c i:Nat):List v_:=[A_ c,A_ i,.string ⟨#[]⟩]
def Za(q4 q5 q6:Nat)(x:BitVec 256)(j c e:Nat):List Pc:=[pB 108 q4 (Ag x),pB 3 q5 [A_ j],pB 27 q6 (Aw c e)]
def AiW{q4 q5 q6:Nat}(k:K H):FS prog 141 #[U_ q4,U_ q5,U_ q6] .returning .returning H K:=by refine FS.mk (R:=λH'=>H'=H) (Jh (R:=λH'=>H'=H) func141 rfl ⟨⟨_,rfl⟩,rfl,rfl,rfl,rfl,rfl⟩ .ret rfl ?_) (λH' h=>by rw[h];exact k);(conv=>whnf);refine⟨rfl,?_⟩;refine Tt underlying20 ?_;(conv=>whnf)
def AiV{q4 q5 q6 j c0 e0:Nat}(d:B_ B H0 H (Za q4 q5 q6 x j c0 e0++ps))(k:∀H',B_ B H0 H' (Za q4 q5 q6 0 0 10 e++ps)->K H'):FS prog 141 #[U_ q4,U_ q5,U_ q6] (.panicking (pe (EP 10 e))) (.panicking [{v:=EP 10 e,recovered:=zW}]) H K:=by refine FS.mk (R:=λH'=>B_ B H0 H' (Za q4 q5 q6 0 0 10 e++ps)) (Jh (R:=λH'=>B_ B H0 H' (Za q4 q5 q6 0 0 10 e++ps)) func141 rfl ⟨⟨_,rfl⟩,rfl,rfl,rfl,rfl,rfl⟩ (.pan _) rfl ?_) k;(conv=>whnf);refine⟨rfl,?_⟩;refine YH underlying20 (Ap.held (λ_=>False) 6 (sq [0,1,2] (.f 3 (.f 4 (.f 5 .e)))) rfl zX (CB Ct (BD 0) rfl (Ag 0) rfl (Wj underlying27 (λi h=>by cases h) (AI (cs:=Ag 0) d 0 rfl rfl (M_ _) rfl λH1 F_=>(⟨λk b=>b.elim,?_⟩)))));refine Bb F_ 1 E_ rfl zZ rfl λH2 c=>(⟨λk b=>b.elim,?_⟩);refine AI (cs:=Aw 10 e) c 2 rfl rfl (M_ _) rfl λH3 a=>(⟨λk b=>b.elim,?_⟩);(conv=>whnf);have g:Ah (Ag x) 0 (Ag 0)=Ag 0:=Bo rfl;have e2:Ah (Aw c0 e0) 0 (Aw 10 e)=Aw 10 e:=Bo rfl;rw[e2]at a;rw[g]at a;exact a
def Pz(t:ByteArray)(i:Nat)(v:v_):Prop:=match BP t i with
 | .inl e=>v= .tuple #[BD 0,A_ 0,FE 10 e]
 | .inr (x,j)=>v= .tuple #[BD x,A_ j,FE 0 0]
def FU(Q:I6 H)(V:t.size<=1152921504606846976)(W:i<t.size):
  Ai prog 125 #[.string t,A_ i] H λv H'=>D_ (H_ H) H H'/\Pz t i v:=by
 refine Ai.of_defer func125 rfl (call125 _) ⟨rfl,rfl,rfl,⟨_,rfl⟩,rfl,rfl⟩ (λvs w=>call141 _ w) (Af (BD 0) (Ag 0) rfl rfl ?_);intro q4 H1 o p q s;have F_:=(St.nil H).box o p q s;refine Af (.int .i64 0) [A_ 0] rfl rfl ?_;intro q5 H2 g u y z;have A:=F_.box g u y z;refine Af (FE 0 0) (Aw 0 0) rfl rfl ?_;intro q6 H3 l B C D;have E:=A.box l B C D;have X:zT ((i:Int)<0)=zU:=g_;have Y:zT ((i:Int)>=(t.size:Int))=zU:=g_;(conv=>whnf);rw[X];(conv=>whnf);rw[Y];(conv=>whnf);refine⟨rfl,?_⟩;refine Au underlying260 rfl _ rfl (pU t i) rfl (BI (pU t i) rfl ?_);intro r H4 m F G I;have J:=E.box m F G I;have o3:q4<q5:=by have:q5=H1.size:=g;omega
 have o4:q5<q6:=by have:q6=H2.size:=l;omega
 have o5:q6<r:=by have:r=H3.size:=m;omega
 refine As.mk (AlZ (k:=3) Q Q.2 V J rfl W) ?_ ?_;{rintro _ H5 ⟨x,j,K,rfl,c⟩;refine AI (cs:=Ag x) c 0 rfl rfl (M_ _) rfl λH6 a=>?_;have Z:Ah (Ag 0) 0 (Ag x)=Ag x:=Bo rfl;rw[Z]at a;have S:=a.blk 0 rfl;have br:S_ H6 r 260 (pU t j):=a.blk 3 rfl;refine Du.held (λk=>k=q4\/k=r) [] (sq [0,1,2,3,4,5] (.f 6 (.f 7 (.f 8 .e)))) (Wz (R:=λv H5=>D_ (H_ H) H H5/\Pz t i v) zX) rfl zX (L_ (cs:=Ag x) Bn (FH S) (.inl rfl) (G_ AR ?_));refine C_ (v:=A_ j) E_ (by rw[br.cell];rfl) (.inr rfl) ?_;refine Au underlying27 rfl _ rfl (Aw 0 0) rfl (BH (cs:=Ag x) a 0 rfl rfl (M_ _) rfl λH7 d L a0=>?_);have e2:Ah (Ag x) 0 (Ag x)=Ag x:=Bo rfl;rw[e2]at d;have T:D_ (λk=>k=q4\/k=r) H6 H7:=λk n=>by{rcases n with h | h;{rw[h];exact(d.blk 0 rfl).trans S.symm};{exact L _ (zO:k≠q4)}};refine⟨T,?_⟩;refine Zl d 1 E_ rfl zZ rfl λH8 M N a1=>?_;have U:D_ (λk=>k=q4\/k=r) H6 H8:=T.trans (N.mono λk n=>by rcases n with rfl | rfl<;>omega);refine⟨U,?_⟩;refine BH (cs:=Aw 0 0) M 2 rfl rfl (M_ _) rfl λH9 b O a2=>?_;have a9:D_ (λk=>k=q4\/k=r) H6 H9:=U.trans (O.mono λk n=>by rcases n with rfl | rfl<;>omega);refine⟨a9,?_⟩;(conv=>whnf);refine AiW (L_ (cs:=Ag x) Bn (FH (b.blk 0 rfl)) zA ?_);refine lT (v:=A_ j) E_ ((b.blk 1 rfl).ce rfl) ?_;refine L_ (cs:=Aw 0 0) P5 ((b.blk 2 rfl).cells (λj v P=>by rw[K_];exact P)) zA ?_;refine⟨b.old,?_⟩;unfold Pz;rw[K];rfl};{rintro _ H5 ⟨e,j,K,rfl,c⟩;refine AiV (q4:=q4) (q5:=q5) (q6:=q6) (x:=0) (j:=0) (c0:=0) (e0:=0) c λH6 a=>(L_ (cs:=Ag 0) Bn (FH (a.blk 0 rfl)) zA ?_);refine lT (v:=A_ 0) E_ ((a.blk 1 rfl).ce rfl) ?_;refine L_ (cs:=Aw 10 e) P5 ((a.blk 2 rfl).cells (λj v P=>by rw[K_];exact P)) zA ?_;refine⟨a.old,?_⟩;unfold Pz;rw[K];rfl}
inductive Sc3 where
 | e
 | q (i:Nat) (s:Sc3)
 | f (i:Nat) (s:Sc3)
 | b (i:Nat) (s:Sc3) (j:Nat) (s':Sc3)
 | t (i:Nat) (s:Sc3) (j:Nat) (s':Sc3) (k:Nat) (s'':Sc3)
def sY:List Nat->Sc3->Sc3 | [],s=>s | i::l,s=>.q i (sY l s)
def Sc3.len:Sc3->Nat | .e=>0 | .q _ s=>s.len+1 | .f _ s=>s.len+1 | .b _ s _ _=>s.len+1 | .t _ s _ _ _ _=>s.len+1
def Sc3.even:Sc3->Bool | .e=>zW | .q _ s=>s.even | .f _ s=>s.even | .b _ s _ s'=>s.even&&s'.even&&s.len==s'.len | .t _ s _ s' _ s''=>s.even&&s'.even&&s''.even&&s.len==s'.len&&s.len==s''.len
def Fm(ops:Array Oper):Sc3->Array Bool->Bool | .e,listed=>(Region.ready .any ops listed).isEmpty | .q i s,listed=>(Region.ready .any ops listed).contains i&&Region.free .any ops listed i&&Fm ops s (listed.setIfInBounds i zW)| .f i s,listed=>Region.ready .any ops listed==[i]&&Fm ops s (listed.setIfInBounds i zW)| .b i s j s',listed=>Region.ready .any ops listed==[i,j]&&Fm ops s (listed.setIfInBounds i zW)&&Fm ops s' (listed.setIfInBounds j zW)| .t i s j s' k s'',listed=>Region.ready .any ops listed==[i,j,k]&&Fm ops s (listed.setIfInBounds i zW)&&Fm ops s' (listed.setIfInBounds j zW)&&Fm ops s'' (listed.setIfInBounds k zW)
def held3(P:w_)(S:Nat->Prop)(H0:Aa)(all:List Oper)(s:Sc3):Fr->Aa->(Fr->Aa->Prop)->Prop:=Sc3.rec (motive:=λ_=>Fr->Aa->(Fr->Aa->Prop)->Prop) (λfr H K=>K fr H)
  (λi _ ih fr H K=>match all[i]? with
   | none=>False
   | some o=>Wk all o fr (Xu P S o H λfr' H'=>ih fr' H' K) (VW o H λfr' H'=>ih fr' H' K))
  (λi _ ih fr H K=>O7 P S [] H0 all i fr H λfr' H'=>ih fr' H' K)
  (λi _ j _ ih ih' fr H K=>(O7 P S [] H0 all i fr H λfr' H'=>ih fr' H' K)/\O7 P S [] H0 all j fr H λfr' H'=>ih' fr' H' K)
  (λi _ j _ k _ ih ih' ih'' fr H K=>(O7 P S [] H0 all i fr H λfr' H'=>ih fr' H' K)/\(O7 P S [] H0 all j fr H λfr' H'=>ih' fr' H' K)/\O7 P S [] H0 all k fr H λfr' H'=>ih'' fr' H' K) s
def AhP(P:w_)(S:Nat->Prop)(H0:Aa)(all:List Oper)(i:Nat)(s:Sc3)(fr:Fr)(H:Aa)(K:Fr->Aa->Prop):held3 P S H0 all (.q i s) fr H K=(match all[i]? with | none=>False | some o=>Wk all o fr (Xu P S o H λa H'=>held3 P S H0 all s a H' K) (VW o H λa H'=>held3 P S H0 all s a H' K)):=rfl
def CU{P:w_}{S:Nat->Prop}{w0:y_}{all:List Oper}{Q:Exit->Act->y_->Prop}(hs:Region.noSelect all.toArray=zW)
  (C:∀c a w,¬Q (.panic c) a w):∀(l:Sc3) (d:Array Bool) (fr:Fr) (a:Act) (w:y_) (K:Fr->Aa->Prop),At fr a->l_ w0 w->xQ w0 S w->Zac all.toArray d->
  (∀p a' g,At p a'->l_ w0 g->K p g.heap->Q .normal a' g)->Fm all.toArray l d=zW->l.even=zW->
  held3 P S w0.heap all l fr w.heap K->Ms P all.toArray Q (xQ w0 S) [] l.len d a w
 | .e,d,fr,a,w,K,hat,he,_,_,hq,hB,_,h=>⟨by simpa [Fm]using hB,hq fr a w hat he h⟩
 | .q i s,d,fr,a,w,K,hat,he,hc,hsh,hq,hB,hev,h=>by
   simp only[Fm,X']at hB;obtain⟨⟨D,T⟩,r⟩:=hB;rw[AhP]at h;split at h
   ·exact h.elim
   ·rename_i o U;have E:all.toArray[i]?=zY o:=by simpa using U
    have F:i∈Region.ready .any all.toArray d:=by simpa using D
    rcases O8 hat h with⟨x,h⟩ | ⟨x,h⟩
    ·unfold Xu at h;split at h
     ·have⟨v,V,n⟩:=FC h;rw[Cx]at n;refine GX (v:=v) (f:=all.toArray.size) E (Region.noSelect_spec hs) (λc a' g J=>(C _ _ _ J).elim) rfl (λj H=>by cases H) s.len d a w hsh (Region.free_spec E T) F
       (.inl ⟨x,λg L=>?_⟩) hc ?_
      ·rw[hat.evalF];exact V g λk n=>(L.2 k n).trans (hc.2 k n).symm
      ·exact CU hs C s _ _ _ w K (hat.put o.dst v) he hc (hsh.put F) hq r hev n
     ·exact h.elim
    ·unfold VW at h;rw[Cx]at h;exact GX (v:=undef) (f:=all.toArray.size) E (Region.noSelect_spec hs) (λc a' g J=>(C _ _ _ J).elim) rfl (λj H=>by cases H) s.len d a w hsh (Region.free_spec E T) F
      (.inr ⟨x,rfl⟩) hc (CU hs C s _ _ _ w K (hat.put o.dst undef) he hc (hsh.put F) hq r hev h)
 | .f i s,d,fr,a,w,K,hat,he,hc,hsh,hq,hB,hev,h=>by
   simp only[Fm,X',beq_iff_eq]at hB;have⟨D,r⟩:=hB;refine⟨(λG=>by rw[D]at G;cases G),λj H=>?_⟩;have M:=H;rw[D]at H;obtain rfl:j=i:=by simpa using H
   exact Fc (Z:=[]) hat he (λ_=>hc) h λp a' g z A u B=>⟨u,CU hs C s _ _ _ g K z A (u rfl) (hsh.put M) hq r hev B⟩
 | .b i s j s',d,fr,a,w,K,hat,he,hc,hsh,hq,hB,hev,h=>by
   simp only[Fm,X',beq_iff_eq]at hB;obtain⟨⟨D,r⟩,I⟩:=hB;simp only[Sc3.even,X',beq_iff_eq]at hev;obtain⟨⟨N,e2⟩,O⟩:=hev;refine⟨(λG=>by rw[D]at G;cases G),λk n=>?_⟩;have y:=n;rw[D]at n;rcases zM.1 n with rfl | n
   ·exact Fc (Z:=[]) hat he (λ_=>hc) h.1 λp a' g z A u B=>⟨u,CU hs C s _ _ _ g K z A (u rfl) (hsh.put y) hq r N B⟩
   ·obtain rfl:k=j:=by simpa using n
    rw[O];exact Fc (Z:=[]) hat he (λ_=>hc) h.2 λp a' g z A u B=>⟨u,CU hs C s' _ _ _ g K z A (u rfl) (hsh.put y) hq I e2 B⟩
 | .t i s j s' m s'',d,fr,a,w,K,hat,he,hc,hsh,hq,hB,hev,h=>by
   simp only[Fm,X',beq_iff_eq]at hB;obtain⟨⟨⟨D,r⟩,I⟩,R⟩:=hB;simp only[Sc3.even,X',beq_iff_eq]at hev;obtain⟨⟨⟨⟨N,e2⟩,O⟩,W⟩,X⟩:=hev;refine⟨(λG=>by rw[D]at G;cases G),λk n=>?_⟩;have y:=n;rw[D]at n;rcases zM.1 n with rfl | n
   ·exact Fc (Z:=[]) hat he (λ_=>hc) h.1 λp a' g z A u B=>⟨u,CU hs C s _ _ _ g K z A (u rfl) (hsh.put y) hq r N B⟩
   ·rcases zM.1 n with rfl | n
    ·rw[W];exact Fc (Z:=[]) hat he (λ_=>hc) h.2.1 λp a' g z A u B=>⟨u,CU hs C s' _ _ _ g K z A (u rfl) (hsh.put y) hq I e2 B⟩
    ·obtain rfl:k=m:=by simpa using n
     rw[X];exact Fc (Z:=[]) hat he (λ_=>hc) h.2.2 λp a' g z A u B=>⟨u,CU hs C s'' _ _ _ g K z A (u rfl) (hsh.put y) hq R O B⟩
def Ap.held3{P:w_}{l:List Oper}{fr:Fr}{K:Fr->Aa->Prop}(S:Nat->Prop)(b:Sc3)(g:P.follows .mixedOrders=zW)(c:(Region.noSelect l.toArray&&(b.len==l.length)&&b.even&&Fm l.toArray b (ApO l.length zU))=zW)(h:YtelngokgpnphfaaGreatDoor.held3 P S H l b fr H K):Ap P l fr H K:=by refine⟨?_⟩;intro id Q a w d i k m;subst i;simp only[X',beq_iff_eq]at c;refine wp_region_any g (JN (S:=xQ w S) (Z:=[]) _ _ _ _ ?_);have e:Zac l.toArray (ApO l.length zU):=λj o _ f=>by{rw[Array.getD_eq_getD_getElem?,Array.getElem?_replicate]at f;split at f<;>simp at f};have:=CU (P:=P) (S:=S) (w0:=w) (Q:=Q) c.1.1.1 k b (ApO l.length zU) fr a {w with drawn:=w.drawn+1} K d ⟨rfl,rfl,rfl⟩ ⟨⟨rfl,rfl,rfl⟩,D_.refl _ _⟩ e m c.2 c.1.2 h;rw[c.1.1.2]at this;simpa using this
section
variable{α:Type}{T:Ty α}{e:x_}{a:Option Addr}{n cap:Nat}{xs:List α}
def B_.capT(f:B_ B H0 H ps)(i:Nat)(g:ps[i]?=zY (pN T S e a n cap xs)):xs.length<=cap:=by obtain⟨j,⟨k,c⟩,m⟩:=(f.at_ i g).1;rcases c with⟨c,h⟩ | ⟨b,d,l,c,o,p,q,r,s,t⟩;{rw[h];exact p_ _};cases c;omega
def B_.popT{x:α}(f:B_ B H0 H ps)(i:Nat)(g:ps[i]?=zY (pS T e a n cap (xs++[x]))):B_ B H0 H (ps.set i (pS T e a xs.length cap xs)):=by have d:=(f.at_ i g).1;refine f.say i g _ ⟨d.pop,λk b=>b.elim⟩ λk b=>?_;rcases b with⟨o,m,c,b⟩ | b;{injection b with e1 e2 e3;subst e1;exact .inl ⟨o,n,cap,rfl⟩};exact b.elim
end
def S_.ne{e a:x_}{l c:List v_}(h:S_ H b e l)(d:S_ H i a c)(f:e≠a):b≠i:=by rintro rfl;have g:=Option.some.inj (h.symm.trans d);injection g with _ e2 _;exact f e2
def Q2(h:bt t i=40)(a:fs.length<1000):Cv t ⟨i,f,fs⟩= .inr ⟨i+1,Fq i,AC f::fs⟩:=by unfold Cv;simp only[h];rw[I_ zQ,I_ zQ,I_ zQ,I_ zQ,J_ trivial,I_ zO]
def Q1(h:bt t i=40)(a:1000<=fs.length):Cv t ⟨i,f,fs⟩= .inl (23,i):=by unfold Cv;simp only[h];rw[I_ zQ,I_ zQ,I_ zQ,I_ zQ,J_ trivial,J_ a]
def Oy{g:AF}(h:bt t i=41):Cv t ⟨i,f,g::fs⟩= .inr ⟨i+1,{g with factor:=(CQ f).alt},fs⟩:=by unfold Cv;simp only[h];rw[I_ zQ,I_ zQ,I_ zQ,J_ trivial]
def Na(h:bt t i=41):Cv t ⟨i,f,[]⟩= .inl (20,i):=by unfold Cv;simp only[h];rw[I_ zQ,I_ zQ,I_ zQ,J_ trivial]
def RU(h:bt t i=124):Cv t ⟨i,f,fs⟩= .inr ⟨i+1,CQ f,fs⟩:=by unfold Cv;simp only[h];rw[I_ zQ,J_ trivial]
def JA(h:bt t i=38\/bt t i=45):Cv t ⟨i,f,fs⟩= .inr ⟨i+1,{C5 f with sign:=bt t i},fs⟩:=by unfold Cv;rcases h with h | h<;>(simp only[h];rw[I_ zQ,I_ zQ,J_ zQ])
def Gm(h:GJ (bt t i)=zW)(a:f.factor=zV):Cv t ⟨i,f,fs⟩= .inl (20,i):=by unfold Cv;simp only[a];rw[J_ h]
def PX(c:Nat):Prop:=c≠124/\c≠38/\c≠45/\c≠41/\GJ c=zU
def RV(h:PX (bt t i))(a:bt t i≠40)(b:BP t i= .inr (x,k)):Cv t ⟨i,f,fs⟩= .inr ⟨k,{AC f with factor:=zY (.cls x)},fs⟩:=by unfold Cv;simp only[b];rw[I_ (by rw[h.2.2.2.2];decide),I_ h.1,I_ (by rintro(e | e);exact h.2.1 e;exact h.2.2.1 e),I_ h.2.2.2.1,I_ a]
def Q0(h:PX (bt t i))(a:bt t i≠40)(b:BP t i= .inl e):Cv t ⟨i,f,fs⟩= .inl (10,e):=by unfold Cv;simp only[b];rw[I_ (by rw[h.2.2.2.2];decide),I_ h.1,I_ (by rintro(e | e);exact h.2.1 e;exact h.2.2.1 e),I_ h.2.2.2.1,I_ a]
def Ah3(h:IF t i= .inl e):e<=i+2:=by unfold IF at h;split at h;{cases h;omega};split at h;{cases h};split at h;{cases h};split at h;{cases h};split at h;{split at h;{cases h;omega};split at h;{cases h;omega};cases h};split at h;{cases h;omega};cases h
def TJ{u:ByteArray}(h:CD t u i= .inl e):e<=i+3:=by unfold CD at h;split at h;{have:=Ah3 h;omega};split at h;{cases h;omega};cases h
def T9{t:ByteArray}:∀{n i e:Nat} {x:BitVec 256},F1 t n i x= .inl e->i<=t.size+2->e<=t.size+6
 | 0,i,e,x,h,hi=>by cases h;omega
 | n+1,i,e,x,h,hi=>by
   unfold F1 at h;split at h
   ·cases h
   ·split at h
    ·rename_i d a;cases h;have:=TJ a;omega
    ·rename_i lo j a;have:=Fp a;unfold Oe at h;split at h
     ·split at h
      ·rename_i e2 b;cases h;have:=TJ b;omega
      ·rename_i c f b;have:=Fp b;split at h
       ·cases h;omega
       ·exact T9 h zO
     ·exact T9 h zO
def Q5(h:BP t i= .inl e)(c:i<t.size):e<=t.size+6:=by unfold BP at h;split at h;{cases h};split at h;{unfold Kd at h;split at h;{rename_i b a;cases h;exact T9 a (by split<;>omega)};cases h};split at h;{rename_i b a;cases h;have:=TJ a;omega};cases h
abbrev wM:Ty Int:=E7 .i64
abbrev sP(s:Nat)(t:ByteArray)(i:Nat)(a:Option Addr)(n cap:Nat)(os:List Int)(ps:List Pc):List Pc:=pSc s t i (.slice a n cap)::pS wM 3 a n cap os::ps
structure Sc(B:Nat->Prop)(H:Aa)(s:Nat)(t:ByteArray)(i:Nat)(os:List Int)(ps:List Pc):Prop where
 ex:∃a n cap,B_ B H H (sP s t i a n cap os ps)
structure SR(B:Nat->Prop)(H:Aa)(s:Nat)(t:ByteArray)(j:Nat)(os:List Int)(ps:List Pc)(r:ReM)(v:v_)(H':Aa):Prop where
 ex:∃(B':Nat->Prop) (fn:v_),v= .agg (Ad r fn).toArray/\(∀k,B k->B' k)/\D_ B H H'/\Sc B' H' s t j os ps/\CN B' H' fn r
structure SE(B:Nat->Prop)(H:Aa)(t:ByteArray)(st:RdS)(x:v_)(H':Aa):Prop where
 ex:∃c p:Nat,Ch t st= .inl (c,(p:Int))/\x=EP c p/\D_ B H H'
def SE.from{B':Nat->Prop}{H1 H':Aa}{b a:RdS}{x:v_}(h:SE B' H1 t a x H')(d:Ch t b=Ch t a)(e:D_ B H H1)(hs:∀k,B k->B' k):SE B H t b x H':=by have⟨c,p,f,g,i⟩:=h;exact⟨c,p,d.trans f,g,e.trans λk j=>i k (hs k j)⟩
def Mu(t:ByteArray)(i:Nat):Prop:=∀(B:Nat->Prop) (H:Aa) (s:Nat) (os:List Int) (ps:List Pc) (f:AF) (fs:List AF),I6 H->B 0->i<=t.size->os.length=fs.length->fs.length<=1000->
 f.alt=zV->f.meet=zV->f.row=zV->f.factor=zV->Sc B H s t i os ps->
 Cf prog 14 #[U_ s] H
  (λv H'=>∃j f' r,i<=j/\j<=t.size/\(j=t.size\/bt t j=41)/\Ch t ⟨i,f,fs⟩=Ch t ⟨j,f',fs⟩/\(CQ f').alt=zY r/\f'.place=f.place/\SR B H s t j os ps r v H')
  (λx H'=>SE B H t ⟨i,f,fs⟩ x H')
def Pe{x:Int}(h:inK .i64 x):(Lit.int .i64 x).wf=zW:=by unfold Lit.wf;simp only[X',z'];exact h
def Mb(c e:Nat):List Lit:=[.int .i64 (c:Int),.int .i64 (e:Int),.string []]
def Y9(b:c<9223372036854775808)(d:e<9223372036854775808):prog.keyLits 3 27 (Aw c e)=zY (Mb c e):=by have f:prog.cellsOf 27=3:=zX;have g:prog.cellsOf 25=1:=zX;have h:prog.cellsOf 3=1:=zX;have i:prog.cellsOf 9=1:=zX;have j:(0:Nat)<=maxLen:=p_ _;have a:(⟨#[]⟩:ByteArray).size<=maxLen:=p_ _;simp[Program.keyLits,underlying27,underlying25,underlying3,underlying9,f,g,h,i,Aw,Mb,a,Pe (BJ b),Pe (BJ d)]
def WV{c' a:Nat}:zT (c=c'/\e=a)=zW↔Mb c e=Mb c' a:=by unfold Mb;rw[z'];constructor;{rintro⟨rfl,rfl⟩;rfl};intro h;simp only[List.cons.injEq,Lit.int.injEq,true_and,and_true]at h;exact⟨zO,zO⟩
def AlV{c' a:Nat}(f:c<9223372036854775808)(g:e<9223372036854775808)(b:c'<9223372036854775808)(d:a<9223372036854775808){x y:z_}{K:v_->Prop}(k:K (.bool (!zT (c=c'/\e=a)))):AH prog (do eqGuard .neq 27 x y (.agg (Aw c e).toArray) (.agg (Aw c' a).toArray);binOp .neq 27 (.agg (Aw c e).toArray) (.agg (Aw c' a).toArray)) S H K:=oE (m:=3) (la:=Mb c e) (lb:=Mb c' a) zX zQ (eqGuardType27) rfl rfl (Y9 f g) (Y9 b d) WV k
def Al9{s:Nat}{os:List Int}(hE:I6 H)(L:B 0)(ht:t.size<=1048576)(V:i<t.size)(c8:os.length=fs.length)(c9:fs.length<=1000)
  (ao:PX (bt t i)) (IH:∀i',i<i'->Mu t i') (sc:Sc B H s t i os ps):
  Cf prog 102 #[U_ s] H
   (λv H'=>∃j r,i<j/\j<=t.size/\Ch t ⟨i,f,fs⟩=Ch t ⟨j,{AC f with factor:=zY r},fs⟩/\SR B H s t j os ps r v H')
   (λx H'=>SE B H t ⟨i,f,fs⟩ x H'):=by
 have⟨a,n,cap,st⟩:=sc;refine Cf.of_vc func102 rfl (call102 _) (Af (.agg Aq.toArray) Aq DG rfl ?_);intro A H1 b9 bd be bf;have F_:=st.box b9 bd be bf;refine As.of (Al (Eb (F_.blk 0 rfl) V) λH2 bg=>?_);have g:=F_.call bg;by_cases W:bt t i=40;{
 have d1:(((bt t i:Nat):Int) != 40)=zU:=by rw[W];rfl
 (conv=>whnf);rw[d1];obtain rfl:n=os.length:=g.len 1 rfl;replace g:B_ B H H2 (sP s t i a os.length cap os ps++[pB 60 A Aq]):=g;refine B8.run (G_ Ko ?_);refine lT (v:=.slice a os.length cap) C4 ((g.blk 0 rfl).ce rfl) ?_;by_cases hd:1000<=fs.length;{have d2:zT (1000<=(os.length:Int))=zW:=t_;(conv=>whnf);rw[d2];refine G_ Bg ?_;refine lT (v:=A_ i) E_ ((g.blk 0 rfl).ce rfl) ?_;refine As.mk (Dk (c:=23) (e:=i)) (λ_ _ h=>h.elim) ?_;rintro _ _ ⟨rfl,rfl⟩;exact⟨23,i,Ft V (Q1 W hd),rfl,g.old⟩};{
 have d2:zT (1000<=(os.length:Int))=zU:=g_;(conv=>whnf);rw[d2];refine Du.of (Ap.heldZ (λk=>k=s) [13] (sq [0,1,2,3,4,5,6,7,8] (.f 9 (.f 10 (sq [11,12] (.f 13 .e))))) rfl zX (G_ Ko ?_));refine C_ (v:=.slice a os.length cap) C4 ((g.blk 0 rfl).ce rfl) rfl ?_;refine G_ Bg ?_;refine C_ (v:=A_ i) E_ ((g.blk 0 rfl).ce rfl) rfl ?_;refine Aj AD [A_ i] rfl rfl zQ zQ ?_;intro w H3 bh cd a5 bi;have ap:=g.skip bh bi;refine⟨λk m=>by rw[show k=s from m];exact(ap.blk 0 rfl).trans (g.blk 0 rfl).symm,?_⟩;refine IA (x:=(i:Int)) ap 1 AD rfl a5 ⟨rfl,BJ zO⟩ rfl zO zQ λa4 Y H4 aq ce=>?_;refine⟨λk m=>by rw[show k=s from m];exact(aq.blk 0 rfl).trans (g.blk 0 rfl).symm,?_⟩;refine G_ Ko (Bb aq 0 C4 rfl zZ rfl λH5 a6=>?_);replace a6:B_ B H H5 (sP s t i a4 (os.length+1) Y (os++[(i:Int)]) ps++[pB 60 A Aq]):=a6;refine G_ Bg ?_;refine lT (v:=A_ i) E_ ((a6.blk 0 rfl).ce rfl) ?_;(conv=>whnf);rw[W_ (x:=(i:Int)+1) zO];refine G_ Bg (Bb a6 0 E_ rfl zZ rfl λH6 U=>?_);replace U:B_ B H H6 (sP s t (i+1) a4 (os.length+1) Y (os++[(i:Int)]) ps++[pB 60 A Aq]):=U;have ab:Ch t ⟨i,f,fs⟩=Ch t ⟨i+1,Fq i,AC f::fs⟩:=EY V (Q2 W zO);refine As.mk (IH (i+1) zO B H6 s (os++[(i:Int)]) (ps++[pB 60 A Aq]) (Fq i) (AC f::fs) (LX hE L U) L zO (by simp;omega) (by simp;omega) rfl rfl rfl rfl ⟨a4,_,Y,U.rebase⟩) ?_ ?_;rotate_left
 {intro x H7 h;exact h.from ab U.old λk m=>m};rintro _ H7 ⟨j,f',r,cg,hj,ar,au,bj,bm,⟨B1,f1,rfl,s1,a7,⟨a2,n2,E,a8⟩,gv⟩⟩;obtain⟨g1,c1,rfl⟩:=gv.fn;have bn:n2=os.length+1:=by have:=a8.len 1 rfl;rw[this];simp
 subst bn;replace a8:B_ B1 H7 H7 (sP s t j a2 (os.length+1) E (os++[(i:Int)]) ps++[pB 60 A Aq]):=a8;have aw:D_ B H H7:=U.old.trans a7;refine Af (.agg Aq.toArray) Aq DG rfl ?_;intro q6 H8 bo bp bq br;have ax:=a8.box bo bp bq br;rw[zS]at ax;refine BH (cs:=Ad r (.func (.func g1) #[] c1)) ax _ rfl (X_ _ _ 1) (by simp[Ad,Aq]) rfl λH9 Z ch cj=>?_;rw[zG,De rfl]at Z;replace Z:B_ B1 H7 H9 (sP s t j a2 (os.length+1) E (os++[(i:Int)]) ps++[pB 60 A Aq,pB 60 q6 (Ad r (.func (.func g1) #[] c1))]):=Z;refine B8.run (As.of (Al (FN (Z.blk 0 rfl)) λH10 ay=>?_));have F:=Z.call ay;have bu:D_ B H H10:=aw.trans λk m=>F.old k (s1 k m);by_cases az:j<t.size;{rw[n_ (show¬t.size<=j by omega)];have bv:bt t j=41:=by{rcases ar with h | h;omega;exact h};(conv=>whnf);refine G_ Bg ?_;refine lT (v:=A_ j) E_ ((F.blk 0 rfl).ce rfl) ?_;(conv=>whnf);rw[W_ (x:=(j:Int)+1) zO];refine G_ Bg (Bb F 0 E_ rfl zZ rfl λH11 I=>?_);replace I:B_ B1 H7 H11 (sP s t (j+1) a2 (os.length+1) E (os++[(i:Int)]) ps++[pB 60 A Aq,pB 60 q6 (Ad r (.func (.func g1) #[] c1))]):=I;have b0:=I.capT 1 rfl;rw[O_,c_]at b0;refine Du.of (Ap.heldZ (λk=>k=s) [14] (sq [0,1,2,3,4,5,6,7,8,9,10,11,12,13] (.f 14 .e)) rfl zX (G_ Ko ?_));refine C_ (v:=.slice a2 (os.length+1) E) C4 ((I.blk 0 rfl).ce rfl) rfl ?_;refine G_ Ko ?_;refine C_ (v:=.slice a2 (os.length+1) E) C4 ((I.blk 0 rfl).ce rfl) rfl ?_;(conv=>whnf);rw[W_ (x:=((os.length+1:Nat):Int)-1) zO];rw[show((os.length+1:Nat):Int)-1=(os.length:Int) by omega];refine Zs AD zO zO (G_ Ko ?_);have b4:=I.popT 1 rfl;refine Bb b4 0 C4 rfl zZ rfl λH13 J=>?_;rw[O']at J;replace J:B_ B1 H7 H13 (sP s t (j+1) a2 os.length E os ps++[pB 60 A Aq,pB 60 q6 (Ad r (.func (.func g1) #[] c1))]):=J;refine L_ (cs:=Ad r (.func (.func g1) #[] c1)) BZ (AA (J.blk _ (X_ _ _ 1))) zA (BH (cs:=Ad r (.func (.func g1) #[] c1)) J _ rfl (X_ _ _ 0) (by simp[Ad,Aq]) rfl λH14 K c5 c6=>?_);rw[zG,De rfl]at K;refine L_ (cs:=Ad r (.func (.func g1) #[] c1)) BZ (AA (K.blk _ (X_ _ _ 0))) zA (⟨j+1,r,zO,zO,?_,B1,_,rfl,s1,aw.trans λk m=>K.old k (s1 k m),⟨a2,_,E,K.lft.rebase⟩,gv.frame K.old λk m=>m⟩);rw[ab,au,EY (s:=⟨j,f',AC f::fs⟩) az (Oy bv),bj]};{rw[r_ (zO:t.size<=j)];refine Du.held (H_ H10) [] (sq [0,1,2,3,4,5,6,7,8,9,10,11,12] (.f 13 .e)) (GZ _ _) rfl zX (G_ Ko ?_);refine C_ (v:=.slice a2 (os.length+1) E) C4 ((F.blk 0 rfl).ce rfl) (F.blk 0 rfl).lt ?_;refine G_ Ko ?_;refine C_ (v:=.slice a2 (os.length+1) E) C4 ((F.blk 0 rfl).ce rfl) (F.blk 0 rfl).lt ?_;(conv=>whnf);rw[W_ (x:=((os.length+1:Nat):Int)-1) zO];rw[show((os.length+1:Nat):Int)-1=(os.length:Int) by omega];refine zK (j:=os.length) (x:=(i:Int)) AD F 1 rfl zZ rfl λb5 o5 ck bw bx bz=>?_;obtain⟨rfl,-⟩:=bz;refine C_ (v:=A_ i) E_ bx.one bw (As.mk (Dk (c:=21) (e:=i)) (λ_ _ h=>h.elim) ?_);rintro _ _ ⟨rfl,rfl⟩;refine⟨21,i,?_,rfl,bu⟩;rw[ab,au,Qz (s:=⟨j,f',AC f::fs⟩) az];show Sum.inl (21,f'.place)=_;rw[bm];rfl}}};{have d1:(((bt t i:Nat):Int) != 40)=zW:=bne_iff_ne.2 zO;(conv=>whnf);rw[d1];obtain⟨X,j,D,C,hX,cm,co,hj⟩:∃(X:BitVec 256) (j D C:Nat),(∀v,Pz t i v->v= .tuple #[BD X,A_ j,FE D C])/\D<=10/\C<=t.size+10/\(BP t i= .inl C/\D=10\/BP t i= .inr (X,j)/\D=0/\C=0):=by{cases hr:BP t i with|inl e=>exact⟨0,0,10,e,λv hv=>by unfold Pz at hv;rw[hr]at hv;exact hv,zO,by have:=Q5 hr V;omega,.inl ⟨rfl,rfl⟩⟩|inr y=>exact⟨y.1,y.2,0,0,λv hv=>by unfold Pz at hv;rw[hr]at hv;exact hv,zO,zO,.inr ⟨rfl,rfl,rfl⟩⟩};have a9:B_ B H H2 (sP s t i a n cap os ps++[pB 60 A Aq]):=g;refine Du.of (Ap.cut [3,4,5] (λx:Nat×Nat=>match x with | (w,z)=>[U_ w,A_ j,U_ z]) (λx G=>match x with | (w,z)=>B_ B H G (sP s t i a n cap os ps++[pB 60 A Aq])/\S_ G w 108 (Ag X)/\S_ G z 27 (Aw D C)) ?_ ?_);{refine Ap.held3 (λk=>k=s) (sY [0,1,2,3,4,5,6,7] (.t 8 (sY [9,10,11,12] (.b 13 (.f 14 (.f 15 (.q 16 (.f 17 .e)))) 14 (.f 13 (.f 15 (.q 16 (.f 17 .e)))))) 13 (.b 8 (sY [9,10,11,12] (.f 14 (.f 15 (.q 16 (.f 17 .e))))) 14 (.f 8 (sY [9,10,11,12] (.f 15 (.q 16 (.f 17 .e)))))) 14 (.b 8 (sY [9,10,11,12] (.f 13 (.f 15 (.q 16 (.f 17 .e))))) 13 (.f 8 (sY [9,10,11,12] (.f 15 (.q 16 (.f 17 .e)))))))) rfl zX (G_ Tf ?_);refine C_ (v:=.string t) wG ((g.blk 0 rfl).ce rfl) rfl ?_;refine G_ Bg ?_;refine C_ (v:=A_ i) E_ ((g.blk 0 rfl).ce rfl) rfl ?_;(conv=>whnf);refine⟨?_,?_,?_⟩;{refine Ae.mk (FU (LX hE L a9) zO V) ?_;rintro _ J1 ⟨c2,hR⟩;obtain rfl:=hX _ hR;have u:=a9.call c2;refine⟨λk m=>by rw[show k=s from m];exact(u.blk 0 rfl).trans (g.blk 0 rfl).symm,?_⟩;(conv=>whnf);refine⟨?_,?_⟩;{refine Af (BD 0) (Ag 0) rfl rfl ?_;intro w J2 M N O P;have o:=u.box M N O P;rw[zS]at o;replace o:B_ B H J2 (sP s t i a n cap os ps++[pB 60 A Aq,pB 108 w (Ag 0)]):=o;refine⟨λk m=>by rw[show k=s from m];exact(o.blk 0 rfl).trans (g.blk 0 rfl).symm,?_⟩;(conv=>whnf);refine Af (FE 0 0) (Aw 0 0) rfl rfl ?_;intro z J3 Q R S T;have p:=o.box Q R S T;rw[zS]at p;replace p:B_ B H J3 (sP s t i a n cap os ps++[pB 60 A Aq,pB 108 w (Ag 0),pB 27 z (Aw 0 0)]):=p;refine⟨λk m=>by rw[show k=s from m];exact(p.blk 0 rfl).trans (g.blk 0 rfl).symm,?_⟩;(conv=>whnf);refine AI (cs:=Ag X) p _ rfl (X_ _ _ 1) (M_ _) rfl λJ4 l=>?_;rw[zG]at l;have e4:Ah (Ag 0) 0 (Ag X)=Ag X:=Bo rfl;replace l:B_ B H J4 (sP s t i a n cap os ps++[pB 60 A Aq,pB 108 w (Ah (Ag 0) 0 (Ag X)),pB 27 z (Aw 0 0)]):=l;rw[e4]at l;refine⟨λk m=>by rw[show k=s from m];exact(l.blk 0 rfl).trans (g.blk 0 rfl).symm,?_⟩;refine AI (cs:=Aw D C) l _ rfl (X_ _ _ 2) (M_ _) rfl λJ5 d=>?_;rw[zG]at d;have e5:Ah (Aw 0 0) 0 (Aw D C)=Aw D C:=Bo rfl;replace d:B_ B H J5 (sP s t i a n cap os ps++[pB 60 A Aq,pB 108 w (Ag X),pB 27 z (Ah (Aw 0 0) 0 (Aw D C))]):=d;rw[e5]at d;refine⟨λk m=>by rw[show k=s from m];exact(d.blk 0 rfl).trans (g.blk 0 rfl).symm,?_⟩;(conv=>whnf);exact⟨rfl,(w,z),rfl,d.subl ((tX _).2 (List.Sublist.cons_cons _ (uI _))),d.blk _ (X_ _ _ 1),d.blk _ (X_ _ _ 2)⟩};{refine Af (FE 0 0) (Aw 0 0) rfl rfl ?_;intro z J2 M N O P;have o:=u.box M N O P;rw[zS]at o;replace o:B_ B H J2 (sP s t i a n cap os ps++[pB 60 A Aq,pB 27 z (Aw 0 0)]):=o;refine⟨λk m=>by rw[show k=s from m];exact(o.blk 0 rfl).trans (g.blk 0 rfl).symm,?_⟩;(conv=>whnf);refine Af (BD 0) (Ag 0) rfl rfl ?_;intro w J3 Q R S T;have p:=o.box Q R S T;rw[zS]at p;replace p:B_ B H J3 (sP s t i a n cap os ps++[pB 60 A Aq,pB 27 z (Aw 0 0),pB 108 w (Ag 0)]):=p;refine⟨λk m=>by rw[show k=s from m];exact(p.blk 0 rfl).trans (g.blk 0 rfl).symm,?_⟩;(conv=>whnf);refine AI (cs:=Ag X) p _ rfl (X_ _ _ 2) (M_ _) rfl λJ4 l=>?_;rw[zG]at l;have e4:Ah (Ag 0) 0 (Ag X)=Ag X:=Bo rfl;replace l:B_ B H J4 (sP s t i a n cap os ps++[pB 60 A Aq,pB 27 z (Aw 0 0),pB 108 w (Ah (Ag 0) 0 (Ag X))]):=l;rw[e4]at l;refine⟨λk m=>by rw[show k=s from m];exact(l.blk 0 rfl).trans (g.blk 0 rfl).symm,?_⟩;refine AI (cs:=Aw D C) l _ rfl (X_ _ _ 1) (M_ _) rfl λJ5 d=>?_;rw[zG]at d;have e5:Ah (Aw 0 0) 0 (Aw D C)=Aw D C:=Bo rfl;replace d:B_ B H J5 (sP s t i a n cap os ps++[pB 60 A Aq,pB 27 z (Ah (Aw 0 0) 0 (Aw D C)),pB 108 w (Ag X)]):=d;rw[e5]at d;refine⟨λk m=>by rw[show k=s from m];exact(d.blk 0 rfl).trans (g.blk 0 rfl).symm,?_⟩;(conv=>whnf);exact⟨rfl,(w,z),rfl,d.subl ((tX _).2 (List.Sublist.cons_cons _ (uI _))),d.blk _ (X_ _ _ 2),d.blk _ (X_ _ _ 1)⟩}};{refine Af (BD 0) (Ag 0) rfl rfl ?_;intro w J1 ae ag ah ai;have u:=a9.box ae ag ah ai;rw[zS]at u;replace u:B_ B H J1 (sP s t i a n cap os ps++[pB 60 A Aq,pB 108 w (Ag 0)]):=u;refine⟨λk m=>by rw[show k=s from m];exact(u.blk 0 rfl).trans (g.blk 0 rfl).symm,?_⟩;(conv=>whnf);refine⟨?_,?_⟩;{refine Ae.mk (FU (LX hE L u) zO V) ?_;rintro _ J2 ⟨aj,hR⟩;obtain rfl:=hX _ hR;have o:=u.call aj;refine⟨λk m=>by rw[show k=s from m];exact(o.blk 0 rfl).trans (g.blk 0 rfl).symm,?_⟩;(conv=>whnf);refine Af (FE 0 0) (Aw 0 0) rfl rfl ?_;intro z J3 Q R S T;have p:=o.box Q R S T;rw[zS]at p;replace p:B_ B H J3 (sP s t i a n cap os ps++[pB 60 A Aq,pB 108 w (Ag 0),pB 27 z (Aw 0 0)]):=p;refine⟨λk m=>by rw[show k=s from m];exact(p.blk 0 rfl).trans (g.blk 0 rfl).symm,?_⟩;(conv=>whnf);refine AI (cs:=Ag X) p _ rfl (X_ _ _ 1) (M_ _) rfl λJ4 l=>?_;rw[zG]at l;have e4:Ah (Ag 0) 0 (Ag X)=Ag X:=Bo rfl;replace l:B_ B H J4 (sP s t i a n cap os ps++[pB 60 A Aq,pB 108 w (Ah (Ag 0) 0 (Ag X)),pB 27 z (Aw 0 0)]):=l;rw[e4]at l;refine⟨λk m=>by rw[show k=s from m];exact(l.blk 0 rfl).trans (g.blk 0 rfl).symm,?_⟩;refine AI (cs:=Aw D C) l _ rfl (X_ _ _ 2) (M_ _) rfl λJ5 d=>?_;rw[zG]at d;have e5:Ah (Aw 0 0) 0 (Aw D C)=Aw D C:=Bo rfl;replace d:B_ B H J5 (sP s t i a n cap os ps++[pB 60 A Aq,pB 108 w (Ag X),pB 27 z (Ah (Aw 0 0) 0 (Aw D C))]):=d;rw[e5]at d;refine⟨λk m=>by rw[show k=s from m];exact(d.blk 0 rfl).trans (g.blk 0 rfl).symm,?_⟩;(conv=>whnf);exact⟨rfl,(w,z),rfl,d.subl ((tX _).2 (List.Sublist.cons_cons _ (uI _))),d.blk _ (X_ _ _ 1),d.blk _ (X_ _ _ 2)⟩};{refine Af (FE 0 0) (Aw 0 0) rfl rfl ?_;intro z J2 M N O P;have o:=u.box M N O P;rw[zS]at o;replace o:B_ B H J2 (sP s t i a n cap os ps++[pB 60 A Aq,pB 108 w (Ag 0),pB 27 z (Aw 0 0)]):=o;refine⟨λk m=>by rw[show k=s from m];exact(o.blk 0 rfl).trans (g.blk 0 rfl).symm,?_⟩;(conv=>whnf);refine Ae.mk (FU (LX hE L o) zO V) ?_;rintro _ J3 ⟨ak,hR⟩;obtain rfl:=hX _ hR;have p:=o.call ak;refine⟨λk m=>by rw[show k=s from m];exact(p.blk 0 rfl).trans (g.blk 0 rfl).symm,?_⟩;(conv=>whnf);refine AI (cs:=Ag X) p _ rfl (X_ _ _ 1) (M_ _) rfl λJ4 l=>?_;rw[zG]at l;have e4:Ah (Ag 0) 0 (Ag X)=Ag X:=Bo rfl;replace l:B_ B H J4 (sP s t i a n cap os ps++[pB 60 A Aq,pB 108 w (Ah (Ag 0) 0 (Ag X)),pB 27 z (Aw 0 0)]):=l;rw[e4]at l;refine⟨λk m=>by rw[show k=s from m];exact(l.blk 0 rfl).trans (g.blk 0 rfl).symm,?_⟩;refine AI (cs:=Aw D C) l _ rfl (X_ _ _ 2) (M_ _) rfl λJ5 d=>?_;rw[zG]at d;have e5:Ah (Aw 0 0) 0 (Aw D C)=Aw D C:=Bo rfl;replace d:B_ B H J5 (sP s t i a n cap os ps++[pB 60 A Aq,pB 108 w (Ag X),pB 27 z (Ah (Aw 0 0) 0 (Aw D C))]):=d;rw[e5]at d;refine⟨λk m=>by rw[show k=s from m];exact(d.blk 0 rfl).trans (g.blk 0 rfl).symm,?_⟩;(conv=>whnf);exact⟨rfl,(w,z),rfl,d.subl ((tX _).2 (List.Sublist.cons_cons _ (uI _))),d.blk _ (X_ _ _ 1),d.blk _ (X_ _ _ 2)⟩}};{refine Af (FE 0 0) (Aw 0 0) rfl rfl ?_;intro z J1 ae ag ah ai;have u:=a9.box ae ag ah ai;rw[zS]at u;replace u:B_ B H J1 (sP s t i a n cap os ps++[pB 60 A Aq,pB 27 z (Aw 0 0)]):=u;refine⟨λk m=>by rw[show k=s from m];exact(u.blk 0 rfl).trans (g.blk 0 rfl).symm,?_⟩;(conv=>whnf);refine⟨?_,?_⟩;{refine Ae.mk (FU (LX hE L u) zO V) ?_;rintro _ J2 ⟨aj,hR⟩;obtain rfl:=hX _ hR;have o:=u.call aj;refine⟨λk m=>by rw[show k=s from m];exact(o.blk 0 rfl).trans (g.blk 0 rfl).symm,?_⟩;(conv=>whnf);refine Af (BD 0) (Ag 0) rfl rfl ?_;intro w J3 Q R S T;have p:=o.box Q R S T;rw[zS]at p;replace p:B_ B H J3 (sP s t i a n cap os ps++[pB 60 A Aq,pB 27 z (Aw 0 0),pB 108 w (Ag 0)]):=p;refine⟨λk m=>by rw[show k=s from m];exact(p.blk 0 rfl).trans (g.blk 0 rfl).symm,?_⟩;(conv=>whnf);refine AI (cs:=Ag X) p _ rfl (X_ _ _ 2) (M_ _) rfl λJ4 l=>?_;rw[zG]at l;have e4:Ah (Ag 0) 0 (Ag X)=Ag X:=Bo rfl;replace l:B_ B H J4 (sP s t i a n cap os ps++[pB 60 A Aq,pB 27 z (Aw 0 0),pB 108 w (Ah (Ag 0) 0 (Ag X))]):=l;rw[e4]at l;refine⟨λk m=>by rw[show k=s from m];exact(l.blk 0 rfl).trans (g.blk 0 rfl).symm,?_⟩;refine AI (cs:=Aw D C) l _ rfl (X_ _ _ 1) (M_ _) rfl λJ5 d=>?_;rw[zG]at d;have e5:Ah (Aw 0 0) 0 (Aw D C)=Aw D C:=Bo rfl;replace d:B_ B H J5 (sP s t i a n cap os ps++[pB 60 A Aq,pB 27 z (Ah (Aw 0 0) 0 (Aw D C)),pB 108 w (Ag X)]):=d;rw[e5]at d;refine⟨λk m=>by rw[show k=s from m];exact(d.blk 0 rfl).trans (g.blk 0 rfl).symm,?_⟩;(conv=>whnf);exact⟨rfl,(w,z),rfl,d.subl ((tX _).2 (List.Sublist.cons_cons _ (uI _))),d.blk _ (X_ _ _ 2),d.blk _ (X_ _ _ 1)⟩};{refine Af (BD 0) (Ag 0) rfl rfl ?_;intro w J2 M N O P;have o:=u.box M N O P;rw[zS]at o;replace o:B_ B H J2 (sP s t i a n cap os ps++[pB 60 A Aq,pB 27 z (Aw 0 0),pB 108 w (Ag 0)]):=o;refine⟨λk m=>by rw[show k=s from m];exact(o.blk 0 rfl).trans (g.blk 0 rfl).symm,?_⟩;(conv=>whnf);refine Ae.mk (FU (LX hE L o) zO V) ?_;rintro _ J3 ⟨ak,hR⟩;obtain rfl:=hX _ hR;have p:=o.call ak;refine⟨λk m=>by rw[show k=s from m];exact(p.blk 0 rfl).trans (g.blk 0 rfl).symm,?_⟩;(conv=>whnf);refine AI (cs:=Ag X) p _ rfl (X_ _ _ 2) (M_ _) rfl λJ4 l=>?_;rw[zG]at l;have e4:Ah (Ag 0) 0 (Ag X)=Ag X:=Bo rfl;replace l:B_ B H J4 (sP s t i a n cap os ps++[pB 60 A Aq,pB 27 z (Aw 0 0),pB 108 w (Ah (Ag 0) 0 (Ag X))]):=l;rw[e4]at l;refine⟨λk m=>by rw[show k=s from m];exact(l.blk 0 rfl).trans (g.blk 0 rfl).symm,?_⟩;refine AI (cs:=Aw D C) l _ rfl (X_ _ _ 1) (M_ _) rfl λJ5 d=>?_;rw[zG]at d;have e5:Ah (Aw 0 0) 0 (Aw D C)=Aw D C:=Bo rfl;replace d:B_ B H J5 (sP s t i a n cap os ps++[pB 60 A Aq,pB 27 z (Ah (Aw 0 0) 0 (Aw D C)),pB 108 w (Ag X)]):=d;rw[e5]at d;refine⟨λk m=>by rw[show k=s from m];exact(d.blk 0 rfl).trans (g.blk 0 rfl).symm,?_⟩;(conv=>whnf);exact⟨rfl,(w,z),rfl,d.subl ((tX _).2 (List.Sublist.cons_cons _ (uI _))),d.blk _ (X_ _ _ 2),d.blk _ (X_ _ _ 1)⟩}}};{rintro⟨w,z⟩ G c7 ⟨am,a5,b6⟩;refine B8.run ?_;refine L_ (cs:=Aw D C) P5 (b6.cells (λj v hv=>by rw[K_];exact hv)) zA ?_;refine Au underlying27 rfl _ rfl (Aw 0 0) rfl (AlV zO zO zQ zQ ?_);rcases hj with⟨hr,rfl⟩ | ⟨hr,rfl,rfl⟩;{rw[g_];refine L_ (cs:=Aw 10 C) P5 (b6.cells (λj v hv=>by rw[K_];exact hv)) zA ?_;(conv=>whnf);exact⟨10,C,Ft V (Q0 ao W hr),rfl,am.old⟩};{have b7:=Mm hr;rw[r_ ⟨rfl,rfl⟩];refine G_ Bg (Zl am 0 E_ rfl zZ rfl λG2 a0 c3 cp=>?_);replace a0:B_ B H G2 (sP s t j a n cap os ps++[pB 60 A Aq]):=a0;have b8:=a5.agr c3 (a5.ne (am.blk 0 rfl) zQ);refine L_ (cs:=Ag X) Bn (FH b8) zA (Au underlying239 rfl _ rfl (Ag X) rfl (As.of (Ae.mk (Tx (r:=.cls X) a0 rfl) ?_)));rintro _ G3 ⟨B1,f1,rfl,s1,a3,c4,gs⟩;obtain⟨g1,c1,rfl⟩:=gs.fn;refine BH (cs:=Ad (.cls X) (.func (.func g1) #[] c1)) c4 _ rfl (X_ _ _ 0) (by simp[Ad,Aq]) rfl λG4 a1 cq cr=>?_;rw[zG,De rfl]at a1;refine lN (cs:=Ad (.cls X) (.func (.func g1) #[] c1)) BZ (AA (a1.blk _ (X_ _ _ 0))) ?_;exact⟨j,.cls X,b7.1,b7.2,EY V (RV ao W hr),B1,_,rfl,s1,(a0.old.trans (a3.mono λk m=>a0.up m)).trans λk m=>a1.old k (s1 k m),⟨a,n,cap,a1.lft.rebase⟩,gs.frame a1.old λk m=>m⟩}}}
def pW(d:h_):(j_ d)[259]?=zY (.int .i64 d.m):=by unfold j_ Bw;rw[zL zZ,zL (by simp[Bc])];simp[Bc]
def VG(d:h_):(j_ d)[260]?=zY (.int .i64 d.n):=by unfold j_ Bw;rw[zL zZ,zL (by simp[Bc])];simp[Bc]
def AiZ{m:Int}(a:c<=2001)(h:NY m n):GU c (Bh m) n<=2000000:=by
 have b:Bh m<=255:=by unfold Bh;split<;>rcases h with h | h<;>omega
 have d:n.toNat<=255:=by rcases h with h | h<;>omega
 have e:Bh m*c<=255*2001:=vV b a;have f:n.toNat*(c+2)<=255*2003:=vV d zO;have g:(n.toNat-Bh m)*(c+3)<=255*2004:=vV zO zO;unfold GU;split;{split<;>omega};split;{omega};split<;>omega
def yN(w:RwM):Int:=((Z' w.den:Nat):Int)
def wL(ws:List RwM)(j:Nat):List Int:=(ws.take j).map yN++ApG (ws.length-j) 0
def Cy(a:List RwM){j:Nat}(b:j<=a.length):(wL a j).length=a.length:=by unfold wL;simp;omega
def Ul{j:Nat}(h:a[i]?=zY w)(b:i<j):(wL a j)[i]?=zY (yN w):=by have c:=(T_.1 h).1;unfold wL;rw[yB (by simp;omega),Y',uC,J_ b,h]<;>rfl
def IY{j:Nat}(h:a[j]?=zY w):(wL a j).set j (yN w)=wL a (j+1):=by have e:=(T_.1 h).1;apply yP;intro i;have f:=Cy a (j:=j) zO;by_cases c:i=j;{subst c;rw[yQ zO,Ul h zO]};rw[yX zO];unfold wL;by_cases b:i<j;{rw[yB (by simp;omega),yB (by simp;omega),Y',Y',uC,uC,J_ b,J_ zO]};rw[zL (by simp;omega),zL (by simp;omega),wU,wU];simp only[List.length_map,List.length_take];by_cases d:i<a.length;{rw[J_ zO,J_ zO]};rw[I_ zO,I_ zO]
abbrev uW(b n:Nat)(xs:List Int):Pc:=pS wM 3 (N_ b) n n xs
def Aj6{nc:Nat}{ds:List h_}{o:List RwM}(hS:∀k,S k->k<H.size)(hR:Raw ds o)(hl:ds.length<=16777216)(hd:Y_ wD S H na nc ds):
  Ai prog 24 #[.slice na ds.length nc] H (λv H'=>∃b,v= .slice (N_ b) ds.length ds.length/\St H H' [uW b ds.length (wL o o.length)]):=by
 have B:=hR.len;refine Ai.of_vc func24 rfl (call24 _) (iQ (T:=wM) (v:=0) (S:=none_) AD ⟨rfl,BJ (x:=0) zQ⟩ zO rfl zO zO ?_);intro b H1 hb a4 X a5;rw[O']at X ⊢;have F_:St H H1 [uW b ds.length (wL o 0)]:=by
  have:=(St.nil H).new (T:=wM) (n:=ds.length) (xs:=ApG o.length (0:Int)) hb a4 X a5 (by rw[B];exact Fu (T:=wM) (c:=[A_ 0]) ⟨rfl,BJ (x:=0) zQ⟩ _) (by simp[B]) (by unfold maxLen;omega);unfold wL;simpa using this
 have ai:o.length<=16777216:=zO
 (conv=>whnf);refine A0.mk [4] (λj:Nat=>[A_ j]) (λj G=>j<=o.length/\St H G [uW b ds.length (wL o j)]) (λj _=>o.length-j) ?_ ?_
 ·(conv=>whnf);exact⟨0,rfl,zO,F_⟩
 ·rintro j G aj ⟨u,l⟩;have hv:(o.length:Int)=(ds.length:Int):=by rw[B]
  refine AB.m2 (λhz=>?_) (λhz=>?_)
  ·have p:j<o.length:=zO
   obtain⟨w,F⟩:∃w,o[j]?=zY w:=⟨_,zJ p⟩;have⟨d,us,vs,a6,a7,ak,E⟩:=hR.at_ F;have am:=Cy o u;have I:∀{i:Nat} {a:RwM},us[i]?=zY a->(wL o j)[i]?=zY (yN a)/\i<o.length:=fun{i a} h=>by
    have hi:=(T_.1 h).1;have:o[i]?=zY a:=by rw[a7];exact IK h
    exact⟨Ul this zO,zO⟩
   have D:∀{G':Aa} {S0:Nat->Prop} {K:v_->Prop},St H G' [uW b ds.length (wL o j)]->(∀J Y,Bi G' J Y (j_ d)->H_ G' J->K (.pointer (zY ⟨J,Y,zV⟩)))->AH prog (Instr.indexAt 30 (.slice na ds.length nc) (.int .i64 (j:Int))) S0 G' K:=λst k=>by
    refine U' (i:=j) HP (hd.frame (st.old.mono hS)) a6 rfl ?_;rintro J Y c2 a8 L ⟨rfl,ao⟩;exact k J Y L (st.up (hS J a8))
   refine A7.run (A7.run (D l λJ Y L ap=>(G_ Dq (C_ (v:=A_ d.op) E_ (L 0 _ (Fv d)) zA ?_))));obtain⟨w0,Z⟩:∃w0,w0=w:=⟨_,rfl⟩;cases w with
   | eps=>
     obtain rfl:d=AT 0 0 0:=E;(conv=>whnf);try refine A7.run ?_
     (conv=>whnf);try refine A7.run ?_
     refine D l λb3 o3 y M=>(G_ Dq (C_ (v:=A_ (AT 0 0 0).op) E_ (y 0 _ (Fv _)) zA ?_));(conv=>whnf);try refine A7.run ?_
     refine xT (T:=wM) (j:=j) AD l 0 rfl (by rw[Cy o u];exact p) rfl ?_;refine LB (T:=wM) (j:=j) (x:=1) l 0 E_ rfl rfl (zI _) (by rw[Cy o u];exact p) rfl (λ_ _=>⟨rfl,BJ (x:=1) zQ⟩) λG3 q=>?_;(conv=>whnf);try refine A7.run ?_
     refine zK (j:=j) (x:=(1:Int)) AD q 0 rfl (by exact yQ (by rw[Cy o u];exact p)) rfl λU V z A r t=>?_;obtain⟨rfl,-⟩:=t;refine lT (v:=A_ 1) E_ r.one ?_;(conv=>whnf);rw[R_ j zO];refine⟨rfl,j+1,rfl,⟨zO,?_⟩,zO⟩;have e:(1:Int)=yN (.eps):=by unfold yN;show(1:Int)=((Z' (RwM.eps).den:Nat):Int);rw[show Z' (RwM.eps).den=1 from rfl];rfl
     have g:=q;replace g:St H _ [uW b ds.length ((wL o j).set j 1)]:=g;rw[e,IY F]at g;exact g
   | cls s=>
     obtain rfl:d=Ef s:=E;(conv=>whnf);try refine A7.run ?_
     (conv=>whnf);try refine A7.run ?_
     refine D l λb3 o3 y M=>(G_ Dq (C_ (v:=A_ (Ef s).op) E_ (y 0 _ (Fv _)) zA ?_));(conv=>whnf);try refine A7.run ?_
     refine xT (T:=wM) (j:=j) AD l 0 rfl (by rw[Cy o u];exact p) rfl ?_;refine LB (T:=wM) (j:=j) (x:=1) l 0 E_ rfl rfl (zI _) (by rw[Cy o u];exact p) rfl (λ_ _=>⟨rfl,BJ (x:=1) zQ⟩) λG3 q=>?_;(conv=>whnf);try refine A7.run ?_
     refine zK (j:=j) (x:=(1:Int)) AD q 0 rfl (by exact yQ (by rw[Cy o u];exact p)) rfl λU V z A r t=>?_;obtain⟨rfl,-⟩:=t;refine lT (v:=A_ 1) E_ r.one ?_;(conv=>whnf);rw[R_ j zO];refine⟨rfl,j+1,rfl,⟨zO,?_⟩,zO⟩;have e:(1:Int)=yN (.cls s):=by unfold yN;show(1:Int)=((Z' (RwM.cls s).den:Nat):Int);rw[show Z' (RwM.cls s).den=1 from rfl];rfl
     have g:=q;replace g:St H _ [uW b ds.length ((wL o j).set j 1)]:=g;rw[e,IY F]at g;exact g
   | rep a m n=>
     obtain⟨W,rfl,N,O⟩:=E;have⟨g1,l1⟩:=I N;have za:=NQ a.den;have a9:0<=n->((Bh m:Nat):Int)<=n:=by intro h0;unfold Bh;rcases O with h | h<;>split<;>omega
     have C:Z' (RwM.rep a m n).den=min (GU (Z' a.den) (Bh m) n) 2001:=AjG a.den (Bh m) n a9;have aq:=AiZ za O;(conv=>whnf);try refine A7.run ?_
     refine D l λb3 o3 y M=>(G_ Db (C_ (v:=A_ W) E_ (y 257 _ (JC _)) zA (zK (j:=W) (x:=yN a) AD l 0 rfl g1 rfl λU V z A r t=>?_)));obtain⟨rfl,-⟩:=t;refine lT (v:=A_ (yN a)) E_ r.one ?_;(conv=>whnf);try refine A7.run ?_
     refine D l λb4 o4 P ab=>(G_ Dq (C_ (v:=A_ (EE (W:Int) m n).op) E_ (P 0 _ (Fv _)) zA ?_));(conv=>whnf);try refine A7.run ?_
     refine Ap.heldZ (H_ G) [15] (sq [0,1,2,3,4,5,6,7,8,9,10,11,12] (.f 13 (sq [14] (.f 15 .e)))) rfl zX (D l λb5 o5 Q a0=>(G_ jQ (C_ (v:=A_ m) E_ (Q 259 _ (pW _)) a0 (D l λb6 o6 ae ag=>(G_ Kp (C_ (v:=A_ n) E_ (ae 260 _ (VG _)) ag (Al (AjK (c:=Z' a.den) za O G) λG7 a1=>?_)))))));have a2:=l.call a1;refine⟨a1,?_⟩;refine xT (T:=wM) (j:=j) AD a2 0 rfl (by rw[Cy o u];exact p) rfl ?_;refine LB (T:=wM) (j:=j) (x:=((GU (Z' a.den) (Bh m) n:Nat):Int)) a2 0 E_ rfl rfl (zI _) (by rw[Cy o u];exact p) rfl (λ_ _=>⟨rfl,BJ zO⟩) λG3 q=>?_;(conv=>whnf);try refine A7.run ?_
     refine zK (j:=j) (x:=(((GU (Z' a.den) (Bh m) n:Nat):Int):Int)) AD q 0 rfl (by exact yQ (by rw[Cy o u];exact p)) rfl λU V z A r t=>?_;obtain⟨rfl,-⟩:=t;refine lT (v:=A_ ((((GU (Z' a.den) (Bh m) n:Nat):Int):Int))) E_ r.one ?_;by_cases a3:2001<GU (Z' a.den) (Bh m) n
     ·have R:zT (2001<(((GU (Z' a.den) (Bh m) n:Nat):Int):Int))=zW:=t_;(conv=>whnf);rw[R];refine xT (T:=wM) (j:=j) AD q 0 rfl (by rw[yT,Cy o u];exact p) rfl ?_;refine LB (T:=wM) (j:=j) (x:=2001) q 0 E_ rfl rfl (zI _) (by rw[yT,Cy o u];exact p) rfl (λ_ _=>⟨rfl,BJ (x:=2001) zQ⟩) λG8 g=>?_;(conv=>whnf);rw[R_ j zO];refine⟨rfl,j+1,rfl,⟨zO,?_⟩,zO⟩;have e:(2001:Int)=yN (.rep a m n):=by unfold yN;rw[C];omega
      replace g:St H G8 [uW b ds.length (((wL o j).set j ((GU (Z' a.den) (Bh m) n:Nat):Int)).set j 2001)]:=g;rw[vO,e,IY F]at g;exact g
     ·have R:zT (2001<(((GU (Z' a.den) (Bh m) n:Nat):Int):Int))=zU:=g_;(conv=>whnf);rw[R];(conv=>whnf);rw[R_ j zO];refine⟨rfl,j+1,rfl,⟨zO,?_⟩,zO⟩;have e:(((GU (Z' a.den) (Bh m) n:Nat):Int):Int)=yN (.rep a m n):=by unfold yN;rw[C];omega
      have g:=q;replace g:St H _ [uW b ds.length ((wL o j).set j ((GU (Z' a.den) (Bh m) n:Nat):Int))]:=g;rw[e,IY F]at g;exact g
   | _ a c=>
     obtain⟨W,i2,rfl,N,ah⟩:=E;have⟨g1,l1⟩:=I N;have⟨g2,l2⟩:=I ah;have za:=NQ a.den;have zc:=NQ c.den;have C:Z' w0.den=min (1+Z' a.den+Z' c.den) 2001:=by rw[Z];first | exact Pp .cat _ _ | exact Pp .alt _ _ | exact Pp .and_ _ _ | exact Pp .minus _ _
     rw[<-Z]at F;(conv=>whnf);try refine A7.run ?_
     refine D l λb3 o3 y M=>(G_ Db (C_ (v:=A_ W) E_ (y 257 _ (JC _)) zA (zK (j:=W) (x:=yN a) AD l 0 rfl g1 rfl λU V z A r t=>?_)));obtain⟨rfl,-⟩:=t;refine lT (v:=A_ (yN a)) E_ r.one ?_;(conv=>whnf);try refine A7.run ?_
     refine D l λb4 o4 P ab=>(G_ Dq (C_ E_ (P 0 _ (Fv _)) zA ?_));(conv=>whnf);try refine A7.run ?_
     (conv=>whnf);rw[xG (x:=1+yN a) (by unfold yN;omega) (by unfold yN;omega)];refine D l λb5 o5 Q a0=>(G_ Jt (C_ (v:=A_ i2) E_ (Q 258 _ (VH _)) zA (zK (j:=i2) (x:=yN c) AD l 0 rfl g2 rfl λU V z A r t=>?_)));obtain⟨rfl,-⟩:=t;refine lT (v:=A_ (yN c)) E_ r.one ?_;(conv=>whnf);rw[xG (x:=1+yN a+yN c) (by unfold yN;omega) (by unfold yN;omega)];rw[show 1+yN a+yN c=((1+Z' a.den+Z' c.den:Nat):Int) by unfold yN;omega];refine xT (T:=wM) (j:=j) AD l 0 rfl (by rw[Cy o u];exact p) rfl ?_;refine LB (T:=wM) (j:=j) (x:=((1+Z' a.den+Z' c.den:Nat):Int)) l 0 E_ rfl rfl (zI _) (by rw[Cy o u];exact p) rfl (λ_ _=>⟨rfl,BJ zO⟩) λG3 q=>?_;(conv=>whnf);try refine A7.run ?_
     refine zK (j:=j) (x:=(((1+Z' a.den+Z' c.den:Nat):Int):Int)) AD q 0 rfl (by exact yQ (by rw[Cy o u];exact p)) rfl λU V z A r t=>?_;obtain⟨rfl,-⟩:=t;refine lT (v:=A_ ((((1+Z' a.den+Z' c.den:Nat):Int):Int))) E_ r.one ?_;by_cases a3:2001<1+Z' a.den+Z' c.den
     ·have R:zT (2001<(((1+Z' a.den+Z' c.den:Nat):Int):Int))=zW:=t_;(conv=>whnf);rw[R];refine xT (T:=wM) (j:=j) AD q 0 rfl (by rw[yT,Cy o u];exact p) rfl ?_;refine LB (T:=wM) (j:=j) (x:=2001) q 0 E_ rfl rfl (zI _) (by rw[yT,Cy o u];exact p) rfl (λ_ _=>⟨rfl,BJ (x:=2001) zQ⟩) λG8 g=>?_;(conv=>whnf);rw[R_ j zO];refine⟨rfl,j+1,rfl,⟨zO,?_⟩,zO⟩;have e:(2001:Int)=yN (w0):=by unfold yN;rw[C];omega
      replace g:St H G8 [uW b ds.length (((wL o j).set j ((1+Z' a.den+Z' c.den:Nat):Int)).set j 2001)]:=g;rw[vO,e,IY F]at g;exact g
     ·have R:zT (2001<(((1+Z' a.den+Z' c.den:Nat):Int):Int))=zU:=g_;(conv=>whnf);rw[R];(conv=>whnf);rw[R_ j zO];refine⟨rfl,j+1,rfl,⟨zO,?_⟩,zO⟩;have e:(((1+Z' a.den+Z' c.den:Nat):Int):Int)=yN (w0):=by unfold yN;rw[C];omega
      have g:=q;replace g:St H _ [uW b ds.length ((wL o j).set j ((1+Z' a.den+Z' c.den:Nat):Int))]:=g;rw[e,IY F]at g;exact g
  ·obtain rfl:j=o.length:=zO
   (conv=>whnf);exact⟨b,rfl,l⟩
abbrev reP(bb:Nat)(a:Option Addr)(c:Nat)(ns:List h_)(Ao:Int)(rest:List Pc):List Pc:=pB tRe bb (zR (.slice a ns.length c) Ao)::pS wD 77 a ns.length c ns::rest
section
variable{B:Nat->Prop}{H0 H:Aa}{bb c:Nat}{a:Option Addr}{ns:List h_}{Ao:Int}{rest:List Pc}
def JT{op x y:Int}(g:B_ B H0 H (reP bb a c ns Ao rest))(k:AZ op)(l:AZ x)(m:AZ y)(C:ns.length<=16777216):
  Ai prog 53 #[U_ bb,A_ op,A_ x,A_ y] H
   (λv H'=>v= .int .i64 (ns.length:Int)/\∃a' n,B_ B H0 H' (reP bb a' n (ns++[AT op x y]) Ao rest)):=by refine Ai.of_vc func53 rfl (call53 _) (G_ E2 ?_);refine lT (v:=.slice a ns.length c) FB ((g.blk 0 rfl).ce rfl) ?_;refine Sb op x y (Aj HP (j_ (AT op x y)) rfl (AS _) zQ zQ ?_);intro z H1 p q e f;have F_:=g.skip p f;refine GM (ys:=[AT op x y]) F_ 1 HP rfl (e.cells (o:=0) (cs:=j_ (AT op x y)) λj v r=>by rw[K_];exact r) (Ty.reps_one ⟨rfl,jI k l m⟩) rfl (λu s=>yC.1 (D3 _) u s) (by simp[maxLen];omega) (by simp;omega) λh i H9 d t=>?_;have w:ns.length+[AT op x y].length=(ns++[AT op x y]).length:=zZ;rw[w]at d ⊢;refine G_ E2 (Bb d 0 FB rfl (zQ:0<2) rfl λH10 b=>(G_ E2 ?_));refine lT (v:=.slice h (ns++[AT op x y]).length i) FB ((b.blk 0 rfl).ce rfl) ?_;have A:IntKind.wrap .i64 (((ns++[AT op x y]).length:Int)-1)=(ns.length:Int):=by{rw[O_,c_,xG zO zO];omega};(conv=>whnf);rw[A];(conv=>whnf);exact⟨rfl,h,i,b⟩
def Zv(r:ReM)(ms:List h_):Prop:=r.plain=zW->∀d∈ms,d.op≠5/\d.op≠6
structure GrP(B:Nat->Prop)(H0:Aa)(bb:Nat)(Ao:Int)(rest:List Pc)(ns:List h_)(r:ReM)(v:v_)(H':Aa):Prop where
 ex:∃(ms:List h_) (a':Option Addr) (c':Nat),ms.length=r.nodes/\Zv r ms/\v= .int .i64 ((ns.length+ms.length-1:Nat):Int)/\AO (ns++ms) r (ns.length+ms.length-1)/\B_ B H0 H' (reP bb a' c' (ns++ms) Ao rest)
def Nq(w:RwM):Prop:=∀(B:Nat->Prop) (H0 H:Aa) (bb c:Nat) (a:Option Addr) (ns:List h_) (Ao:Int) (rest:List Pc) (na:Option Addr) (nc i:Nat) (ds:List h_) (ws:List RwM),Raw ds ws->Y_ wD B H0 na nc ds->(∀k,B k->k<H0.size)->ws[i]?=zY w->
 ns.length+w.den.nodes<=4194304->B_ B H0 H (reP bb a c ns Ao rest)->
 Ai prog 25 #[.slice na ds.length nc,A_ i,U_ bb] H (GrP B H0 bb Ao rest ns w.den)
def CE(r:ReM):1<=r.nodes:=by cases r<;>simp[ReM.nodes]<;>omega
def Pb{α:Type}(l:List α)(x:α):(l++[x])[l.length]?=zY x:=zZ
def D2{n:Nat}(h:n<=4194304):AZ (n:Int):=by unfold AZ;omega
def Qt(IH:Nq w){na:Option Addr}{nc i:Nat}{ds:List h_}{g:List RwM}(o:Raw ds g)(f:Y_ wD B H0 na nc ds)(p:∀k,B k->k<H0.size)(q:g[i]?=zY w)(z:ns.length+w.den.nodes+2<=4194304)(r:B_ B H0 H (reP bb a c ns Ao rest)):
  Ai prog 79 #[.slice na ds.length nc,A_ i,U_ bb] H (GrP B H0 bb Ao rest ns (BL w.den)):=by refine Ai.of_vc func79 rfl (call79 _) (Ae.mk (IH B H0 H bb c a ns Ao rest na nc i ds g o f p q zO r) ?_);rintro _ H1 ⟨b,A,C,s,h,rfl,t,F_⟩;have n:=CE w.den;refine Ae.mk (JT (op:=0) (x:=0) (y:=0) F_ (by unfold AZ;omega) (by unfold AZ;omega) (by unfold AZ;omega) (by simp;omega)) ?_;rintro _ H2 ⟨rfl,D,E,j⟩;refine Ae.mk (JT (op:=3) (x:=((ns.length+b.length-1:Nat):Int)) (y:=((ns++b).length:Int)) j (by unfold AZ;omega) (D2 zO) (D2 (by simp;omega)) (by simp;omega)) ?_;rintro _ H3 ⟨rfl,u,v,l⟩;(conv=>whnf);refine⟨b++[AT 0 0 0]++[AT 3 ((ns.length+b.length-1:Nat):Int) ((ns++b).length:Int)],u,v,?_,?_,?_,?_,?_⟩;{simp[BL,ReM.nodes,s];omega};{intro n d f;have m:w.den.plain=zW:=by{simpa [BL,ReM.plain]using n};simp only[k_,V_]at f;rcases f with(f | rfl) | rfl;{exact h m d f};{exact⟨show(0:Int)≠5 by decide,show(0:Int)≠6 by decide⟩};{exact⟨show(3:Int)≠5 by decide,show(3:Int)≠6 by decide⟩}};{congr 1;simp only[O_,c_];omega};{have e:ns++(b++[AT 0 0 0]++[AT 3 ((ns.length+b.length-1:Nat):Int) ((ns++b).length:Int)])=((ns++b)++[AT 0 0 0])++[AT 3 ((ns.length+b.length-1:Nat):Int) ((ns++b).length:Int)]:=by{simp[zS]};rw[e];refine⟨AT 3 ((ns.length+b.length-1:Nat):Int) ((ns++b).length:Int),ns.length+b.length-1,(ns++b).length,?_,rfl,rfl,rfl,t.more.more,⟨AT 0 0 0,IK (Pb _ _),rfl⟩⟩;have:=Pb ((ns++b)++[AT 0 0 0]) (AT 3 ((ns.length+b.length-1:Nat):Int) ((ns++b).length:Int));rw[show ns.length+(b++[AT 0 0 0]++[AT 3 ((ns.length+b.length-1:Nat):Int) ((ns++b).length:Int)]).length-1=((ns++b)++[AT 0 0 0]).length by simp only[O_,c_];omega];exact this};{have e:ns++(b++[AT 0 0 0]++[AT 3 ((ns.length+b.length-1:Nat):Int) ((ns++b).length:Int)])=((ns++b)++[AT 0 0 0])++[AT 3 ((ns.length+b.length-1:Nat):Int) ((ns++b).length:Int)]:=by{simp[zS]};rw[e];exact l}
end
def rO(r:ReM)(m k:Nat):ReM:=(DR r m k).getD .eps
def TU(r:ReM)(m:Nat):rO r m 1=if 0<m then r else BL r:=rfl
def Nc(r:ReM)(m k:Nat)(h:1<=k):rO r m (k+1)= .cat (rO r m k) (if k<m then r else BL r):=Hd r m k h
def TT(r:ReM)(m:Nat){k:Nat}(h:1<=k):∀j,(rO r m k).nodes<=(rO r m (k+j)).nodes
 | 0=>M_ _
 | j+1=>by
   have a:=TT r m h j;have e:(rO r m (k+(j+1))).nodes=1+(rO r m (k+j)).nodes+(if k+j<m then r else BL r).nodes:=by
    rw[(zO:k+(j+1)=(k+j)+1),Nc r m (k+j) zO];rfl
   omega
section
variable{B:Nat->Prop}{H0 H:Aa}{bb c:Nat}{a:Option Addr}{ns:List h_}{Ao:Int}{rest:List Pc}
structure UnI(B:Nat->Prop)(H0:Aa)(bb:Nat)(Ao:Int)(rest:List Pc)(ns:List h_)(r:ReM)(m k:Nat)(out:Int)(G:Aa):Prop where
 ex:∃(ms:List h_) (a:Option Addr) (c:Nat),(k=0->ms=[]/\out= -1)/\(0<k->ms.length=(rO r m k).nodes/\Zv (rO r m k) ms/\out=((ns.length+ms.length-1:Nat):Int)/\AO (ns++ms) (rO r m k) (ns.length+ms.length-1))/\B_ B H0 G (reP bb a c (ns++ms) Ao rest)
def MH{g r2:ReM}{a b:List h_}{op:Int}{R:ReM}{G:Aa}{a':Option Addr}{c':Nat}(l:a.length=g.nodes)(m:Zv g a)(n:b.length=r2.nodes)(o:Zv r2 b)(p:R.plain=zW->g.plain=zW/\r2.plain=zW/\op≠5/\op≠6)(z:R.nodes=1+g.nodes+r2.nodes)(q:∀c d j k,c[ns.length+(a++b++[d]).length-1]?=zY d->d=AT op ((j:Nat):Int) ((k:Nat):Int)->AO c g j->AO c r2 k->AO c R (ns.length+(a++b++[d]).length-1))(r:AO (ns++a) g (ns.length+a.length-1)) (s:AO (ns++a++b) r2 ((ns++a).length+b.length-1))(i:B_ B H0 G (reP bb a' c' (ns++a++b++[AT op ((ns.length+a.length-1:Nat):Int) (((ns++a).length+b.length-1:Nat):Int)]) Ao rest)):GrP B H0 bb Ao rest ns R (.int .i64 ((ns++a++b).length:Int)) G:=by
 have p1:=CE g;have p2:=CE r2;obtain⟨d,h⟩:∃d,d=AT op ((ns.length+a.length-1:Nat):Int) (((ns++a).length+b.length-1:Nat):Int):=⟨_,rfl⟩;rw[<-h]at i;have e:ns++(a++b++[d])=ns++a++b++[d]:=by simp[zS]
 refine⟨a++b++[d],a',c',?_,?_,?_,?_,?_⟩;{simp only[O_,c_,l,n];omega};{intro t x f;have⟨u,v,w,y⟩:=p t;simp only[k_,V_]at f;rcases f with(f | f) | f;{exact m u x f};{exact o v x f};rw[f,h];exact⟨w,y⟩};{congr 1;simp only[O_,c_];omega};{rw[e];refine q _ d _ _ ?_ h r.more.more s.more;rw[show ns.length+(a++b++[d]).length-1=(ns++a++b).length by simp only[O_,c_];omega];exact Pb _ _};rw[e];exact i
def Qa{b:ReM}{a:List h_}{G:Aa}{a':Option Addr}{c':Nat}(d:a.length=b.nodes)(f:Zv b a)(g:AO (ns++a) b (ns.length+a.length-1))(h:B_ B H0 G (reP bb a' c' (ns++a++[AT 4 ((ns.length+a.length-1:Nat):Int) 0]) Ao rest)):GrP B H0 bb Ao rest ns (.star b) (.int .i64 ((ns++a).length:Int)) G:=by
 have p1:=CE b;have e:ns++(a++[AT 4 ((ns.length+a.length-1:Nat):Int) 0])=ns++a++[AT 4 ((ns.length+a.length-1:Nat):Int) 0]:=by simp[zS]
 refine⟨a++[AT 4 ((ns.length+a.length-1:Nat):Int) 0],a',c',?_,?_,?_,?_,?_⟩;{simp only[O_,c_,d,ReM.nodes];omega};{intro i x c;simp only[k_,V_]at c;rcases c with c | rfl;{exact f i x c};exact⟨show(4:Int)≠5 by decide,show(4:Int)≠6 by decide⟩};{congr 1;simp only[O_,c_];omega};{rw[e];refine⟨AT 4 ((ns.length+a.length-1:Nat):Int) 0,ns.length+a.length-1,?_,rfl,rfl,g.more⟩;rw[show ns.length+(a++[AT 4 ((ns.length+a.length-1:Nat):Int) 0]).length-1=(ns++a).length by simp only[O_,c_];omega];exact Pb _ _};rw[e];exact h
def YD{G:Aa}{a':Option Addr}{c':Nat}(a:B_ B H0 G (reP bb a' c' (ns++[AT 0 0 0]) Ao rest)):GrP B H0 bb Ao rest ns .eps (.int .i64 (ns.length:Int)) G:=⟨[AT 0 0 0],a',c',rfl,λ_ x b=>by rcases V_.1 b with rfl;exact⟨show(0:Int)≠5 by decide,show(0:Int)≠6 by decide⟩,zZ,⟨AT 0 0 0,zZ,rfl⟩,a⟩
def GrP.drop{b:List Pc}{G:Aa}(h:GrP B H0 bb Ao (rest++b) ns r v G):GrP B H0 bb Ao rest ns r v G:=by have⟨a,c,d,e,hs,f,g,i⟩:=h;exact⟨a,c,d,e,hs,f,g,i.subl (List.Sublist.cons_cons _ (List.Sublist.cons_cons _ (List.sublist_append_left _ _)))⟩
def AfT(IH:Nq w){na:Option Addr}{nc i:Nat}{ds:List h_}{ws:List RwM}{m n:Int}(hR:Raw ds ws)(hd:Y_ wD B H0 na nc ds)(hB:∀k,B k->k<H0.size)(hw:ws[i]?=zY w)(O:NY m n)(hl:ns.length+(C9 w.den (Bh m) n).nodes<=4194304)(st:B_ B H0 H (reP bb a c ns Ao rest)):Ai prog 52 #[.slice na ds.length nc,.agg (j_ (EE (i:Int) m n)).toArray,U_ bb] H (GrP B H0 bb Ao rest ns (C9 w.den (Bh m) n)):=by
 have b7:Bh m<=255:=by unfold Bh;split<;>rcases O with h | h<;>omega
 have b0:n<=255:=by rcases O with h | h<;>omega
 have b4: -1<=n:=by rcases O with h | h<;>omega
 have b8:0<=n->((Bh m:Nat):Int)<=n:=by intro N;unfold Bh;rcases O with h | h<;>split<;>omega
 have b5:=CE w.den;refine Ai.of_vc func52 rfl (call52 _) (BI (j_ (EE (i:Int) m n)) rfl ?_);intro x H1 hx s ap aq;have F_:=st.box hx s ap aq;replace F_:B_ B H0 H1 (reP bb a c ns Ao (rest++[pB 77 x (j_ (EE (i:Int) m n))])):=F_;refine G_ jQ ?_;refine C_ (v:=A_ m) E_ (by rw[(F_.blk _ (X_ (_::_::rest) _ 0)).cell,K_];exact pW _) zA ?_;(conv=>whnf);refine A7.cut [7] (λ_:Unit=>[A_ ((Bh m:Nat):Int)]) (λ_ G=>B_ B H0 G (reP bb a c ns Ao (rest++[pB 77 x (j_ (EE (i:Int) m n))]))) ?_ ?_;{by_cases D:m= -2;{subst D;(conv=>whnf);exact⟨rfl,(),rfl,F_⟩};have g:(m== -2)=zU:=beq_eq_false_iff_ne.2 D;(conv=>whnf);rw[g];(conv=>whnf);refine⟨rfl,(),?_,F_⟩;have:((Bh m:Nat):Int)=m:=by{unfold Bh;rw[I_ D];have:0<=m:=by{rcases O with h | h<;>omega};omega};rw[this]};rintro⟨⟩ G b6 q;clear st F_ ap aq;refine G_ Kp ?_;refine C_ (v:=A_ n) E_ (by rw[(q.blk _ (X_ (_::_::rest) _ 0)).cell,K_];exact VG _) zA ?_;(conv=>whnf);by_cases b:n<0;have g:zT (n<0)=zW:=r_ b;rw[g];by_cases N:Bh m=0;{have f:C9 w.den (Bh m) n= .star w.den:=by{unfold C9;rw[J_ b,J_ N]};rw[f]at hl ⊢;simp only[ReM.nodes]at hl;have d2:(((Bh m:Nat):Int)==0)=zW:=by{rw[N];rfl};(conv=>whnf);rw[d2];refine G_ Db ?_;refine C_ (v:=A_ i) E_ (by rw[(q.blk _ (X_ (_::_::rest) _ 0)).cell,K_];exact JC _) zA ?_;refine Ae.mk (IH B H0 _ bb _ _ (ns) Ao (rest++[pB 77 x (j_ (EE (i:Int) m n))]) na nc i ds ws hR hd hB hw zO q) ?_;rintro _ G1 ⟨F,a1,c1,t,s,rfl,z,ar⟩;refine Ae.mk (JT (op:=4) (x:=((ns.length+F.length-1:Nat):Int)) (y:=0) ar (by unfold AZ;omega) (D2 zO) (by unfold AZ;omega) (by simp;omega)) ?_;rintro _ G2 ⟨rfl,a2,c2,au⟩;(conv=>whnf);exact(Qa t s z au).drop};have d2:(((Bh m:Nat):Int)==0)=zU:=beq_eq_false_iff_ne.2 zO;(conv=>whnf);rw[d2];have aw:¬(n<0/\Bh m=0):=λh=>N h.2;clear g d2;rotate_left
 have g:zT (n<0)=zU:=n_ b;rw[g];have aw:¬(n<0/\Bh m=0):=λh=>b h.1;clear g;all_goals
  refine G_ Kp ?_;refine C_ (v:=A_ n) E_ (by rw[(q.blk _ (X_ (_::_::rest) _ 0)).cell,K_];exact VG _) zA ?_;(conv=>whnf);by_cases N:n=0;{have g:(n==0)=zW:=by{rw[N];rfl};have f:C9 w.den (Bh m) n= .eps:=by{unfold C9;rw[I_ zO,J_ N]};rw[f]at hl ⊢;simp only[ReM.nodes]at hl;rw[g];refine Ae.mk (JT (op:=0) (x:=0) (y:=0) q (by unfold AZ;omega) (by unfold AZ;omega) (by unfold AZ;omega) zO) ?_;rintro _ G3 ⟨rfl,a2,c2,u⟩;(conv=>whnf);exact(YD u).drop};have g:(n==0)=zU:=beq_eq_false_iff_ne.2 N;rw[g];have P:n≠0:=N;have u:=q;clear q;obtain⟨K,C⟩:∃K:Nat,K=if n<0 then Bh m else n.toNat:=⟨_,rfl⟩;have ax:1<=K:=by rw[C];split<;>omega
  have ay:K<=255:=by rw[C];split<;>omega
  have az:(rO w.den (Bh m) K).nodes<=(C9 w.den (Bh m) n).nodes:=by{unfold C9;by_cases b:n<0;{rw[J_ b,I_ zO,C,J_ b];show _<=1+((DR w.den (Bh m) (Bh m)).getD .eps).nodes+_;unfold rO;omega};rw[I_ b,I_ P,C,I_ b];exact M_ _};refine G_ Kp ?_;refine C_ (v:=A_ n) E_ (by rw[(u.blk _ (X_ (_::_::rest) _ 0)).cell,K_];exact VG _) zA ?_;(conv=>whnf);refine A7.cut [8] (λ_:Unit=>[A_ K]) (λ_ G=>B_ B H0 G (reP bb a c ns Ao (rest++[pB 77 x (j_ (EE (i:Int) m n))]))) ?_ ?_;{(conv=>whnf);by_cases b:n<0;{have g:zT (n<0)=zW:=r_ b;rw[g];(conv=>whnf);exact⟨rfl,(),by rw[C,J_ b],u⟩};have g:zT (n<0)=zU:=n_ b;rw[g];(conv=>whnf);exact⟨rfl,(),by rw[C,I_ b,Ycc zO],u⟩};rintro⟨⟩ G4 a0 Q;clear u;(conv=>whnf);refine A0.mk [9,10] (λy:Nat×Int=>match y with | (k,out)=>[A_ out,A_ k]) (λy G=>match y with | (k,out)=>k<=K/\UnI B H0 bb Ao (rest++[pB 77 x (j_ (EE (i:Int) m n))]) ns w.den (Bh m) k out G) (λy _=>match y with | (k,_)=>K-k) ?_ ?_;{(conv=>whnf);exact⟨(0,-1),rfl,p_ _,⟨[],_,_,λ_=>⟨rfl,rfl⟩,λh=>absurd h zQ,by simpa using Q⟩⟩};rintro⟨k,out⟩ G a5 ⟨hk,⟨r,a1,c1,S,I,q⟩⟩;clear Q;have l:k<K->(rO w.den (Bh m) (k+1)).nodes<=(C9 w.den (Bh m) n).nodes:=λh=>by{have:=TT w.den (Bh m) (k:=k+1) zO (K-(k+1));rw[(zO:k+1+(K-(k+1))=K)]at this;omega};have e:k<K->(ns++r).length+(if k<Bh m then w.den else BL w.den).nodes<=4194304:=λh=>by{have b:=l h;by_cases A:k=0;{obtain⟨rfl,-⟩:=S A;subst A;rw[TU]at b;simp only[yU];omega};obtain⟨t,-,-,-⟩:=I zO;rw[Nc _ _ _ zO]at b;simp only[ReM.nodes]at b;simp only[O_];omega};refine AB.m2 (λhz=>?_) (λhz=>?_);{
  have T:k<K:=zO;replace l:=l T;replace e:=e T;(conv=>whnf);try refine A7.run ?_
  (conv=>whnf);try refine A7.run ?_
  (conv=>whnf);obtain⟨p,hp⟩:∃p,p=if k<Bh m then w.den else BL w.den:=⟨_,rfl⟩;by_cases E:k<Bh m;rw[show zT ((k:Int)<((Bh m:Nat):Int))=zW from t_];rw[J_ E]at e;have U:p=w.den:=by rw[hp,J_ E]
  refine G_ Db ?_;refine C_ (v:=A_ i) E_ (by rw[(q.blk _ (X_ (_::_::rest) _ 0)).cell,K_];exact JC _) zA ?_;refine Ae.mk (IH B H0 _ bb _ _ (ns++r) Ao (rest++[pB 77 x (j_ (EE (i:Int) m n))]) na nc i ds ws hR hd hB hw zO q) ?_;rotate_left
  rw[show zT ((k:Int)<((Bh m:Nat):Int))=zU from g_];rw[I_ E]at e;have U:p=BL w.den:=by rw[hp,I_ E]
  refine G_ Db ?_;refine C_ (v:=A_ i) E_ (by rw[(q.blk _ (X_ (_::_::rest) _ 0)).cell,K_];exact JC _) zA ?_;refine Ae.mk (Qt IH hR hd hB hw (by simp only[BL,ReM.nodes]at e;omega) q) ?_;(all_goals rintro v0 G1 hv;rw[<-U]at hv;obtain⟨o,a2,c2,V,W,rfl,J,X⟩:=hv;have p2:=CE p;(conv=>whnf);(try refine A7.run ?_);(conv=>whnf);by_cases A:k=0;{obtain⟨rfl,rfl⟩:=S A;subst A;(conv=>whnf);rw[W_ (x:=((0:Nat):Int)+1) zO];have e1:rO w.den (Bh m) 1=p:=by{rw[TU,hp]};refine⟨rfl,(1,_),rfl,⟨zO,⟨o,a2,c2,λh=>absurd h zQ,λ_=>?_,by simpa using X⟩⟩,by show K-1<K-0;omega⟩;rw[e1];simp only[yU]at J;exact⟨V,W,zZ,J⟩};obtain⟨t,s,rfl,z⟩:=I zO;have L:rO w.den (Bh m) (k+1)= .cat (rO w.den (Bh m) k) p:=by{rw[Nc _ _ _ zO,hp]};have ab:(rO w.den (Bh m) (k+1)).nodes=1+(rO w.den (Bh m) k).nodes+p.nodes:=by{rw[L];rfl};have p1:=CE (rO w.den (Bh m) k);have Y:zT (((ns.length+r.length-1:Nat):Int)<0)=zU:=g_;(try rw[Y]);refine Ae.mk (JT (op:=2) (x:=((ns.length+r.length-1:Nat):Int)) (y:=(((ns++r).length+o.length-1:Nat):Int)) X (by unfold AZ;omega) (D2 zO) (D2 (by simp;omega)) (by simp;omega)) ?_;rintro _ G2 ⟨rfl,a3,c3,ae⟩;(conv=>whnf);rw[R_ k zO];have⟨Z,a4,c4,g1,gs,g2,g3,g4⟩:=MH (R:=rO w.den (Bh m) (k+1)) t s V W (λh=>by rw[L]at h;simp only[ReM.plain,X']at h;exact⟨h.1,h.2,zQ,zQ⟩) ab (λag d j k' b D h3 h4=>by rw[L];exact⟨d,j,k',b,by rw[D];rfl,by rw[D];rfl,by rw[D];rfl,h3,h4⟩) z J ae;have M:((ns++r++o).length:Int)=((ns.length+Z.length-1:Nat):Int):=by{injection g2};refine⟨rfl,(k+1,((ns++r++o).length:Int)),rfl,⟨zO,⟨Z,a4,c4,λh=>absurd h zO,λ_=>⟨g1,gs,M,g3⟩,g4⟩⟩,by show K-(k+1)<K-k;omega⟩)};obtain rfl:k=K:=zO;obtain⟨t,s,rfl,z⟩:=I zO;have p1:=CE (rO w.den (Bh m) k);(conv=>whnf);try refine A7.run ?_
  refine G_ Kp ?_;refine C_ (v:=A_ n) E_ (by rw[(q.blk _ (X_ (_::_::rest) _ 0)).cell,K_];exact VG _) zA ?_;(conv=>whnf);by_cases b:n<0;{have g:zT (n<0)=zW:=r_ b;rw[J_ b]at C;have f:C9 w.den (Bh m) n= .cat (rO w.den (Bh m) k) (.star w.den):=by{unfold C9;rw[J_ b,I_ zO,C]<;>rfl};rw[f]at hl ⊢;simp only[ReM.nodes]at hl;rw[g];refine G_ Db ?_;refine C_ (v:=A_ i) E_ (by rw[(q.blk _ (X_ (_::_::rest) _ 0)).cell,K_];exact JC _) zA ?_;refine Ae.mk (IH B H0 _ bb _ _ (ns++r) Ao (rest++[pB 77 x (j_ (EE (i:Int) m n))]) na nc i ds ws hR hd hB hw (by simp only[O_];omega) q) ?_;rintro _ G6 ⟨F,a6,c6,ah,ai,rfl,aj,ak⟩;refine Ae.mk (JT (op:=4) (x:=(((ns++r).length+F.length-1:Nat):Int)) (y:=0) ak (by unfold AZ;omega) (D2 (by simp only[O_];omega)) (by unfold AZ;omega) (by simp only[O_];omega)) ?_;rintro _ G7 ⟨rfl,a7,c7,am⟩;have⟨o,a8,c8,g1,gs,g2,g3,g4⟩:=Qa ah ai aj am;have M:((ns++r++F).length:Int)=(((ns++r).length+o.length-1:Nat):Int):=by{injection g2};rw[M];simp only[ReM.nodes]at g1;refine Ae.mk (JT (op:=2) (x:=((ns.length+r.length-1:Nat):Int)) (y:=(((ns++r).length+o.length-1:Nat):Int)) g4 (by unfold AZ;omega) (D2 zO) (D2 (by simp only[O_];omega)) (by simp only[O_];omega)) ?_;rintro _ G8 ⟨rfl,a9,c9,ao⟩;(conv=>whnf);exact(MH (R:=.cat (rO w.den (Bh m) k) (.star w.den)) t s (r2:=.star w.den) (by simp only[ReM.nodes];exact g1) gs (λh=>by simp only[ReM.plain,X']at h ⊢;exact⟨h.1,h.2,zQ,zQ⟩) rfl (λag d j k' b D h3 h4=>⟨d,j,k',b,by rw[D];rfl,by rw[D];rfl,by rw[D];rfl,h3,h4⟩) z g3 ao).drop};have g:zT (n<0)=zU:=n_ b;rw[I_ b]at C;have f:C9 w.den (Bh m) n=rO w.den (Bh m) k:=by unfold C9;rw[I_ b,I_ P,C]<;>rfl
  rw[f];rw[g];(conv=>whnf);exact GrP.drop ⟨r,a1,c1,t,s,rfl,z,q⟩
end
def Vi{G:Aa}{bb:Nat}{Ao:Int}{rest:List Pc}{ns:List h_}{d:h_}{a':Option Addr}{c':Nat}(c:r.nodes=1)(b:d.op≠5/\d.op≠6)(e:∀a k,a[k]?=zY d->AO a r k)(f:B_ B H0 G (reP bb a' c' (ns++[d]) Ao rest)):GrP B H0 bb Ao rest ns r (.int .i64 (ns.length:Int)) G:=⟨[d],a',c',c.symm,λ_ x g=>by rcases V_.1 g with rfl;exact b,zZ,e _ _ zZ,f⟩
def Jw{op:Int}(h0:(op==0)=zU)(t:(op==1)=zU)(h7:(op==7)=zU)(q:AZ op){n o:RwM}(u:Nq n)(z:Nq o)(l:w.den.nodes=1+n.den.nodes+o.den.nodes)(A:w.den.plain=zW->n.den.plain=zW/\o.den.plain=zW/\op≠5/\op≠6)
  (hT:∀(f:List h_) (d:h_) (j k i:Nat),f[i]?=zY d->d=AT op (j:Int) (k:Int)->AO f n.den j->AO f o.den k->AO f w.den i) (C:∀(p:List RwM) (d:h_),NU p d w->∃j k:Nat,d=AT op (j:Int) (k:Int)/\p[j]?=zY n/\p[k]?=zY o):Nq w:=by
 intro B H0 H bb c a ns Ao rest na nc i ds p D E Y hw hl Z;have⟨d,F,G⟩:=D.at2 hw;refine Ai.of_vc func25 rfl (call25 _) ?_;obtain⟨g,h,rfl,I,J⟩:=C _ _ G;rw[l]at hl;refine U' (i:=i) HP (E.frame (Z.old.mono λk hk=>hk)) F rfl ?_;rintro b2 o2 c2 a0 K ⟨rfl,a4⟩;refine L_ (cs:=j_ (AT op (g:Int) (h:Int))) (by rw[AS];exact Rd) K zA ?_;refine Af _ rnZ OJ rfl ?_;intro x H3 hx L M N;have O:=Z.box hx L M N;refine AI (cs:=j_ (AT op (g:Int) (h:Int))) O _ (by rw[AS];rfl) (X_ (_::_::rest) _ 0) (by rw[AS,Cq];decide) (D3 _) λH4 b=>?_;rw[Ar (show(j_ (AT op (g:Int) (h:Int))).length=rnZ.length by rw[AS,Cq])]at b;replace b:B_ B H0 H4 (reP bb a c ns Ao (rest++[pB 77 x (j_ (AT op (g:Int) (h:Int)))])):=by{have e:=zG (pB tRe bb (zR (.slice a ns.length c) Ao)::pS wD 77 a ns.length c ns::rest) [pB 77 x rnZ] 0 (pB 77 x (j_ (AT op (g:Int) (h:Int))));rw[e]at b;exact b};have P:S_ H4 x 77 (j_ (AT op (g:Int) (h:Int))):=b.blk _ (X_ (_::_::rest) _ 0);refine G_ Dq ?_;refine C_ (v:=A_ op) E_ (by rw[P.cell];exact Fv _) zA ?_;(conv=>whnf);try refine A7.run ?_
 (conv=>whnf);try refine A7.run ?_
 (conv=>whnf);rw[h0];(conv=>whnf);rw[t];(conv=>whnf);rw[h7];refine G_ Db ?_;refine C_ (v:=A_ g) E_ (by rw[(b.blk _ (X_ (_::_::rest) _ 0)).cell,K_];exact JC _) zA ?_;refine Ae.mk (u B H0 _ bb _ _ ns Ao (rest++[pB 77 x (j_ (AT op (g:Int) (h:Int)))]) na nc g ds p D E Y I zO b) ?_;rintro _ G1 ⟨m,a1,c1,Q,R,rfl,S,r⟩;refine G_ Jt ?_;refine C_ (v:=A_ h) E_ (by rw[(r.blk _ (X_ (_::_::rest) _ 0)).cell,K_];exact VH _) zA ?_;refine Ae.mk (z B H0 _ bb _ _ (ns++m) Ao (rest++[pB 77 x (j_ (AT op (g:Int) (h:Int)))]) na nc h ds p D E Y J (by simp only[O_];omega) r) ?_;rintro _ G2 ⟨T,a2,c2,U,V,rfl,W,s⟩;have p1:=CE n.den;have p2:=CE o.den;refine G_ Dq ?_;refine C_ (v:=A_ op) E_ (by rw[(s.blk _ (X_ (_::_::rest) _ 0)).cell];exact Fv _) zA ?_;refine Ae.mk (JT (op:=op) (x:=((ns.length+m.length-1:Nat):Int)) (y:=(((ns++m).length+T.length-1:Nat):Int)) s q (D2 zO) (D2 (by simp only[O_];omega)) (by simp only[O_];omega)) ?_;rintro _ G3 ⟨rfl,a3,c3,X⟩;(conv=>whnf);exact(MH Q R U V A l (λf d j k' t h2 h3 h4=>hT f d j k' _ t h2 h3 h4) S W X).drop
def AlW:∀w:RwM,Nq w:=λw=>by
 induction w with
 | eps=>
   intro B H0 H bb c a ns Ao rest na nc i ds Z hR hd hB hw Q O;have⟨d,D,E⟩:=hR.at2 hw;refine Ai.of_vc func25 rfl (call25 _) ?_;obtain rfl:d=AT 0 0 0:=E;refine U' (i:=i) HP (hd.frame (O.old.mono λk g=>g)) D rfl ?_;rintro b2 o2 c2 a0 F ⟨rfl,M⟩;refine L_ (cs:=j_ (AT 0 0 0)) (by rw[AS];exact Rd) F zA ?_;refine Af _ rnZ OJ rfl ?_;intro x H3 hx G I J;have K:=O.box hx G I J;refine AI (cs:=j_ (AT 0 0 0)) K _ (by rw[AS];rfl) (X_ (_::_::rest) _ 0) (by rw[AS,Cq];decide) (D3 _) λH4 b=>?_;rw[Ar (show(j_ (AT 0 0 0)).length=rnZ.length by rw[AS,Cq])]at b;replace b:B_ B H0 H4 (reP bb a c ns Ao (rest++[pB 77 x (j_ (AT 0 0 0))])):=by
    have e:=zG (pB tRe bb (zR (.slice a ns.length c) Ao)::pS wD 77 a ns.length c ns::rest) [pB 77 x rnZ] 0 (pB 77 x (j_ (AT 0 0 0)));rw[e]at b;exact b
   have l:S_ H4 x 77 (j_ (AT 0 0 0)):=b.blk _ (X_ (_::_::rest) _ 0);refine G_ Dq ?_;refine C_ (v:=A_ (AT 0 0 0).op) E_ (by rw[l.cell];exact Fv _) zA ?_;(conv=>whnf);try refine A7.run ?_
   (conv=>whnf);try refine A7.run ?_
   have bl:=(b.blk 0 rfl).lt;have f1:bb≠x:=λe=>b.apart2 (i:=0) (j:=(pB tRe bb (zR (.slice a ns.length c) Ao)::pS wD 77 a ns.length c ns::rest).length+0) rfl (X_ (_::_::rest) _ 0) zZ bb rfl e;refine Ap.heldZ (λk=>k=bb\/k=x) [14] (sq [0,1,2,3,4,5,6,7,8,9] (.f 10 (.f 11 (sq [12,13] (.f 14 .e))))) rfl zX (G_ E2 ?_);refine C_ (v:=.slice a ns.length c) FB ((b.blk 0 rfl).ce rfl) (.inl rfl) ?_;refine G_ Dq ?_;refine C_ (v:=A_ (AT 0 0 0).op) E_ (by rw[l.cell];exact Fv _) (.inr rfl) ?_;refine G_ Tj ?_;refine L_ (cs:=AV (0#256)) (by rw[Bc];exact Zy) (l.cells (o:=0+1) λj v N=>TZ (AT 0 0 0) j v N) (.inr rfl) ?_;refine NJ 0 (0#256) (Aj HP (j_ (AT 0 0 0)) rfl (AS _) zQ zQ ?_);intro z H5 hz a1 R S;have t:=b.skip hz S;have T:S_ H5 x 77 (j_ (AT 0 0 0)):=t.blk _ (X_ (_::_::rest) _ 0);refine⟨λk g=>by
    rcases g with g | g
    ·rw[show k=bb from g];exact(t.blk 0 rfl).trans (b.blk 0 rfl).symm
    ·rw[show k=x from g];exact T.trans l.symm,?_⟩
   refine S8 (ys:=[AT 0 0 0]) t 1 HP rfl (R.cells (o:=0) (cs:=j_ (AT 0 0 0)) λj v N=>by rw[K_];exact N) (Ty.reps_one ⟨rfl,M⟩) rfl (λu hu=>yC.1 (D3 _) u hu) (by simp[RwM.den,ReM.nodes]at Q ⊢;omega) zQ λa9 c9 H9 q a2=>?_;have el:ns.length+[AT 0 0 0].length=(ns++[AT 0 0 0]).length:=zZ
   rw[el]at q ⊢;have U:S_ H9 x 77 (j_ (AT 0 0 0)):=q.blk _ (X_ (_::_::rest) _ 0);refine⟨λk g=>by
    rcases g with g | g
    ·rw[show k=bb from g];exact(q.blk 0 rfl).trans (b.blk 0 rfl).symm
    ·rw[show k=x from g];exact U.trans l.symm,?_⟩
   refine G_ E2 (Bb q 0 FB rfl (zQ:0<2) rfl λH10 p=>(G_ E2 ?_));refine lT (v:=.slice a9 (ns++[AT 0 0 0]).length c9) FB ((p.blk 0 rfl).ce rfl) ?_;have V:IntKind.wrap .i64 (((ns++[AT 0 0 0]).length:Int)-1)=(ns.length:Int):=by
    simp only[RwM.den,ReM.nodes]at Q;rw[O_,c_,xG zO zO];omega
   (conv=>whnf);rw[V];(conv=>whnf);replace p:B_ B H0 H10 (reP bb a9 c9 (ns++[AT 0 0 0]) Ao (rest++[pB 77 x (j_ (AT 0 0 0))])):=p;exact(Vi (r:=.eps) rfl ⟨show(0:Int)≠5 by decide,show(0:Int)≠6 by decide⟩ (λL k h=>⟨_,h,rfl⟩) p).drop
 | cls s=>
   intro B H0 H bb c a ns Ao rest na nc i ds Z hR hd hB hw Q O;have⟨d,D,E⟩:=hR.at2 hw;refine Ai.of_vc func25 rfl (call25 _) ?_;obtain rfl:d=Ef s:=E;refine U' (i:=i) HP (hd.frame (O.old.mono λk g=>g)) D rfl ?_;rintro b2 o2 c2 a0 F ⟨rfl,M⟩;refine L_ (cs:=j_ (Ef s)) (by rw[AS];exact Rd) F zA ?_;refine Af _ rnZ OJ rfl ?_;intro x H3 hx G I J;have K:=O.box hx G I J;refine AI (cs:=j_ (Ef s)) K _ (by rw[AS];rfl) (X_ (_::_::rest) _ 0) (by rw[AS,Cq];decide) (D3 _) λH4 b=>?_;rw[Ar (show(j_ (Ef s)).length=rnZ.length by rw[AS,Cq])]at b;replace b:B_ B H0 H4 (reP bb a c ns Ao (rest++[pB 77 x (j_ (Ef s))])):=by
    have e:=zG (pB tRe bb (zR (.slice a ns.length c) Ao)::pS wD 77 a ns.length c ns::rest) [pB 77 x rnZ] 0 (pB 77 x (j_ (Ef s)));rw[e]at b;exact b
   have l:S_ H4 x 77 (j_ (Ef s)):=b.blk _ (X_ (_::_::rest) _ 0);refine G_ Dq ?_;refine C_ (v:=A_ (Ef s).op) E_ (by rw[l.cell];exact Fv _) zA ?_;(conv=>whnf);try refine A7.run ?_
   (conv=>whnf);try refine A7.run ?_
   have bl:=(b.blk 0 rfl).lt;have f1:bb≠x:=λe=>b.apart2 (i:=0) (j:=(pB tRe bb (zR (.slice a ns.length c) Ao)::pS wD 77 a ns.length c ns::rest).length+0) rfl (X_ (_::_::rest) _ 0) zZ bb rfl e;refine Ap.heldZ (λk=>k=bb\/k=x) [14] (sq [0,1,2,3,4,5,6,7,8,9] (.f 10 (.f 11 (sq [12,13] (.f 14 .e))))) rfl zX (G_ E2 ?_);refine C_ (v:=.slice a ns.length c) FB ((b.blk 0 rfl).ce rfl) (.inl rfl) ?_;refine G_ Dq ?_;refine C_ (v:=A_ (Ef s).op) E_ (by rw[l.cell];exact Fv _) (.inr rfl) ?_;refine G_ Tj ?_;refine L_ (cs:=AV (s)) (by rw[Bc];exact Zy) (l.cells (o:=0+1) λj v N=>TZ (Ef s) j v N) (.inr rfl) ?_;refine NJ 1 (s) (Aj HP (j_ (Ef s)) rfl (AS _) zQ zQ ?_);intro z H5 hz a1 R S;have t:=b.skip hz S;have T:S_ H5 x 77 (j_ (Ef s)):=t.blk _ (X_ (_::_::rest) _ 0);refine⟨λk g=>by
    rcases g with g | g
    ·rw[show k=bb from g];exact(t.blk 0 rfl).trans (b.blk 0 rfl).symm
    ·rw[show k=x from g];exact T.trans l.symm,?_⟩
   refine S8 (ys:=[Ef s]) t 1 HP rfl (R.cells (o:=0) (cs:=j_ (Ef s)) λj v N=>by rw[K_];exact N) (Ty.reps_one ⟨rfl,M⟩) rfl (λu hu=>yC.1 (D3 _) u hu) (by simp[RwM.den,ReM.nodes]at Q ⊢;omega) zQ λa9 c9 H9 q a2=>?_;have el:ns.length+[Ef s].length=(ns++[Ef s]).length:=zZ
   rw[el]at q ⊢;have U:S_ H9 x 77 (j_ (Ef s)):=q.blk _ (X_ (_::_::rest) _ 0);refine⟨λk g=>by
    rcases g with g | g
    ·rw[show k=bb from g];exact(q.blk 0 rfl).trans (b.blk 0 rfl).symm
    ·rw[show k=x from g];exact U.trans l.symm,?_⟩
   refine G_ E2 (Bb q 0 FB rfl (zQ:0<2) rfl λH10 p=>(G_ E2 ?_));refine lT (v:=.slice a9 (ns++[Ef s]).length c9) FB ((p.blk 0 rfl).ce rfl) ?_;have V:IntKind.wrap .i64 (((ns++[Ef s]).length:Int)-1)=(ns.length:Int):=by
    simp only[RwM.den,ReM.nodes]at Q;rw[O_,c_,xG zO zO];omega
   (conv=>whnf);rw[V];(conv=>whnf);replace p:B_ B H0 H10 (reP bb a9 c9 (ns++[Ef s]) Ao (rest++[pB 77 x (j_ (Ef s))])):=p;exact(Vi (r:=.cls s) rfl ⟨show(1:Int)≠5 by decide,show(1:Int)≠6 by decide⟩ (λL k h=>⟨_,h,rfl,rfl⟩) p).drop
 | cat V w2 y A=>exact Jw (op:=2) rfl rfl rfl (by unfold AZ;omega) y A rfl (λh=>by simp only[RwM.den,ReM.plain,X']at h;exact⟨h.1,h.2,zQ,zQ⟩) (λL d j k i W C X Y=>⟨d,j,k,W,by rw[C];rfl,by rw[C];rfl,by rw[C];rfl,X,Y⟩) (λZ d h=>h)
 | alt V w2 y A=>exact Jw (op:=3) rfl rfl rfl (by unfold AZ;omega) y A rfl (λh=>by simp only[RwM.den,ReM.plain,X']at h;exact⟨h.1,h.2,zQ,zQ⟩) (λL d j k i W C X Y=>⟨d,j,k,W,by rw[C];rfl,by rw[C];rfl,by rw[C];rfl,X,Y⟩) (λZ d h=>h)
 | and_ V w2 y A=>exact Jw (op:=5) rfl rfl rfl (by unfold AZ;omega) y A rfl (λh=>by cases h) (λL d j k i W C X Y=>⟨d,j,k,W,by rw[C];rfl,by rw[C];rfl,by rw[C];rfl,X,Y⟩) (λZ d h=>h)
 | minus V w2 y A=>exact Jw (op:=6) rfl rfl rfl (by unfold AZ;omega) y A rfl (λh=>by cases h) (λL d j k i W C X Y=>⟨d,j,k,W,by rw[C];rfl,by rw[C];rfl,by rw[C];rfl,X,Y⟩) (λZ d h=>h)
 | rep w m n ih=>
   intro B H0 H bb c a ns Ao rest na nc i ds Z hR hd hB hw Q O;have⟨d,D,E⟩:=hR.at2 hw;refine Ai.of_vc func25 rfl (call25 _) ?_;obtain⟨P,rfl,a3,a4⟩:=E;refine U' (i:=i) HP (hd.frame (O.old.mono λk g=>g)) D rfl ?_;rintro b2 o2 c2 a0 F ⟨rfl,M⟩;refine L_ (cs:=j_ (EE (P:Int) m n)) (by rw[AS];exact Rd) F zA ?_;refine Af _ rnZ OJ rfl ?_;intro x H3 hx G I J;have K:=O.box hx G I J;refine AI (cs:=j_ (EE (P:Int) m n)) K _ (by rw[AS];rfl) (X_ (_::_::rest) _ 0) (by rw[AS,Cq];decide) (D3 _) λH4 b=>?_;rw[Ar (show(j_ (EE (P:Int) m n)).length=rnZ.length by rw[AS,Cq])]at b;replace b:B_ B H0 H4 (reP bb a c ns Ao (rest++[pB 77 x (j_ (EE (P:Int) m n))])):=by
    have e:=zG (pB tRe bb (zR (.slice a ns.length c) Ao)::pS wD 77 a ns.length c ns::rest) [pB 77 x rnZ] 0 (pB 77 x (j_ (EE (P:Int) m n)));rw[e]at b;exact b
   have l:S_ H4 x 77 (j_ (EE (P:Int) m n)):=b.blk _ (X_ (_::_::rest) _ 0);refine G_ Dq ?_;refine C_ (v:=A_ (EE (P:Int) m n).op) E_ (by rw[l.cell];exact Fv _) zA ?_;(conv=>whnf);try refine A7.run ?_
   (conv=>whnf);try refine A7.run ?_
   refine L_ (cs:=j_ (EE (P:Int) m n)) (by rw[AS];exact Rd) (l.cells (o:=0) λj v N=>by rw[K_];exact N) zA ?_;refine Ae.mk (AfT ih hR hd hB a3 a4 Q b) ?_;intro v G1 h;(conv=>whnf);exact GrP.drop h
def kT{op a b m n:v_}(h:U.length=256):Ah (Bw op U a b m n) 259 [va]=Bw op U a b va n:=by unfold Ah Bw;have c:([op]++(U++[a,b,m,n])).take 259=[op]++(U++[a,b]):=by{rw[show([op]++(U++[a,b,m,n])).take (258+1)=op::(U++[a,b,m,n]).take 258 from rfl,show(258:Nat)=U.length+2 by omega,oV];rfl};have e2:([op]++(U++[a,b,m,n])).drop (259+1)=[n]:=by{rw[show([op]++(U++[a,b,m,n])).drop (259+1)=(U++[a,b,m,n]).drop 259 from rfl,show(259:Nat)=U.length+3 by omega,rG];rfl};rw[c,show 259+[va].length=259+1 from rfl,e2];simp
def kU{op a b m n n':v_}(h:U.length=256):Ah (Bw op U a b m n) 260 [n']=Bw op U a b m n':=by unfold Ah Bw;have c:([op]++(U++[a,b,m,n])).take 260=[op]++(U++[a,b,m]):=by{rw[show([op]++(U++[a,b,m,n])).take (259+1)=op::(U++[a,b,m,n]).take 259 from rfl,show(259:Nat)=U.length+3 by omega,oV];rfl};have e2:([op]++(U++[a,b,m,n])).drop (260+1)=[]:=by{rw[show([op]++(U++[a,b,m,n])).drop (260+1)=(U++[a,b,m,n]).drop 260 from rfl,show(260:Nat)=U.length+4 by omega,rG];rfl};rw[c,show 260+[n'].length=260+1 from rfl,e2];simp
def dM(x y m n:Int){K:v_->Prop}(k:K (.agg (j_ ⟨x,0#256,y,0,m,n⟩).toArray)):AH prog (Instr.build 77 [(0,A_ x),(2,A_ y),(4,A_ m),(5,A_ n)].toArray) S H K:=by refine Au underlying77 rfl (.agg rnZ.toArray) OJ (j_ ⟨x,0#256,y,0,m,n⟩) ?_ k;have a:(ApG 256 (Value.bool zU)).length=256:=List.length_replicate;refine(BQ (i:=0) (off:=0) (size:=1) zX rfl (by show _<=rnZ.toArray.size;rw[uE,Cq];decide)).trans ?_;have b:Ah (Value.agg rnZ.toArray).cells.toList 0 (Value.int .i64 x).cells.toList=Bw (.int .i64 x) (ApG 256 (.bool zU)) (.int .i64 0) (.int .i64 0) (.int .i64 0) (.int .i64 0):=mC;rw[b];refine(BQ (i:=2) (off:=257) (size:=1) zX rfl (by rw[uE,Fa a];decide)).trans ?_;rw[vE,show(Value.int IntKind.i64 y).cells.toList=[Value.int .i64 y]from rfl,pX a];refine(BQ (i:=4) (off:=259) (size:=1) zX rfl (by rw[uE,Fa a];decide)).trans ?_;rw[vE,show(Value.int IntKind.i64 m).cells.toList=[Value.int .i64 m]from rfl,kT a];refine(BQ (i:=5) (off:=260) (size:=1) zX rfl (by rw[uE,Fa a];decide)).trans ?_;rw[vE,show(Value.int IntKind.i64 n).cells.toList=[Value.int .i64 n]from rfl,kU a];unfold j_;rw[show(h_.mk x 0#256 y 0 m n).set=0#256 from rfl,Je];rfl
def AjB:(prog.info? 66).bind (·.zero)=zY (.agg #[.slice zV 0 0,.slice zV 0 0]):=zX
inductive Sz(ws:List RwM):List J'->List AF->Prop
 | nil:Sz ws [] []
 | cons {fr:List J'} {fs:List AF} {g:J'} {a:AF}:Sz ws fr fs->FrR ws g a->Sz ws (fr++[g]) (a::fs)
def Sz.more{us:List RwM}{fr:List J'}(h:Sz a fr fs):Sz (a++us) fr fs:=by induction h with|nil=>exact .nil|cons _ g b=>exact .cons b g.more
def Sz.len{fr:List J'}(h:Sz a fr fs):fr.length=fs.length:=by induction h with|nil=>rfl|cons _ g b=>simp[b]
def IxR.num{x:Int}{o:Option ReM}(h:IxR a x o)(c:a.length<=16777216):AZ x:=by cases o with|none=>rw[show x= -1 from h];exact Qn|some r=>obtain⟨j,w,rfl,b,-⟩:=h;have:=(T_.1 b).1;exact MR zO
def FrR.nums{c:List RwM}{f:J'}{a:AF}(h:FrR c f a)(b:c.length<=16777216):FrN f:=⟨h.alt.num b,h.meet.num b,h.row.num b,h.factor.num b⟩
def SH{p:Nat}(h:Cj t i= .inl (c,p)):c≠0:=by unfold Cj at h;split at h;{split at h;{rename_i e a;cases h;unfold upM at a;split at a;{split at a;{cases a};split at a;{cases a};cases a;decide};cases a};unfold Jk at h;split at h;{split at h;{cases h;decide};cases h};cases h;decide};cases h;decide
def I8(t:ByteArray)(H:Aa)(v:v_)(H':Aa):Prop:=match Dd t with
 | .inl (c,p)=>v= .tuple #[.agg L'.toArray,A_ c,A_ p]
 | .inr r=>∃ns na nc Ao,v= .tuple #[.agg (zR (.slice na ns.length nc) ((Ao:Nat):Int)).toArray,A_ 0,A_ 0]/\AO ns r Ao/\ns.length=r.nodes/\Zv r ns/\Z_ wD none_ H' H.size 77 (.slice na ns.length nc) ns
structure DocI(H:Aa)(t:ByteArray)(q2 sb i:Nat)(G:Aa):Prop where
 ex:∃(f:AF) (fs:List AF) (ds:List h_) (ws:List RwM) (fr:List J') (fD:J') (na:Option Addr) (nc fb fc n:Nat),Ch t ⟨0,Fq (-1),[]⟩=Ch t ⟨i,f,fs⟩/\i<=t.size/\Raw ds ws/\FrR ws fD f/\Sz ws fr fs/\ds.length<=4*i/\fs.length<=1000/\
  B_ (H_ H) H G (stP sb fb na nc fc n ds (fr++[fD]) [pB tRe q2 L'])
def iE(a:List RwM)(p:Int):FrR a ⟨p,-1,-1,0,-1,-1⟩ (Fq p):=⟨rfl,rfl,rfl,rfl,rfl,rfl⟩
def Kv(h:S_ H b tRe L'):Bi H b 0 L':=h.cells (λj v a=>by rw[K_];exact a)
def K7(h:GJ c=zW):c=42\/c=43\/c=63\/c=123:=by apply Classical.byContradiction;intro a;rw[MZ zO zO zO zO]at h;cases h
def UY(t:ByteArray)(H:Aa):Ai prog 6 #[.string t] H λv H'=>D_ (H_ H) H H'/\I8 t H v H':=by
 refine Ai.of_vcL func6 rfl (call6 _) (Af _ L' OI rfl ?_);intro q2 H1 ch cj ck cm;have F_:=(St.nil H).box ch cj ck cm;by_cases b6:1048576<t.size
 ·have d1:zT (1048576<(t.size:Int))=zW:=t_;have R:Dd t= .inl (1,0):=by unfold Dd;rw[J_ b6]
  (conv=>whnf);rw[d1];refine Au underlying32 rfl _ OI L' rfl (AI (cs:=L') F_ 0 rfl rfl (M_ _) rfl λGz J=>?_);have ez:Ah L' 0 L'=L':=Bo rfl;rw[ez]at J;refine L_ (cs:=L') Dv (Kv (J.blk 0 rfl)) zA (⟨J.old,?_⟩);unfold I8;rw[R];rfl
 have d1:zT (1048576<(t.size:Int))=zU:=g_;have R:Dd t=Ch t ⟨0,Fq (-1),[]⟩:=by unfold Dd;rw[I_ b6]
 (conv=>whnf);rw[d1];refine Au underlying66 rfl (.agg #[.slice zV 0 0,.slice zV 0 0]) AjB [.slice zV 0 0,.slice zV 0 0] rfl (BI [.slice zV 0 0,.slice zV 0 0] rfl ?_);intro sb H2 co cp cq cr;have ab:B_ (H_ H) H H2 [pB eM sb [.slice zV 0 0,.slice zV 0 0],pS wD 77 zV 0 0 [],pS tFr 68 zV 0 0 [],pB tRe q2 L']:=(((F_.box co cp cq cr).nils wD 77).nils tFr 68).pick [1,2,3,0] zQ;refine Ap.heldZ (λk=>k=sb) [10] (sq [0,1,2,3,4] (.f 5 (.f 6 (.f 7 (sq [8,9] (.f 10 .e)))))) rfl zX (G_ BU ?_);refine C_ (v:=.slice zV 0 0) EN ((ab.blk 0 rfl).ce rfl) rfl ?_;refine Ae.mk (iD (-1) H2) ?_;rintro _ H3 ⟨rfl,bd⟩;have be:=ab.call bd;refine⟨λk A=>by rw[show k=sb from A];exact(be.blk 0 rfl).trans (ab.blk 0 rfl).symm,?_⟩;refine Aj LA (uL (-1)) rfl rfl zQ zQ ?_;intro z H4 hz a0 P O;have bf:=be.skip hz O;refine⟨λk A=>by rw[show k=sb from A];exact(bf.blk 0 rfl).trans (ab.blk 0 rfl).symm,?_⟩;refine S8 (ys:=[(⟨-1,-1,-1,0,-1,-1⟩:J')]) (ds:=uL (-1)) bf 2 LA rfl (P.cells (o:=0) (cs:=uL (-1)) λj v hv=>by rw[K_];exact hv) (Ty.reps_one (T:=tFr) rfl) rfl (λu hu=>yC.1 (Y8 ⟨-1,-1,-1,0,-1,-1⟩) u hu) zQ zQ λa5 bq H5 ap bg=>?_;refine⟨λk A=>by rw[show k=sb from A];exact(ap.blk 0 rfl).trans (ab.blk 0 rfl).symm,?_⟩;obtain⟨aq,rfl⟩:=ap.adr 2 rfl zQ;refine G_ BU ?_;refine Bb ap 0 EN rfl (by show _<(2:Nat);decide) rfl λH6 ar=>?_;replace ar:B_ (H_ H) H H6 (stP sb aq zV 0 bq 1 [] ([]++[(⟨-1,-1,-1,0,-1,-1⟩:J')]) [pB tRe q2 L']):=ar;clear F_ ab be bf ap;(conv=>whnf);refine A0.mk [6] (λi:Nat=>[A_ i]) (λi G=>DocI H t q2 sb i G) (λi _=>t.size-i) ?_ ?_
 ·(conv=>whnf);exact⟨0,rfl,⟨Fq (-1),[],[],[],[],_,zV,0,aq,bq,1,rfl,p_ _,.nil,iE [] (-1),.nil,p_ _,p_ _,ar⟩⟩
 ·rintro i G dj ⟨f,fs,ds,ws,fr,I,na,nc,fb,fc,n,ct,hi,hR,hF,hK,dk,ae,F⟩;clear ar d1;have ak:Ch t ⟨0,Fq (-1),[]⟩=Ch t ⟨i,f,fs⟩:=ct;have a6:=Y7 F;have dl:=hK.len;have dm:=hR.len;have hN:=hF.nums zO;refine AB.m2 (λhz=>?_) (λhz=>?_)
  ·have a1:i<t.size:=zO
   (conv=>whnf);try refine A7.run ?_
   refine sG a1 (Ap.lex rfl zX (G_ BU ?_));refine lT (v:=.slice (N_ fb) n fc) EN ((F.blk 0 rfl).ce rfl) ?_;refine G_ BU ?_;refine lT (v:=.slice (N_ fb) n fc) EN ((F.blk 0 rfl).ce rfl) ?_;(conv=>whnf);rw[W_ (x:=(n:Int)-1) zO];refine xT (j:=fr.length) LA F 2 rfl zZ zO ?_;have ER:∀{e:Nat×Nat},Cv t ⟨i,f,fs⟩= .inl e->Ch t ⟨0,Fq (-1),[]⟩= .inl (nU e):=λh=>ak.trans (Ft a1 h);have GO:∀{s:RdS},Cv t ⟨i,f,fs⟩= .inr s->Ch t ⟨0,Fq (-1),[]⟩=Ch t s:=λh=>ak.trans (EY a1 h);refine Al (dF (bt t i) G) λG1 cu=>?_;replace F:=F.call cu;by_cases B:GJ (bt t i)=zW
   ·rw[B];refine G_ I1 (C_ (v:=A_ I.factor) E_ (BE F (k:=5) rfl) zA ?_);cases a2:f.factor with
    | none=>
      have hx:=hF.factor;rw[a2]at hx;have d2:zT (I.factor<0)=zW:=r_ (by rw[show I.factor= -1 from hx];decide);(conv=>whnf);rw[d2];refine Au underlying32 rfl _ OI L' rfl (AI (cs:=L') F 3 rfl rfl (M_ _) rfl λGz J=>?_);have ez:Ah L' 0 L'=L':=Bo rfl;rw[ez]at J;refine L_ (cs:=L') Dv (Kv (J.blk 3 rfl)) zA (⟨J.old,?_⟩);unfold I8;rw[R,ER (Gm B a2)];rfl
    | some a=>
      have hx:=hF.factor;rw[a2]at hx;have⟨jx,wx,cw,cx,cy⟩:=hx;have d2:zT (I.factor<0)=zU:=g_;(conv=>whnf);rw[d2];(conv=>whnf);rw[R_ i zO];refine A7.cut [9] (λ_:Unit=>[A_ (if bt t i=43 then -2 else 0)]) (λ_ G=>G=G1) ?_ ?_
      ·rcases K7 B with X | X | X | X<;>(rw[X];(conv=>whnf);exact⟨rfl,(),rfl,rfl⟩)
      rintro⟨⟩ G3 j1 rfl;refine A7.cut [10] (λ_:Unit=>[A_ (if bt t i=63 then 1 else -1)]) (λ_ G=>G=G3) ?_ ?_
      ·rcases K7 B with X | X | X | X<;>(rw[X];(conv=>whnf);exact⟨rfl,(),rfl,rfl⟩)
      rintro⟨⟩ G j2 rfl;refine A7.cut [9,10,11] (λy:Int×Int×Nat=>[A_ y.1,A_ y.2.1,A_ (y.2.2:Int)]) (λy G'=>D_ (H_ G) G G'/\Fs t i= .inr (Bh y.1,y.2.1,y.2.2)/\NY y.1 y.2.1/\i<y.2.2/\y.2.2<=t.size) ?_ ?_
      rotate_left
      ·rintro⟨mD,nD,kk⟩ G2 j3 ⟨au,br,bh,cz,d0⟩;replace F:=F.call au;dsimp only at br bh cz d0;have d5:=bh;unfold NY at d5;(conv=>whnf);have f1:fb≠sb:=λe=>F.apart2 (i:=0) (j:=2) rfl rfl zQ sb rfl (.inl ⟨0,n,fc,by rw[e]⟩);have U:¬Q_ (.slice na ds.length nc) fb:=λe=>F.apart2 (i:=1) (j:=2) rfl rfl zQ fb (.inl e) (.inl ⟨0,n,fc,rfl⟩);have f3:=F.ltE 2 rfl;refine Ap.heldZ (λk=>k=sb\/k=fb) [16] (sq [0,1,2,3,4,5,6,7,8,9,10,11] (.f 12 (.f 13 (sq [14,15] (.f 16 .e))))) rfl zX (G_ Hs ?_);refine C_ (v:=.slice na ds.length nc) FB ((F.blk 0 rfl).ce rfl) (.inl rfl) ?_;refine G_ I1 (C_ (v:=A_ I.factor) E_ (BE F (k:=5) rfl) (.inr rfl) (dM 7 I.factor (mD) (nD) (Aj HP (j_ (EE I.factor (mD) (nD))) rfl (AS _) zQ zQ ?_)));intro zz G4 hz a0 P O;have D:=F.skip hz O;have az:D_ (λk=>k=fb) _ G4:=λk A=>O k (by have e1:k=fb:=A;have:zz=_:=hz;omega);refine⟨λk A=>by
        rcases A with A | A
        ·rw[show k=sb from A];exact(D.blk 0 rfl).trans (F.blk 0 rfl).symm
        ·exact az k A,?_⟩
       refine GM (ys:=[EE I.factor (mD) (nD)]) D 1 HP rfl (P.cells (o:=0) (cs:=j_ (EE I.factor (mD) (nD))) λj v hv=>by rw[K_];exact hv) (Ty.reps_one ⟨rfl,E5 (x:=7) (by unfold AZ;omega),E5 hN.factor,E5 (x:=0) (by unfold AZ;omega),E5 (x:=mD) (by unfold AZ;omega),E5 (x:=nD) (by unfold AZ;omega)⟩) rfl (λu hu=>yC.1 (D3 _) u hu) (by simp[maxLen];omega) (by simp;omega) λa5 c5 G5 C bg=>?_;have el:ds.length+[EE I.factor (mD) (nD)].length=(ds++[EE I.factor (mD) (nD)]).length:=zZ
       rw[el]at C ⊢;refine⟨λk A=>by
        rcases A with A | A
        ·rw[show k=sb from A];exact(C.blk 0 rfl).trans (F.blk 0 rfl).symm
        ·exact(bg k (by rw[show k=fb from A];exact⟨D.ltE 2 rfl,U⟩)).trans (az k A),?_⟩
       refine G_ Hs ?_;refine Bb C 0 FB rfl (by show _<(2:Nat);decide) rfl λG6 M=>?_;replace M:B_ (H_ H) H G6 (stP sb fb a5 c5 fc n (ds++[EE I.factor (mD) (nD)]) (fr++[I]) [pB tRe q2 L']):=M;refine G_ Hs ?_;refine lT (v:=.slice a5 (ds++[EE I.factor (mD) (nD)]).length c5) FB ((M.blk 0 rfl).ce rfl) ?_;have w1:IntKind.wrap .i64 (((ds++[EE I.factor (mD) (nD)]).length:Int)-1)=(ds.length:Int):=by
        rw[O_,c_,xG zO zO];omega
       (conv=>whnf);rw[w1];refine G_ I1 (Gt (k:=5) (f':={I with factor:=(ds.length:Int)}) M E_ zQ rfl rfl λG7 V ja=>?_);(conv=>whnf);refine⟨rfl,kk,rfl,⟨_,fs,ds++[EE I.factor (mD) (nD)],ws++[.rep wx (mD) (nD)],fr,{I with factor:=(ds.length:Int)},_,_,_,_,n,GO (Q3 a2 B br),zO,hR.add (w:=.rep wx (mD) (nD)) ⟨jx,by rw[cw],cx,bh⟩,⟨hF.place,hF.alt.more,hF.meet.more,hF.sign,hF.row.more,IxR.new hR (by show C9 wx.den (Bh (mD)) (nD)=_;rw[cy])⟩,hK.more,by simp only[O_,c_];omega,ae,V⟩,zO⟩
      rcases K7 B with X | X | X | X
      ·rw[X];(conv=>whnf);exact⟨rfl,(0,-1,i+1),rfl,D_.refl _ _,by unfold Fs;rw[J_ X]<;>rfl,show NY 0 (-1)from .inr zO,uP i,a1⟩
      ·rw[X];(conv=>whnf);exact⟨rfl,(-2,-1,i+1),rfl,D_.refl _ _,by unfold Fs;rw[X];rfl,.inl ⟨rfl,rfl⟩,uP i,a1⟩
      ·rw[X];(conv=>whnf);exact⟨rfl,(0,1,i+1),rfl,D_.refl _ _,by unfold Fs;rw[X];rfl,show NY 0 1 from .inr zO,uP i,a1⟩
      ·rw[X];(conv=>whnf);try refine A7.run ?_
       (conv=>whnf);try refine A7.run ?_
       (conv=>whnf);try refine A7.run ?_
       refine Ae.mk (ZH (i:=i) zO a1) ?_;rintro v G2 ⟨au,Y⟩;replace F:=F.call au;unfold tA at Y;cases ag:Cj t i with
       | inl e=>
         have⟨c,p⟩:=e;rw[ag]at Y;replace Y:v= .tuple #[A_ 0,A_ 0,A_ 0,A_ c,A_ p]:=Y;subst Y;have dn:=SH ag;have d3:((c:Int) != 0)=zW:=bne_iff_ne.2 zO;(conv=>whnf);rw[d3];refine Au underlying32 rfl _ OI L' rfl (AI (cs:=L') F 3 rfl rfl (M_ _) rfl λGz J=>?_);have ez:Ah L' 0 L'=L':=Bo rfl;rw[ez]at J;refine L_ (cs:=L') Dv (Kv (J.blk 3 rfl)) zA (⟨J.old,?_⟩);unfold I8;rw[R,ER (Oz a2 B (by unfold Fs;rw[I_ zO,I_ zO,I_ zO,ag]))];rfl
       | inr y=>
         have⟨m,nn,kk⟩:=y;rw[ag]at Y;replace Y:v= .tuple #[A_ m,A_ nn,A_ kk,A_ 0,A_ 0]:=Y;subst Y;have bu:=LL ag;have⟨o1,o2,o3,o4,o5,o6⟩:=bu;have bv:Bh (m:Int)=m:=by unfold Bh;rw[I_ zO,O']
         (conv=>whnf);exact⟨rfl,((m:Int),nn,kk),rfl,au,by rw[bv];unfold Fs;rw[I_ zO,I_ zO,I_ zO];exact ag,.inr ⟨zO,zO,zO,zO,o5⟩,o1,o2⟩
   ·have B:GJ (bt t i)=zU:=by simpa using B
    rw[B];by_cases a8:bt t i=124
    ·have d:(((bt t i:Nat):Int)==124)=zW:=by rw[a8];rfl
     (conv=>whnf);rw[d];clear d;refine Ae.mk (PO F hN zO) ?_;rintro v G2 ⟨K,L,l⟩;(conv=>whnf);rw[R_ i zO];have Q:=LQ ds I;have⟨us,W,N⟩:=LR hR hF;exact⟨rfl,i+1,rfl,⟨_,fs,_,_,fr,_,_,_,_,_,n,GO (RU a8),zO,W,N,hK.more,zO,ae,l⟩,zO⟩
    ·have d:(((bt t i:Nat):Int)==124)=zU:=Gk a8;(conv=>whnf);rw[d];clear d;by_cases aw:bt t i=38
     ·have d:(((bt t i:Nat):Int)==38)=zW:=by rw[aw];rfl
      (conv=>whnf);rw[d];clear d;refine Ae.mk (SO F hN zO) ?_;rintro v G2 ⟨K,L,l⟩;have Q:=Lf ds I;refine Ap.heldZ (λk=>k=sb) [13] (sq [0,1,2,3,4,5,6,7,8,9,10,11,12] (.f 13 .e)) rfl zX (G_ BU ?_);refine C_ (v:=.slice (N_ fb) n fc) EN ((l.blk 0 rfl).ce rfl) rfl ?_;refine G_ BU ?_;refine C_ (v:=.slice (N_ fb) n fc) EN ((l.blk 0 rfl).ce rfl) rfl ?_;(conv=>whnf);rw[W_ (x:=(n:Int)-1) zO];refine xT (j:=fr.length) LA l 2 rfl zZ zO (G_ Ti (Gt (k:=3) (f':={(Dg ds I).2 with sign:=bt t i}) l vZ zQ rfl rfl λG3 E ja=>?_));(conv=>whnf);rw[R_ i zO];have⟨us,W,N⟩:=N3 hR hF;exact⟨rfl,i+1,rfl,⟨_,fs,_,_,fr,{(Dg ds I).2 with sign:=bt t i},_,_,_,_,n,GO (JA (.inl aw)),zO,W,⟨N.place,N.alt,N.meet,rfl,N.row,N.factor⟩,hK.more,zO,ae,E⟩,zO⟩
     ·have d:(((bt t i:Nat):Int)==38)=zU:=Gk aw;(conv=>whnf);rw[d];clear d;by_cases ax:bt t i=45
      ·have d:(((bt t i:Nat):Int)==45)=zW:=by rw[ax];rfl
       (conv=>whnf);rw[d];clear d;refine Ae.mk (SO F hN zO) ?_;rintro v G2 ⟨K,L,l⟩;have Q:=Lf ds I;refine Ap.heldZ (λk=>k=sb) [13] (sq [0,1,2,3,4,5,6,7,8,9,10,11,12] (.f 13 .e)) rfl zX (G_ BU ?_);refine C_ (v:=.slice (N_ fb) n fc) EN ((l.blk 0 rfl).ce rfl) rfl ?_;refine G_ BU ?_;refine C_ (v:=.slice (N_ fb) n fc) EN ((l.blk 0 rfl).ce rfl) rfl ?_;(conv=>whnf);rw[W_ (x:=(n:Int)-1) zO];refine xT (j:=fr.length) LA l 2 rfl zZ zO (G_ Ti (Gt (k:=3) (f':={(Dg ds I).2 with sign:=bt t i}) l vZ zQ rfl rfl λG3 E ja=>?_));(conv=>whnf);rw[R_ i zO];have⟨us,W,N⟩:=N3 hR hF;exact⟨rfl,i+1,rfl,⟨_,fs,_,_,fr,{(Dg ds I).2 with sign:=bt t i},_,_,_,_,n,GO (JA (.inr ax)),zO,W,⟨N.place,N.alt,N.meet,rfl,N.row,N.factor⟩,hK.more,zO,ae,E⟩,zO⟩
      ·have d:(((bt t i:Nat):Int)==45)=zU:=Gk ax;(conv=>whnf);rw[d];clear d;by_cases am:bt t i=41
       ·have d:(((bt t i:Nat):Int)==41)=zW:=by rw[am];rfl
        (conv=>whnf);rw[d];clear d;refine G_ BU ?_;refine lT (v:=.slice (N_ fb) n fc) EN ((F.blk 0 rfl).ce rfl) ?_;cases hK with
        | nil=>
          have bw:n=1:=by rw[a6];rfl
          have d3:((n:Int)==1)=zW:=by rw[bw];rfl
          (conv=>whnf);rw[d3];refine Au underlying32 rfl _ OI L' rfl (AI (cs:=L') F 3 rfl rfl (M_ _) rfl λGz J=>?_);have ez:Ah L' 0 L'=L':=Bo rfl;rw[ez]at J;refine L_ (cs:=L') Dv (Kv (J.blk 3 rfl)) zA (⟨J.old,?_⟩);unfold I8;rw[R,ER (Na am)];rfl
        | @cons fr1 fs1 g ga hK1 hG=>
          have d6:n=fr1.length+1+1:=by rw[a6];simp
          have d3:((n:Int)==1)=zU:=beq_eq_false_iff_ne.2 zO;(conv=>whnf);rw[d3];refine Ae.mk (PO F hN zO) ?_;rintro v G2 ⟨K,L,l⟩;have Q:=LQ ds I;refine Ap.lex rfl zX (G_ BU ?_);refine lT (v:=.slice (N_ fb) n fc) EN ((l.blk 0 rfl).ce rfl) ?_;refine G_ BU ?_;refine lT (v:=.slice (N_ fb) n fc) EN ((l.blk 0 rfl).ce rfl) ?_;(conv=>whnf);rw[W_ (x:=(n:Int)-1) zO];refine xT (j:=(fr1++[g]).length) LA l 2 rfl zZ (by simp;omega) ?_;refine G_ N2 (C_ (v:=A_ (EM ds I).2.alt) E_ (BE l (k:=1) rfl) zA (Ap.heldZ (λk=>k=sb) [14] (sq [0,1,2,3,4,5,6,7,8,9,10,11,12,13] (.f 14 .e)) rfl zX (G_ BU ?_)));refine C_ (v:=.slice (N_ fb) n fc) EN ((l.blk 0 rfl).ce rfl) rfl ?_;refine G_ BU ?_;refine C_ (v:=.slice (N_ fb) n fc) EN ((l.blk 0 rfl).ce rfl) rfl ?_;have bx:=l.capT 2 rfl;simp only[O_,c_]at bx;(conv=>whnf);rw[W_ (x:=(n:Int)-1) zO];rw[show(n:Int)-1=((fr1.length+1:Nat):Int) by omega];refine Zs LA zO zO (G_ BU ?_);have E:=l.popT 2 rfl;refine Bb E 0 EN rfl (by show _<(2:Nat);decide) rfl λG4 D=>?_;rw[O']at D;replace D:B_ (H_ H) H G4 (stP sb fb K L fc (fr1.length+1) (EM ds I).1 (fr1++[g]) [pB tRe q2 L']):=by
           have e:(fr1++[g]).length=fr1.length+1:=zZ
           have:=D;simp only[O_,c_]at this;exact this
          refine Ap.heldZ (λk=>k=sb) [13] (sq [0,1,2,3,4,5,6,7,8,9,10,11,12] (.f 13 .e)) rfl zX (G_ BU ?_);refine C_ (v:=.slice (N_ fb) (fr1.length+1) fc) EN ((D.blk 0 rfl).ce rfl) rfl ?_;refine G_ BU ?_;refine C_ (v:=.slice (N_ fb) (fr1.length+1) fc) EN ((D.blk 0 rfl).ce rfl) rfl ?_;(conv=>whnf);rw[W_ (x:=((fr1.length+1:Nat):Int)-1) zO];refine xT (j:=(fr1).length) LA D 2 rfl zZ zO (G_ I1 (Gt (k:=5) (f':={g with factor:=(EM ds I).2.alt}) D E_ zQ rfl rfl λG5 C ja=>?_));(conv=>whnf);rw[R_ i zO];have⟨us,W,N⟩:=LR hR hF;exact⟨rfl,i+1,rfl,⟨_,fs1,_,_,fr1,{g with factor:=(EM ds I).2.alt},_,_,_,_,_,GO (Oy am),zO,W,⟨hG.place,hG.alt.more,hG.meet.more,hG.sign,hG.row.more,N.alt⟩,hK1.more,zO,by simp only[b_]at ae;omega,C⟩,zO⟩
       ·have d:(((bt t i:Nat):Int)==41)=zU:=Gk am;(conv=>whnf);rw[d];clear d;refine Ae.mk (R6 F hN zO) ?_;rintro v G2 ⟨K,L,l⟩;have Q:=Il ds I;have⟨us,W,N⟩:=O4 hR hF;have c1:=hK.more (us:=us);have bi:=KE (ds:=ds) hN zO;obtain⟨q,U,hq⟩:∃q U,Bt ds I=(q,U):=⟨_,_,rfl⟩;rw[hq]at l W N Q bi;replace l:B_ (H_ H) H G2 (stP sb fb K L fc n q (fr++[U]) [pB tRe q2 L']):=l;replace W:Raw q (ws++us):=W;replace N:FrR (ws++us) U (AC f):=N;replace Q:q.length<=ds.length+1:=Q;replace bi:FrN U:=bi;by_cases ah:bt t i=40
        ·have d:(((bt t i:Nat):Int)==40)=zW:=by rw[ah];rfl
         (conv=>whnf);rw[d];clear d;refine G_ BU ?_;refine lT (v:=.slice (N_ fb) n fc) EN ((l.blk 0 rfl).ce rfl) ?_;by_cases bj:1000<=fs.length
         ·have d3:zT (1000<(n:Int))=zW:=t_;(conv=>whnf);rw[d3];refine Au underlying32 rfl _ OI L' rfl (AI (cs:=L') l 3 rfl rfl (M_ _) rfl λGz J=>?_);have ez:Ah L' 0 L'=L':=Bo rfl;rw[ez]at J;refine L_ (cs:=L') Dv (Kv (J.blk 3 rfl)) zA (⟨J.old,?_⟩);unfold I8;rw[R,ER (Q1 ah bj)];rfl
         ·have d3:zT (1000<(n:Int))=zU:=g_;(conv=>whnf);rw[d3];refine Ap.heldZ (λk=>k=sb) [11] (sq [0,1,2,3,4,5] (.f 6 (.f 7 (.f 8 (sq [9,10] (.f 11 .e)))))) rfl zX (G_ BU ?_);refine C_ (v:=.slice (N_ fb) n fc) EN ((l.blk 0 rfl).ce rfl) rfl ?_;refine Ae.mk (iD (i:Int) G2) ?_;rintro _ G3 ⟨rfl,bd⟩;have E:=l.call bd;refine⟨λk A=>by rw[show k=sb from A];exact(E.blk 0 rfl).trans (l.blk 0 rfl).symm,?_⟩;refine Aj LA (uL (i:Int)) rfl rfl zQ zQ ?_;intro zz G4 hz a0 P O;have D:=E.skip hz O;refine⟨λk A=>by rw[show k=sb from A];exact(D.blk 0 rfl).trans (l.blk 0 rfl).symm,?_⟩;refine S8 (ys:=[(⟨i,-1,-1,0,-1,-1⟩:J')]) (ds:=uL (i:Int)) D 2 LA rfl (P.cells (o:=0) (cs:=uL (i:Int)) λj v hv=>by rw[K_];exact hv) (Ty.reps_one (T:=tFr) rfl) rfl (λu hu=>yC.1 (Y8 ⟨i,-1,-1,0,-1,-1⟩) u hu) (by simp;omega) zQ λa5 c5 G5 C bg=>?_;refine⟨λk A=>by rw[show k=sb from A];exact(C.blk 0 rfl).trans (l.blk 0 rfl).symm,?_⟩;obtain⟨aq,rfl⟩:=C.adr 2 rfl zZ;refine G_ BU ?_;refine Bb C 0 EN rfl (by show _<(2:Nat);decide) rfl λG6 M=>?_;replace M:B_ (H_ H) H G6 (stP sb aq K L c5 ((fr++[U]).length+1) q ((fr++[U])++[(⟨i,-1,-1,0,-1,-1⟩:J')]) [pB tRe q2 L']):=M;(conv=>whnf);rw[R_ i zO];exact⟨rfl,i+1,rfl,⟨_,AC f::fs,q,ws++us,fr++[U],_,_,_,_,_,_,GO (Q2 ah zO),zO,W,iE _ _,c1.cons N,zO,by simp only[b_];omega,M⟩,zO⟩
        ·have d:(((bt t i:Nat):Int)==40)=zU:=Gk ah;(conv=>whnf);rw[d];clear d;refine Ae.mk (dI (i:=i) zO a1) ?_;rintro v G3 ⟨c2,Z⟩;have E:=l.call c2;have c3:PX (bt t i):=⟨a8,aw,ax,am,B⟩;unfold Hh at Z;cases ao:BP t i with
         | inl e=>
           rw[ao]at Z;replace Z:v= .tuple #[KQ,A_ 0,A_ 10,A_ e]:=Z;subst Z;refine Af KQ (AV 0#256) Ip rfl ?_;intro a3 G4 ai a0 P O;have D:=E.skip ai O;have c4:=E.box ai a0 P O;refine AI (cs:=AV 0#256) c4 4 (jA 0) rfl (Nat.le_of_eq (K_ _)) (kH 0) λG5 C=>?_;replace C:B_ (H_ H) H G5 (stP sb fb K L fc n q (fr++[U]) [pB tRe q2 L']):=C.subl (List.Sublist.cons_cons _ (List.Sublist.cons_cons _ (List.Sublist.cons_cons _ (List.Sublist.cons_cons _ (uI _)))));(conv=>whnf);refine Au underlying32 rfl _ OI L' rfl (AI (cs:=L') C 3 rfl rfl (M_ _) rfl λGz J=>?_);have ez:Ah L' 0 L'=L':=Bo rfl;rw[ez]at J;refine L_ (cs:=L') Dv (Kv (J.blk 3 rfl)) zA (⟨J.old,?_⟩);unfold I8;rw[R,ER (Q0 c3 ah ao)];rfl
         | inr y=>
           have⟨x,kk⟩:=y;rw[ao]at Z;replace Z:v= .tuple #[.agg (AV x).toArray,A_ kk,A_ 0,A_ 0]:=Z;subst Z;have bu:=Mm ao;refine Af KQ (AV 0#256) Ip rfl ?_;intro a3 G4 ai a0 P O;have D:=E.box ai a0 P O;refine AI (cs:=AV x) D 4 (jA x) rfl (by rw[Bc,Bc];decide) (kH x) λG5 C=>?_;rw[Bo (show(AV x).length=(AV 0#256).length by rw[Bc,Bc])]at C;replace C:B_ (H_ H) H G5 (stP sb fb K L fc n q (fr++[U]) [pB tRe q2 L',pB 75 a3 (AV x)]):=C;have bm:S_ G5 a3 75 (AV x):=C.blk 4 rfl;refine Ap.heldZ (λk=>k=sb\/k=a3) [11] (sq [0,1,2,3,4,5,6] (.f 7 (.f 8 (sq [9,10] (.f 11 .e))))) rfl zX (G_ Hs ?_);refine C_ (v:=.slice K q.length L) FB ((C.blk 0 rfl).ce rfl) (.inl rfl) ?_;refine L_ (cs:=AV x) (vF x) (J7 bm) (.inr rfl) (NJ 1 x (Aj HP (j_ (Ef x)) rfl (AS _) zQ zQ ?_));intro zz G6 hz dp d7 d8;have M:=C.skip hz d8;refine⟨λk A=>by
            rcases A with A | A
            ·rw[show k=sb from A];exact(M.blk 0 rfl).trans (C.blk 0 rfl).symm
            ·rw[show k=a3 from A];exact(M.blk 4 rfl).trans bm.symm,?_⟩
           refine GM (ys:=[Ef x]) M 1 HP rfl (d7.cells (o:=0) (cs:=j_ (Ef x)) λj v hv=>by rw[K_];exact hv) (Ty.reps_one ⟨rfl,E5 (x:=1) (by unfold AZ;omega),E5 (x:=0) (by unfold AZ;omega),E5 (x:=0) (by unfold AZ;omega),E5 (x:=0) (by unfold AZ;omega),E5 (x:=0) (by unfold AZ;omega)⟩) rfl (λu hu=>yC.1 (D3 _) u hu) (by simp[maxLen];omega) (by simp;omega) λa7 c7 G7 V dq=>?_;have el:q.length+[Ef x].length=(q++[Ef x]).length:=zZ
           rw[el]at V ⊢;refine⟨λk A=>by
            rcases A with A | A
            ·rw[show k=sb from A];exact(V.blk 0 rfl).trans (C.blk 0 rfl).symm
            ·rw[show k=a3 from A];exact(V.blk 4 rfl).trans bm.symm,?_⟩
           refine G_ Hs ?_;refine Bb V 0 FB rfl (by show _<(2:Nat);decide) rfl λG8 a4=>?_;replace a4:B_ (H_ H) H G8 (stP sb fb a7 c7 fc n (q++[Ef x]) (fr++[U]) [pB tRe q2 L',pB 75 a3 (AV x)]):=a4;have w1:IntKind.wrap .i64 (((q++[Ef x]).length:Int)-1)=(q.length:Int):=by
            rw[O_,c_,xG zO zO];omega
           refine Ap.heldZ (λk=>k=sb) [18] (sq [0,1,2,3,4,5,6,7,8,9,10,11,12,13,14,15,16,17] (.f 18 .e)) rfl zX (G_ BU ?_);refine C_ (v:=.slice (N_ fb) n fc) EN ((a4.blk 0 rfl).ce rfl) rfl ?_;refine G_ BU ?_;refine C_ (v:=.slice (N_ fb) n fc) EN ((a4.blk 0 rfl).ce rfl) rfl ?_;(conv=>whnf);rw[W_ (x:=(n:Int)-1) zO];refine G_ Hs ?_;refine C_ (v:=.slice a7 (q++[Ef x]).length c7) FB ((a4.blk 0 rfl).ce rfl) rfl ?_;(conv=>whnf);rw[w1];refine xT (j:=fr.length) LA a4 2 rfl zZ zO (G_ I1 (Gt (k:=5) (f':={U with factor:=(q.length:Int)}) a4 E_ zQ rfl rfl λG9 bn ja=>?_));(conv=>whnf);replace bn:B_ (H_ H) H G9 (stP sb fb a7 c7 fc n (q++[Ef x]) (fr++[{U with factor:=(q.length:Int)}]) [pB tRe q2 L']):=bn.subl (List.Sublist.cons_cons _ (List.Sublist.cons_cons _ (List.Sublist.cons_cons _ (List.Sublist.cons_cons _ (uI _)))));exact⟨rfl,kk,rfl,⟨_,fs,q++[Ef x],ws++us++[.cls x],fr,{U with factor:=(q.length:Int)},_,_,_,_,n,GO (RV c3 ah ao),zO,W.add (w:=.cls x) rfl,⟨N.place,N.alt.more,N.meet.more,N.sign,N.row.more,IxR.new W rfl⟩,c1.more,by simp only[O_,c_];omega,ae,bn⟩,zO⟩
  ·skip
   obtain rfl:i=t.size:=zO
   have b7:Ch t ⟨0,Fq (-1),[]⟩=rD ⟨t.size,f,fs⟩:=ak.trans (Qz (by show¬t.size<t.size;omega));refine G_ BU ?_;refine lT (v:=.slice (N_ fb) n fc) EN ((F.blk 0 rfl).ce rfl) ?_;cases hK with
   | @cons fr1 fs1 g ga hK1 hG=>
     have d6:n=fr1.length+1+1:=by rw[a6];simp
     have d3:zT (1<(n:Int))=zW:=t_;have d9:sb≠q2:=(F.blk 0 rfl).ne (F.blk 3 rfl) zQ;have da:fb≠q2:=λe=>F.apart2 (i:=2) (j:=3) rfl rfl zQ fb (.inl ⟨0,n,fc,rfl⟩) e;(conv=>whnf);rw[d3];refine Ap.held (λk=>k=sb\/k=fb) 17 (sq [0,1,2,3,4,5,6,7,8,9,10,11,12,13] (.f 14 (sq [15,16] .e))) rfl zX (Au underlying32 rfl _ OI L' rfl (G_ BU ?_));refine C_ (v:=.slice (N_ fb) n fc) EN ((F.blk 0 rfl).ce rfl) (.inl rfl) ?_;refine G_ BU ?_;refine C_ (v:=.slice (N_ fb) n fc) EN ((F.blk 0 rfl).ce rfl) (.inl rfl) ?_;(conv=>whnf);rw[W_ (x:=(n:Int)-1) zO];refine xT (j:=(fr1++[g]).length) LA F 2 rfl zZ (by simp;omega) ?_;refine G_ AlT (C_ (v:=A_ I.place) E_ (BE F (k:=0) rfl) (.inr rfl) (BH (cs:=L') F 3 rfl rfl (M_ _) rfl λGz J jz jq=>?_));have ez:Ah L' 0 L'=L':=Bo rfl;rw[ez]at J;refine⟨jz.mono λk A=>by
      rcases A with A | A
      ·rw[show k=sb from A];exact d9
      ·rw[show k=fb from A];exact da,?_⟩
     refine L_ (cs:=L') Dv (Kv (J.blk 3 rfl)) zA (⟨J.old,?_⟩);unfold I8;rw[R,b7];show _=Value.tuple #[.agg L'.toArray,A_ 21,A_ f.place];rw[<-hF.place];rfl
   | nil=>
     have bw:n=1:=by rw[a6];rfl
     have d3:zT (1<(n:Int))=zU:=g_;(conv=>whnf);rw[d3];refine Ae.mk (PO F hN zO) ?_;rintro v G2 ⟨K,L,l⟩;have Q:=LQ ds I;have⟨us,W,N⟩:=LR hR hF;have b8:=N.alt;have db:(CQ f).alt=zY ((CQ f).alt.getD .eps):=rfl;obtain⟨r,hr⟩:∃r,r=(CQ f).alt.getD .eps:=⟨_,rfl⟩;rw[db,<-hr]at b8;have⟨jr,wr,ay,bo,bp⟩:=b8;have a9:Ch t ⟨0,Fq (-1),[]⟩=(if 2000<r.nodes then .inl (24,0)else .inr r):=by
      rw[b7,hr];rfl
     obtain⟨q,U,hq⟩:∃q U,EM ds I=(q,U):=⟨_,_,rfl⟩;rw[hq]at l W N Q ay;replace l:B_ (H_ H) H G2 (stP sb fb K L fc n q ([]++[U]) [pB tRe q2 L']):=l;replace W:Raw q (ws++us):=W;replace Q:q.length<=ds.length+4:=Q;replace ay:U.alt=(jr:Int):=ay;have dr:=W.len;have dc:=(T_.1 bo).1;refine G_ BU ?_;refine lT (v:=.slice (N_ fb) n fc) EN ((l.blk 0 rfl).ce rfl) ?_;refine xT (j:=([]:List J').length) LA l 2 rfl zZ rfl (G_ N2 ?_);refine C_ (v:=A_ jr) E_ (by rw[<-ay];exact BE l (k:=1) rfl) zA ?_;refine G_ Hs ?_;refine lT (v:=.slice K q.length L) FB ((l.blk 0 rfl).ce rfl) ?_;refine Ae.mk (Aj6 (S:=H_ G2) (λk A=>A) W zO (l.view 1 rfl)) ?_;rintro _ G3 ⟨bz,rfl,c6⟩;have E:=l.call c6.old;have c8:=Ul (j:=(ws++us).length) bo dc;refine zK (j:=jr) (x:=yN wr) AD c6 0 rfl c8 rfl λb9 o9 dt du de df=>?_;obtain⟨rfl,-⟩:=df;refine lT (v:=A_ (yN wr)) E_ de.one ?_;have c9:yN wr=((Z' r:Nat):Int):=by unfold yN;rw[bp]
     rw[c9];by_cases hn:2000<r.nodes
     ·have d4:zT (2000<((Z' r:Nat):Int))=zW:=r_ (by unfold Z';omega);rw[J_ hn]at a9;(conv=>whnf);rw[d4];refine Au underlying32 rfl _ OI L' rfl (AI (cs:=L') E 3 rfl rfl (M_ _) rfl λGz J=>?_);have ez:Ah L' 0 L'=L':=Bo rfl;rw[ez]at J;refine L_ (cs:=L') Dv (Kv (J.blk 3 rfl)) zA (⟨J.old,?_⟩);unfold I8;rw[R,a9];rfl
     ·have d4:zT (2000<((Z' r:Nat):Int))=zU:=n_ (by unfold Z';omega);rw[I_ hn]at a9;(conv=>whnf);rw[d4];refine Af _ L' OI rfl ?_;intro b0 G4 ai a0 P O;have b4:=((St.nil G3).box ai a0 P O).nils wD 77;replace b4:B_ (H_ G3) G3 G4 (reP b0 zV 0 [] 0 []):=b4;have D:=E.call b4.old;refine G_ Hs ?_;refine lT (v:=.slice K q.length L) FB ((D.blk 0 rfl).ce rfl) ?_;refine Ae.mk (AlW wr (H_ G3) G3 G4 b0 0 zV [] 0 [] K L jr q (ws++us) W (E.view 1 rfl) (λk A=>A) bo (by rw[bp];simp;omega) b4) ?_;rintro _ G5 ⟨ms,a5,c5,cd,ce,rfl,b5,cg⟩;rw[bp]at cd b5 ce;rw[List.nil_append]at b5 cg;refine G_ Te ?_;refine Bb cg 0 E_ rfl (by show _<(2:Nat);decide) rfl λG6 aj=>?_;rw[show([]:List h_).length+ms.length-1=ms.length-1 by simp]at b5 aj;replace aj:B_ (H_ G3) G3 G6 (reP b0 a5 c5 ms ((ms.length-1:Nat):Int) []):=aj;have M:=E.call aj.old;have dg:Bi G6 b0 0 (zR (.slice a5 ms.length c5) ((ms.length-1:Nat):Int)):=(aj.blk 0 rfl).cells λj v hv=>by rw[K_];exact hv
      refine L_ (cs:=zR (.slice a5 ms.length c5) ((ms.length-1:Nat):Int)) Dv dg zA (BH (cs:=zR (.slice a5 ms.length c5) ((ms.length-1:Nat):Int)) M 3 rfl rfl (M_ _) rfl λG7 V dh dv=>?_);rw[Bo (show(zR (.slice a5 ms.length c5) ((ms.length-1:Nat):Int)).length=L'.length from rfl)]at V;have di:Bi G7 q2 0 (zR (.slice a5 ms.length c5) ((ms.length-1:Nat):Int)):=(V.blk 3 rfl).cells λj v hv=>by rw[K_];exact hv
      refine lN (cs:=zR (.slice a5 ms.length c5) ((ms.length-1:Nat):Int)) Dv di ?_;have ow:=St.own (H0:=G3) aj 1 rfl;have dw:q2<G3.size:=(E.blk 3 rfl).lt;refine⟨V.old,?_⟩;unfold I8;rw[R,a9];refine⟨ms,a5,c5,ms.length-1,rfl,b5,cd,ce,?_⟩;refine(ow.agr dh (λb hb=>by have:=(ow.lt hb).1;omega) (λb hb=>hb.elim)).lower ?_;exact E.size
inductive E9(R:Nat->Nat->Prop)(i:Nat):Nat->Prop
 | refl:E9 R i i
 | step {k j:Nat}:E9 R i k->R k j->E9 R i j
def Mt(l:List Nat):ReM->Nat->Nat->Prop | .eps,i,j=>i=j | .cls s,i,j=>∃c,l[i]?=zY c/\s.getLsbD c=zW/\j=i+1 | .cat a b,i,j=>∃k,Mt l a i k/\Mt l b k j | .alt a b,i,j=>Mt l a i j\/Mt l b i j | .star a,i,j=>E9 (Mt l a) i j | .and_ a b,i,j=>Mt l a i j/\Mt l b i j | .minus a b,i,j=>Mt l a i j/\¬Mt l b i j
inductive Pth(es:List u_)(l:List Nat)(p:Int)(i:Nat):Int->Nat->Prop
 | refl:Pth es l p i p i
 | sil {q:Int} {j:Nat} {e:u_}:Pth es l p i q j->e∈es->e.sil=zW->e.fr=q->Pth es l p i e.to j
 | eat {q:Int} {j c:Nat} {e:u_}:Pth es l p i q j->e∈es->e.sil=zU->e.fr=q->l[j]?=zY c->e.set.getLsbD c=zW->Pth es l p i e.to (j+1)
def Pth.mono{es':List u_}{p:Int}{j:Nat}(h:Pth es l p i q j)(k:∀e∈es,e∈es'):Pth es' l p i q j:=by induction h with|refl=>exact .refl|sil _ a b c d=>exact .sil d (k _ a) b c|eat _ a b c f g d=>exact .eat d (k _ a) b c f g
def Pth.trans{p r:Int}{j:Nat}(h:Pth es l p i q j)(g:Pth es l q j r k):Pth es l p i r k:=by induction g with|refl=>exact h|sil _ a b c d=>exact .sil d a b c|eat _ a b c e f d=>exact .eat d a b c e f
def Pth.one{p q:Nat}(h:AK p q∈es):Pth es l (p:Int) i (q:Int) i:=.sil .refl h rfl rfl
def CZ:∀(r:ReM),r.plain=zW->∀n,∀e∈(Bj r n).2.2,(n:Int)<=e.fr/\e.fr<((n+o_ r:Nat):Int)/\(n:Int)<=e.to/\e.to<((n+o_ r:Nat):Int)
 | .eps,_,n,e,c=>by
   rcases V_.1 c with rfl;simp only[AK,o_];omega
 | .cls s,_,n,e,c=>by
   rcases V_.1 c with rfl;simp only[C3,o_];omega
 | .cat a b,h,n,e,c=>by
   simp only[ReM.plain,X']at h;have d:=EK a h.1 n;have g:=EK b h.2 (n+o_ a);simp only[Bj,k_,V_]at c;simp only[o_];rcases c with(c | c) | rfl
   ·have:=CZ a h.1 n e c;omega
   ·have:=CZ b h.2 (n+o_ a) e c;omega
   ·simp only[AK];omega
 | .alt a b,h,n,e,c=>by
   simp only[ReM.plain,X']at h;have d:=EK a h.1 (n+1);have g:=EK b h.2 (n+1+o_ a);simp only[Bj,k_,zM,tJ,or_false]at c;simp only[o_];rcases c with(c | c) | rfl | rfl | rfl | rfl
   ·have:=CZ a h.1 (n+1) e c;omega
   ·have:=CZ b h.2 (n+1+o_ a) e c;omega
   all_goals simp only[AK];omega
 | .star a,h,n,e,c=>by
   have f:a.plain=zW:=h;have d:=EK a f (n+1);simp only[Bj,k_,zM,tJ,or_false]at c;simp only[o_];rcases c with c | rfl | rfl | rfl | rfl
   ·have:=CZ a f (n+1) e c;omega
   all_goals simp only[AK];omega
 | .and_ _ _,h,_,_,_=>by cases h
 | .minus _ _,h,_,_,_=>by cases h
def C'(n m:Nat)(q:Int):Prop:=(n:Int)<=q/\q<((n+m:Nat):Int)
def HL(l:List Nat):∀(r:ReM),r.plain=zW->∀(n i j:Nat),Pth (Bj r n).2.2 l ((Bj r n).1:Int) i ((Bj r n).2.1:Int) j↔Mt l r i j
 | .eps,_,n,i,j=>by
   constructor
   ·intro h;have t:∀q j,Pth (Bj .eps n).2.2 l (n:Int) i q j->i=j:=by
     intro q j h
     induction h with
     | refl=>rfl
     | sil _ _ _ _ g=>exact g
     | eat _ m p=>rcases V_.1 m with rfl;cases p
    exact t _ _ h
   ·intro h;have h:i=j:=h;subst h;exact Pth.one (V_.2 rfl)
 | .cls s,_,n,i,j=>by
   constructor
   ·intro h;have t:∀q j,Pth (Bj (.cls s) n).2.2 l (n:Int) i q j->(q=(n:Int)/\j=i)\/(q=((n+1:Nat):Int)/\Mt l (.cls s) i j):=by
     intro q j h
     induction h with
     | refl=>exact .inl ⟨rfl,rfl⟩
     | sil _ m p=>rcases V_.1 m with rfl;cases p
     | eat _ m p o x y g=>
       rcases V_.1 m with rfl;rcases g with⟨v,rfl⟩ | ⟨v,-⟩
       ·exact .inr ⟨rfl,_,x,y,rfl⟩
       ·rw[v]at o;have o:(n:Int)=((n+1:Nat):Int):=o;omega
    rcases t _ _ h with⟨v,-⟩ | ⟨-,e2⟩
    ·have v:((n+1:Nat):Int)=(n:Int):=v;omega
    ·exact e2
   ·rintro⟨c,m,p,rfl⟩;exact .eat (e:=C3 n (n+1) s) .refl (V_.2 rfl) rfl rfl m p
 | .cat a b,h,n,i,j=>by
   simp only[ReM.plain,X']at h;have G:=EK a h.1 n;have H:=EK b h.2 (n+o_ a);have z:=HL l a h.1 n;have tb:=HL l b h.2 (n+o_ a);have B:=CZ a h.1 n;have C:=CZ b h.2 (n+o_ a);have f:∀e,e∈(Bj (.cat a b) n).2.2↔(e∈(Bj a n).2.2\/e∈(Bj b (n+o_ a)).2.2\/e=AK (Bj a n).2.1 (Bj b (n+o_ a)).1):=λe=>by
    simp only[Bj,k_,V_,or_assoc]
   constructor
   ·intro w;have t:∀q j,Pth (Bj (.cat a b) n).2.2 l ((Bj a n).1:Int) i q j->
      (C' n (o_ a) q/\Pth (Bj a n).2.2 l ((Bj a n).1:Int) i q j)\/(C' (n+o_ a) (o_ b) q/\∃k,Mt l a i k/\Pth (Bj b (n+o_ a)).2.2 l ((Bj b (n+o_ a)).1:Int) k q j):=by
     intro q j w
     induction w with
     | refl=>exact .inl ⟨by unfold C';omega,.refl⟩
     | @sil q j e _ m p o g=>
       rcases(f e).1 m with m | m | rfl
       ·have v:=B e m;rcases g with⟨d,g⟩ | ⟨d,-⟩
        ·exact .inl ⟨⟨zO,zO⟩,.sil g m p o⟩
        ·unfold C' at d;omega
       ·have v:=C e m;rcases g with⟨d,-⟩ | ⟨d,k,u,g⟩
        ·unfold C' at d;omega
        ·exact .inr ⟨⟨zO,zO⟩,k,u,.sil g m p o⟩
       ·have o:((Bj a n).2.1:Int)=q:=o;rcases g with⟨d,g⟩ | ⟨d,-⟩
        ·rw[<-o]at g;exact .inr ⟨⟨by show _<=(((Bj b (n+o_ a)).1:Nat):Int);omega,by show(((Bj b (n+o_ a)).1:Nat):Int)<_;omega⟩,j,(z i j).1 g,.refl⟩
        ·unfold C' at d;omega
     | @eat q j c e _ m p o x y g=>
       rcases(f e).1 m with m | m | rfl
       ·have v:=B e m;rcases g with⟨d,g⟩ | ⟨d,-⟩
        ·exact .inl ⟨⟨zO,zO⟩,.eat g m p o x y⟩
        ·unfold C' at d;omega
       ·have v:=C e m;rcases g with⟨d,-⟩ | ⟨d,k,u,g⟩
        ·unfold C' at d;omega
        ·exact .inr ⟨⟨zO,zO⟩,k,u,.eat g m p o x y⟩
       ·cases p
    rcases t _ _ w with⟨d,-⟩ | ⟨-,k,u,D⟩
    ·have d:C' n (o_ a) ((Bj b (n+o_ a)).2.1:Int):=d;unfold C' at d;omega
    ·exact⟨k,u,(tb k j).1 D⟩
   ·rintro⟨k,F,D⟩;have pa:=((z i k).2 F).mono (es':=(Bj (.cat a b) n).2.2) λe A=>(f e).2 (.inl A);have pb:=((tb k j).2 D).mono (es':=(Bj (.cat a b) n).2.2) λe A=>(f e).2 (.inr (.inl A));exact(pa.trans (Pth.one ((f _).2 (.inr (.inr rfl))))).trans pb
 | .alt a b,h,n,i,j=>by
   simp only[ReM.plain,X']at h;have G:=EK a h.1 (n+1);have H:=EK b h.2 (n+1+o_ a);have z:=HL l a h.1 (n+1);have tb:=HL l b h.2 (n+1+o_ a);have B:=CZ a h.1 (n+1);have C:=CZ b h.2 (n+1+o_ a);have f:∀e,e∈(Bj (.alt a b) n).2.2↔(e∈(Bj a (n+1)).2.2\/e∈(Bj b (n+1+o_ a)).2.2\/e=AK n (Bj a (n+1)).1\/e=AK n (Bj b (n+1+o_ a)).1\/e=AK (Bj a (n+1)).2.1 (n+1+o_ a+o_ b)\/e=AK (Bj b (n+1+o_ a)).2.1 (n+1+o_ a+o_ b)):=λe=>by
    simp only[Bj,k_,zM,tJ,or_false,or_assoc]
   constructor
   ·intro w;have t:∀q j,Pth (Bj (.alt a b) n).2.2 l (n:Int) i q j->
      (q=(n:Int)/\i=j)\/(C' (n+1) (o_ a) q/\Pth (Bj a (n+1)).2.2 l ((Bj a (n+1)).1:Int) i q j)\/(C' (n+1+o_ a) (o_ b) q/\Pth (Bj b (n+1+o_ a)).2.2 l ((Bj b (n+1+o_ a)).1:Int) i q j)\/(q=((n+1+o_ a+o_ b:Nat):Int)/\Mt l (.alt a b) i j):=by
     intro q j w
     induction w with
     | refl=>exact .inl ⟨rfl,rfl⟩
     | @sil q j e _ m p o g=>
       rcases(f e).1 m with m | m | rfl | rfl | rfl | rfl
       ·have v:=B e m;rcases g with⟨d,-⟩ | ⟨d,g⟩ | ⟨d,-⟩ | ⟨d,-⟩
        ·omega
        ·exact .inr (.inl ⟨⟨zO,zO⟩,.sil g m p o⟩)
        ·unfold C' at d;omega
        ·omega
       ·have v:=C e m;rcases g with⟨d,-⟩ | ⟨d,-⟩ | ⟨d,g⟩ | ⟨d,-⟩
        ·omega
        ·unfold C' at d;omega
        ·exact .inr (.inr (.inl ⟨⟨zO,zO⟩,.sil g m p o⟩))
        ·omega
       ·have o:(n:Int)=q:=o;rcases g with⟨d,rfl⟩ | ⟨d,-⟩ | ⟨d,-⟩ | ⟨d,-⟩
        ·exact .inr (.inl ⟨⟨by show _<=(((Bj a (n+1)).1:Nat):Int);omega,by show(((Bj a (n+1)).1:Nat):Int)<_;omega⟩,.refl⟩)
        ·unfold C' at d;omega
        ·unfold C' at d;omega
        ·omega
       ·have o:(n:Int)=q:=o;rcases g with⟨d,rfl⟩ | ⟨d,-⟩ | ⟨d,-⟩ | ⟨d,-⟩
        ·exact .inr (.inr (.inl ⟨⟨by show _<=(((Bj b (n+1+o_ a)).1:Nat):Int);omega,by show(((Bj b (n+1+o_ a)).1:Nat):Int)<_;omega⟩,.refl⟩))
        ·unfold C' at d;omega
        ·unfold C' at d;omega
        ·omega
       ·have o:((Bj a (n+1)).2.1:Int)=q:=o;rcases g with⟨d,-⟩ | ⟨d,g⟩ | ⟨d,-⟩ | ⟨d,-⟩
        ·omega
        ·rw[<-o]at g;exact .inr (.inr (.inr ⟨rfl,.inl ((z i j).1 g)⟩))
        ·unfold C' at d;omega
        ·omega
       ·have o:((Bj b (n+1+o_ a)).2.1:Int)=q:=o;rcases g with⟨d,-⟩ | ⟨d,-⟩ | ⟨d,g⟩ | ⟨d,-⟩
        ·omega
        ·unfold C' at d;omega
        ·rw[<-o]at g;exact .inr (.inr (.inr ⟨rfl,.inr ((tb i j).1 g)⟩))
        ·omega
     | @eat q j c e _ m p o x y g=>
       rcases(f e).1 m with m | m | rfl | rfl | rfl | rfl
       ·have v:=B e m;rcases g with⟨d,-⟩ | ⟨d,g⟩ | ⟨d,-⟩ | ⟨d,-⟩
        ·omega
        ·exact .inr (.inl ⟨⟨zO,zO⟩,.eat g m p o x y⟩)
        ·unfold C' at d;omega
        ·omega
       ·have v:=C e m;rcases g with⟨d,-⟩ | ⟨d,-⟩ | ⟨d,g⟩ | ⟨d,-⟩
        ·omega
        ·unfold C' at d;omega
        ·exact .inr (.inr (.inl ⟨⟨zO,zO⟩,.eat g m p o x y⟩))
        ·omega
       all_goals cases p
    rcases t _ _ w with⟨d,-⟩ | ⟨d,-⟩ | ⟨d,-⟩ | ⟨-,E⟩
    ·have d:((n+1+o_ a+o_ b:Nat):Int)=(n:Int):=d;omega
    ·have d:C' (n+1) (o_ a) ((n+1+o_ a+o_ b:Nat):Int):=d;unfold C' at d;omega
    ·have d:C' (n+1+o_ a) (o_ b) ((n+1+o_ a+o_ b:Nat):Int):=d;unfold C' at d;omega
    ·exact E
   ·rintro(F | D)
    ·have pa:=((z i j).2 F).mono (es':=(Bj (.alt a b) n).2.2) λe A=>(f e).2 (.inl A);exact((Pth.one (l:=l) (i:=i) ((f _).2 (.inr (.inr (.inl rfl))))).trans pa).trans (Pth.one ((f _).2 (.inr (.inr (.inr (.inr (.inl rfl)))))))
    ·have pb:=((tb i j).2 D).mono (es':=(Bj (.alt a b) n).2.2) λe A=>(f e).2 (.inr (.inl A));exact((Pth.one (l:=l) (i:=i) ((f _).2 (.inr (.inr (.inr (.inl rfl)))))).trans pb).trans (Pth.one ((f _).2 (.inr (.inr (.inr (.inr (.inr rfl)))))))
 | .star a,h,n,i,j=>by
   have m:a.plain=zW:=h;have G:=EK a m (n+1);have z:=HL l a m (n+1);have B:=CZ a m (n+1);have f:∀e,e∈(Bj (.star a) n).2.2↔(e∈(Bj a (n+1)).2.2\/e=AK n (Bj a (n+1)).1\/e=AK n (n+1+o_ a)\/e=AK (Bj a (n+1)).2.1 (Bj a (n+1)).1\/e=AK (Bj a (n+1)).2.1 (n+1+o_ a)):=λe=>by
    simp only[Bj,k_,zM,tJ,or_false,or_assoc]
   constructor
   ·intro w;have t:∀q j,Pth (Bj (.star a) n).2.2 l (n:Int) i q j->
      (q=(n:Int)/\i=j)\/(C' (n+1) (o_ a) q/\∃k,E9 (Mt l a) i k/\Pth (Bj a (n+1)).2.2 l ((Bj a (n+1)).1:Int) k q j)\/(q=((n+1+o_ a:Nat):Int)/\E9 (Mt l a) i j):=by
     intro q j w;have hs:C' (n+1) (o_ a) ((Bj a (n+1)).1:Int):=by unfold C';omega
     induction w with
     | refl=>exact .inl ⟨rfl,rfl⟩
     | @sil q j e _ m p o g=>
       rcases(f e).1 m with m | rfl | rfl | rfl | rfl
       ·have v:=B e m;rcases g with⟨d,-⟩ | ⟨d,k,u,g⟩ | ⟨d,-⟩
        ·omega
        ·exact .inr (.inl ⟨⟨zO,zO⟩,k,u,.sil g m p o⟩)
        ·omega
       ·have o:(n:Int)=q:=o;rcases g with⟨d,rfl⟩ | ⟨d,-⟩ | ⟨d,-⟩
        ·exact .inr (.inl ⟨hs,i,.refl,.refl⟩)
        ·unfold C' at d;omega
        ·omega
       ·have o:(n:Int)=q:=o;rcases g with⟨d,rfl⟩ | ⟨d,-⟩ | ⟨d,-⟩
        ·exact .inr (.inr ⟨rfl,.refl⟩)
        ·unfold C' at d;omega
        ·omega
       ·have o:((Bj a (n+1)).2.1:Int)=q:=o;rcases g with⟨d,-⟩ | ⟨d,k,u,g⟩ | ⟨d,-⟩
        ·omega
        ·rw[<-o]at g;exact .inr (.inl ⟨hs,j,.step u ((z k j).1 g),.refl⟩)
        ·omega
       ·have o:((Bj a (n+1)).2.1:Int)=q:=o;rcases g with⟨d,-⟩ | ⟨d,k,u,g⟩ | ⟨d,-⟩
        ·omega
        ·rw[<-o]at g;exact .inr (.inr ⟨rfl,.step u ((z k j).1 g)⟩)
        ·omega
     | @eat q j c e _ m p o x y g=>
       rcases(f e).1 m with m | rfl | rfl | rfl | rfl
       ·have v:=B e m;rcases g with⟨d,-⟩ | ⟨d,k,u,g⟩ | ⟨d,-⟩
        ·omega
        ·exact .inr (.inl ⟨⟨zO,zO⟩,k,u,.eat g m p o x y⟩)
        ·omega
       all_goals cases p
    rcases t _ _ w with⟨d,-⟩ | ⟨d,-⟩ | ⟨-,E⟩
    ·have d:((n+1+o_ a:Nat):Int)=(n:Int):=d;omega
    ·have d:C' (n+1) (o_ a) ((n+1+o_ a:Nat):Int):=d;unfold C' at d;omega
    ·exact E
   ·intro E;have t:∀k,E9 (Mt l a) i k->k=i\/Pth (Bj (.star a) n).2.2 l (n:Int) i ((Bj a (n+1)).2.1:Int) k:=by
     intro k u
     induction u with
     | refl=>exact .inl rfl
     | @step k j u hj g=>
       have pa:=((z k j).2 hj).mono (es':=(Bj (.star a) n).2.2) λe A=>(f e).2 (.inl A);rcases g with rfl | g
       ·exact .inr ((Pth.one (l:=l) ((f _).2 (.inr (.inl rfl)))).trans pa)
       ·exact .inr ((g.trans (Pth.one ((f _).2 (.inr (.inr (.inr (.inl rfl))))))).trans pa)
    rcases t j E with rfl | w
    ·exact Pth.one ((f _).2 (.inr (.inr (.inl rfl))))
    ·exact w.trans (Pth.one ((f _).2 (.inr (.inr (.inr (.inr rfl))))))
 | .and_ _ _,h,_,_,_=>by cases h
 | .minus _ _,h,_,_,_=>by cases h
def Ud{a:P_}(hs:a.has a.start=zW)(b:∀e∈a.edges,a.has e.to=zW){j:Nat}(h:Pth a.edges l a.start 0 q j):j<=l.length/\OH a (l.take j) q:=by induction h with|refl=>exact⟨p_ _,a.start,⟨rfl,hs⟩,.refl _⟩|@sil q j e _ h1 h2 h3 ih=>exact⟨ih.1,dH a _ e h1 h2 (b e h1) (by rw[h3];exact ih.2)⟩|@eat q j c e _ h1 h2 h3 h4 h5 ih=>have d:=(T_.1 h4).1;refine⟨d,?_⟩;have f:l.take (j+1)=l.take j++[c]:=by{rw[sS,h4];rfl};rw[f,NH];exact WC ⟨e,h1,h2,h5,by rw[h3];exact ih.2,b e h1,rfl⟩
def Pm{a:P_}{l:List Nat}:∀{j:Nat},j<=l.length->∀q,OH a (l.take j) q->Pth a.edges l a.start 0 q j
 | 0,_,q,h=>by
   refine IE (Y:=λq=>Pth a.edges l a.start 0 q 0) (λq g=>?_) (λe b c i d=>.sil d b c rfl) q h;rw[g.1];exact .refl
 | j+1,hj,q,h=>by
   have f:j<l.length:=hj;have k:l.take (j+1)=l.take j++[l[j]]:=by rw[sS,zJ f];rfl
   rw[k,NH]at h;refine IE (Y:=λq=>Pth a.edges l a.start 0 q (j+1)) (λq g=>?_) (λe b c i d=>.sil d b c rfl) q h;obtain⟨e,b,c,i,d,m,rfl⟩:=g;exact .eat (Pm zO e.fr d) b c rfl (zJ f) i
end Go.Proofs.YtelngokgpnphfaaGreatDoor
