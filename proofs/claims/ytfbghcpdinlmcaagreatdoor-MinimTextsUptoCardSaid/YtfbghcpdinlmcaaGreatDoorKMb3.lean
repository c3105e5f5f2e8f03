import Derived.Test.YtfbghcpdinlmcaaGreatDoorKMb2
set_option maxHeartbeats 0
open Array renaming replicate → Ak4
open List renaming replicate → AkD
set_option maxRecDepth 100000
open Go.Proofs.Tryz
open Go renaming Value → v_, Program → w_, TypeId → x_, World → y_, Operand → z_
namespace Go.Proofs.YtfbghcpdinlmcaaGreatDoor
open Go.VC Go.Lib
theorem NH(x:BitVec 256):A9 x=E9 fun b=>x.getLsbD b:=by
 unfold A9 IR E9;refine List.map_congr_left fun b a=>?_;rw[n_ (List.mem_range.1 a),Ya0]
theorem Z4{f:Nat→Bool}{x:BitVec 256}(h:∀b,b<256→f b=x.getLsbD b):E9 f=A9 x:=by rw[NH];exact Eb h
theorem LP(x y:BitVec 256)(b:Nat):(x ||| y).getLsbD b=(x.getLsbD b|| y.getLsbD b):=BitVec.getLsbD_or
theorem Ww(x:BitVec 256)(b:Nat)(a:b<256):(~~~x).getLsbD b= !x.getLsbD b:=by rw[BitVec.getLsbD_not,n_ a,Ya0]
theorem TT(b:Nat):(0#256).getLsbD b=false:=BitVec.getLsbD_zero
theorem FO(f:Nat→Bool){k:Nat}(h:k<256)(v:Bool):(E9 f).set k (.bool v)=E9 fun b=>if b=k then v else f b:=by
 apply YaJ;intro j;by_cases c:j<256
 ·rw[NY _ c];by_cases a:k=j
  ·subst a;rw[YaA (by rw[DA];exact h),F_ rfl]
  ·rw[YaC a,NY _ c,D_ (Ne.symm a)]
 ·rw[YaL (by rw[YaH,DA];omega),YaL (by rw[DA];omega)]
def notM(nt:Bool)(M:Sum Nat (BitVec 256×Nat)):Sum Nat (BitVec 256×Nat):=match M with
 | .inl e=>.inl e
 | .inr (x,k)=>.inr (if nt then ~~~x else x,k)
def GG:v_:=.agg (A9 0#256).toArray
theorem Ek:(prog.info? 157).bind (·.zero)=some GG:=by kernel_rfl
def DR(t:ByteArray)(i:Nat)(v:v_):Prop:=match BE t i with
 | .inl e=>v= .tuple #[GG,A_ 0,A_ 10,A_ e]
 | .inr (x,j)=>v= .tuple #[.agg (A9 x).toArray,A_ j,A_ 0,A_ 0]
def rrP(q4 q8:Nat)(x:BitVec 256):List Pc:=[pB 157 q4 (A9 0#256),pB 157 q8 (A9 x)]
def rrF(q4 q8:Nat)(f:Nat→Bool):List Pc:=[pB 157 q4 (A9 0#256),pB 157 q8 (E9 f)]
theorem DX{q4 a:Nat}{f:Nat→Bool}{x:BitVec 256}(h:∀b,b<256→f b=x.getLsbD b):rrF q4 a f=rrP q4 a x:=by unfold rrF rrP;rw[Z4 h]
structure MemD(H:Aa)(t:ByteArray)(q4 q8:Nat)(M:Sum Nat (BitVec 256×Nat))(y:Nat×Nat×BitVec 256)(G:Aa):Prop where
 le:y.1≤t.size
 fuel:t.size<y.2.1+y.1
 eq:Dj t y.2.1 y.1 y.2.2=M
 st:St H G (rrP q4 q8 y.2.2)
theorem Cj{H:Aa}{b:Nat}{x:BitVec 256}(h:Q_ H b 157 (A9 x)):Be H b 0 (A9 x):=h.cells (fun j v a=>by rw[K_];exact a)
theorem agD(x:BitVec 256):Hb prog 157 (A9 x).length:=by rw[Au];exact Y6
theorem szD(x:BitVec 256):(prog.info? 157).map (·.size)=some (A9 x).length:=by rw[Au];rfl
theorem onD(x:BitVec 256):(A9 x).all (·.oneCell')=true:=Px x 256
theorem XL{H:Aa}{t:ByteArray}{i:Nat}(ht:t.size≤1152921504606846976)(hi:i<t.size):
  Ak prog 81 #[.string t,A_ i] H fun v H'=>C_ (H_ H) H H'∧DR t i v:=by
 refine Ak.of_vcL func81 rfl (call81 _) ?_;have⟨b,J,K,br⟩:=Dl hi;refine Am GG (A9 0#256) Ek rfl ?_;intro u H1 b9 bd ap be;have st1:=(St.nil H).box b9 bd ap be;refine Am GG (A9 0#256) Ek rfl ?_;intro F H2 bf bg aq bh;have Z:St H H2 (rrP u F 0#256):=st1.box bf bg aq bh;have d1:decide ((i:Int)<0)=false:=V_;have d2:decide ((i:Int)≥(t.size:Int))=false:=V_;(conv=>whnf);rw[d1];(conv=>whnf);rw[d2];refine DQ Fw rfl J ?_;rw[←K];by_cases a5:bt t i=46
 ·have d3:((bt t i:Int)==(46:Int))=true:=by rw[a5];rfl
  (conv=>whnf);rw[d3];(conv=>whnf);refine A0.mk [9] (fun k:Nat=>[A_ k]) (fun k G=>k≤256∧St H G (rrF u F fun b=>decide (b<k)&& !decide (b=10))) (fun k _=>256-k) ?_ ?_
  ·(conv=>whnf);exact⟨0,rfl,by omega,by rw[DX (x:=0#256) (fun b X=>by rw[TT];simp)];exact Z⟩
  ·rintro k G bp ⟨hk,L⟩;refine AG.m2 (fun P=>?_) (fun P=>?_)
   ·(conv=>whnf);try (refine An.run ?_)
    have d4:((k:Int) != (10:Int))= !decide (k=10):=by
     by_cases h:k=10
     ·subst h;rfl
     ·rw[j_ h];rw[Bool.not_false,bne_iff_ne];omega
    (conv=>whnf);rw[d4];refine M' E6 (by omega) (by omega) ?_;refine Bh L 1 ct4 rfl (by rw[DA];omega) rfl fun G2 a6=>?_;have N:0+(k:Int).toNat*1=k:=by omega
    rw[N]at a6;have a0:St H G2 (rrF u F fun b=>decide (b<k+1)&& !decide (b=10)):=by
     have e2:(E9 fun b=>decide (b<k)&& !decide (b=10)).set k (.bool (!decide (k=10)))=E9 fun b=>decide (b<k+1)&& !decide (b=10):=by
      rw[FO _ (by omega)];refine Eb fun b X=>?_;by_cases h:b=k
      ·subst h;rw[F_ rfl,n_ (show b<b+1 by omega),Ya0]
      ·rw[D_ h]
       congr 1
       exact decide_eq_decide.2 (by omega)
     have:=a6;unfold rrF at this ⊢;simp only[Ycu,Ycv]at this;rwa [e2]at this
    (conv=>whnf);rw[P_ k (by omega)];exact⟨rfl,k+1,rfl,⟨by omega,a0⟩,by omega⟩
   ·obtain rfl:k=256:=by omega
    have hx:∀b,b<256→(decide (b<256)&& !decide (b=10))=(~~~(AC 10 10)).getLsbD b:=fun b X=>by
     rw[Ww _ _ X,CL _ _ _ X,n_ X,Ya0]
     congr 1
     by_cases h:b=10
     ·subst h;rfl
     ·rw[j_ h];by_cases h2:10≤b
      ·rw[n_ h2,j_ (show¬b≤10 by omega)];rfl
      ·rw[j_ h2];rfl
    rw[DX hx]at L;refine lN (cs:=A9 (~~~(AC 10 10))) (agD _) (Cj (L.blk 1 rfl)) ?_;(conv=>whnf);rw[P_ i (by omega)];refine AN (cs:=A9 (~~~(AC 10 10))) L 0 (szD _) rfl (by simp[Au]) (onD _) fun Z1 d=>?_;have g:Q_ Z1 u 157 (A9 (~~~(AC 10 10))):=by
     have:=d.blk 0 rfl;rwa [AH (by simp[Au])]at this
    refine lN (cs:=A9 (~~~(AC 10 10))) (agD _) (Cj g) ?_;exact⟨d.old,by unfold DR BE;rw[F_ a5]<;>rfl⟩
 have d3:((bt t i:Int)==(46:Int))=false:=beq_eq_false_iff_ne.2 (by omega);(conv=>whnf);rw[d3];refine DQ Fw rfl J ?_;rw[←K];by_cases a9:bt t i=91
 case neg=>
  have d4:((bt t i:Int) != (91:Int))=true:=by rw[bne_iff_ne];omega
  have l:BE t i=match B0 t DP i with | .inl e=>.inl e | .inr (b,k)=>.inr (AC b b,k):=by unfold BE;rw[D_ a5,D_ a9]<;>rfl
  (conv=>whnf);rw[d4];refine Ah (EW (i:=i) (inner:=false) ht (by omega)) fun H3 bi=>?_;have a0:=Z.call bi;unfold MF;simp only[Yaw,if_false];cases O:B0 t DP i with
  | inl e=>
    rw[O]at l;(conv=>whnf);refine L_ (cs:=A9 0#256) (agD _) (Cj (a0.blk 1 rfl)) trivial (AN (cs:=A9 0#256) a0 0 (szD _) rfl (by simp[Au]) (onD _) fun Z1 d=>?_);have g:Q_ Z1 u 157 (A9 0#256):=by
     have:=d.blk 0 rfl;rwa [AH (by simp[Au])]at this
    refine lN (cs:=A9 0#256) (agD _) (Cj g) ?_;exact⟨d.old,by unfold DR;rw[l];rfl⟩
  | inr p=>
    have⟨c,j⟩:=p;rw[O]at l;have ar:=Dp O;(conv=>whnf);rw[W_ (x:=(c:Int)) (by omega)];refine M' E6 (by omega) (by omega) ?_;refine Bh a0 1 ct4 rfl (by rw[Au];omega) rfl fun H4 au=>?_;have N:0+(c:Int).toNat*1=c:=by omega
    rw[N]at au;have aw:St H H4 (rrP u F (AC c c)):=by
     have e2:(A9 0#256).set c (.bool true)=A9 (AC c c):=by
      rw[NH,NH,FO _ (by omega)];refine Eb fun b X=>?_;rw[CL _ _ _ X,TT];by_cases h:b=c
      ·subst h;rw[F_ rfl,n_ (I_ _)]<;>rfl
      ·rw[D_ h];by_cases h2:c≤b
       ·rw[n_ h2,j_ (show¬b≤c by omega)];rfl
       ·rw[j_ h2];rfl
     have:=au;unfold rrP at this ⊢;simp only[Ycu,Ycv]at this;rwa [e2]at this
    refine L_ (cs:=A9 (AC c c)) (agD _) (Cj (aw.blk 1 rfl)) trivial (AN (cs:=A9 (AC c c)) aw 0 (szD _) rfl (by simp[Au]) (onD _) fun Z1 d=>?_);have g:Q_ Z1 u 157 (A9 (AC c c)):=by
     have:=d.blk 0 rfl;rwa [AH (by simp[Au])]at this
    refine lN (cs:=A9 (AC c c)) (agD _) (Cj g) ?_;exact⟨d.old,by unfold DR;rw[l];rfl⟩
 have d4:((bt t i:Int) != (91:Int))=false:=by rw[a9];rfl
 (conv=>whnf);rw[d4];(conv=>whnf);rw[P_ i (by omega)];have l:BE t i=IU t (i+1):=by unfold BE;rw[D_ a5,F_ a9]
 obtain⟨W,Q⟩:∃W:Bool,W=decide (bt t (i+1)=94):=⟨_,rfl⟩;have ax:IU t (i+1)=notM W (Dj t (t.size+1) (if W then i+1+1 else i+1) 0#256):=by
  unfold IU;rw[Q];by_cases h:bt t (i+1)=94
  ·simp only[h,if_true,decide_true];cases Dj t (t.size+1) (i+1+1) 0#256<;>rfl
  ·simp only[h,if_false,decide_false,Yaw];cases Dj t (t.size+1) (i+1) 0#256<;>rfl
 obtain⟨M,hM⟩:∃M,M=Dj t (t.size+1) (if W then i+1+1 else i+1) 0#256:=⟨_,rfl⟩;rw[←hM]at ax;rw[ax]at l;have ay:(if W then i+1+1 else i+1)≤t.size:=by
  cases Y:W with
  | false=>exact hi
  | true=>
    rw[Y]at Q;have bu:=of_decide_eq_true Q.symm;exact D8 (by omega)
 by_cases az:i+1<t.size
 case neg=>
  have a7:=C6 az;have b0:W=false:=by rw[Q,j_];omega
  have d5:decide ((i:Int)+1<(t.size:Int))=false:=V_;(conv=>whnf);rw[d5];(conv=>whnf);refine An.cut [13] (fun _:Unit=>[A_ ((if W then i+1+1 else i+1:Nat):Int)]) (fun _ G=>St H G (rrP u F 0#256)) ?_ ?_
  ·(conv=>whnf);exact⟨rfl,(),by rw[b0];rfl,Z⟩
  ·rintro⟨⟩ G ab L;(conv=>whnf);refine A0.mk [13] (fun y:Nat×Nat×BitVec 256=>[A_ (y.1:Int)]) (fun y G=>MemD H t u F M y G) (fun y _=>t.size-y.1) ?_ ?_
   ·(conv=>whnf);exact⟨((if W then i+1+1 else i+1),t.size+1,0#256),rfl,⟨ay,by simp only;omega,hM.symm,L⟩⟩
   ·rintro⟨j,n,x⟩ J0 ae ⟨hj,ag,B,A⟩;simp only at hj ag B A;obtain⟨n,rfl⟩:∃m,n=m+1:=⟨n-1,by omega⟩;by_cases a1:j<t.size
    case neg=>
     have ah:=C6 a1;have d7:decide ((j:Int)≥(t.size:Int))=true:=e_;have O:B0 t Cl j= .inl j:=by unfold B0;rw[ah,D_ (by decide),F_ (.inr (.inl (by decide)))]
     have f:M= .inl j:=by rw[←B,Dj,D_ (by omega),O]
     rw[f]at l;(conv=>whnf);rw[d7];(conv=>whnf);try (refine An.run ?_)
     refine Ah (EW (i:=j) (inner:=true) ht hj) fun J1 R=>?_;have r:=A.call R;unfold MF;simp only[if_true];rw[O];refine Cz E6 GG Ek (A9 0#256) rfl (AN (cs:=A9 0#256) r 0 (szD _) rfl (by simp[Au]) (onD _) fun Z1 d=>?_);have g:Q_ Z1 u 157 (A9 0#256):=by
      have:=d.blk 0 rfl;rwa [AH (by simp[Au])]at this
     refine lN (cs:=A9 0#256) (agD _) (Cj g) ?_;exact⟨d.old,by unfold DR;rw[l];rfl⟩
    have⟨b5,ai,aj,bj⟩:=Dl a1;have d7:decide ((j:Int)≥(t.size:Int))=false:=V_;(conv=>whnf);rw[d7];refine DQ (i:=j) Fw rfl ai ?_;rw[←aj];by_cases I:bt t j=93
    ·have d8:((bt t j:Int) != (93:Int))=false:=by rw[I];rfl
     have f:M= .inr (x,j+1):=by rw[←B,Dj,F_ I]
     rw[f]at l;(conv=>whnf);rw[d8];(conv=>whnf);have Y:=b0;(conv=>whnf);try (refine An.run ?_)
     refine lN (cs:=A9 x) (agD _) (Cj (A.blk 1 rfl)) ?_;(conv=>whnf);rw[P_ j (by omega)];refine AN (cs:=A9 x) A 0 (szD _) rfl (by simp[Au]) (onD _) fun Z1 d=>?_;have g:Q_ Z1 u 157 (A9 x):=by
      have:=d.blk 0 rfl;rwa [AH (by simp[Au])]at this
     refine lN (cs:=A9 x) (agD _) (Cj g) ?_;exact⟨d.old,by unfold DR;rw[l,Y];rfl⟩
    have d8:((bt t j:Int) != (93:Int))=true:=by rw[bne_iff_ne];omega
    (conv=>whnf);rw[d8];(conv=>whnf);try (refine An.run ?_)
    refine Ah (EW (i:=j) (inner:=true) ht hj) fun J1 R=>?_;have r:=A.call R;unfold MF;simp only[if_true];cases O:B0 t Cl j with
    | inl e=>
      have f:M= .inl e:=by rw[←B,Dj,D_ I,O]
      rw[f]at l;refine Cz E6 GG Ek (A9 0#256) rfl (AN (cs:=A9 0#256) r 0 (szD _) rfl (by simp[Au]) (onD _) fun Z1 d=>?_);have g:Q_ Z1 u 157 (A9 0#256):=by
       have:=d.blk 0 rfl;rwa [AH (by simp[Au])]at this
      refine lN (cs:=A9 0#256) (agD _) (Cj g) ?_;exact⟨d.old,by unfold DR;rw[l];rfl⟩
    | inr p=>
      have⟨lo,z⟩:=p;have ar:=Dp O;have f:M=Hu t lo z x (Dj t n):=by rw[←B,Dj,D_ I,O]
      unfold Hu at f;by_cases a2:z<t.size
      case neg=>
       have a7:=C6 a2;have d9:decide ((z:Int)<(t.size:Int))=false:=V_;rw[D_ (by omega)]at f;(conv=>whnf);try (refine An.run ?_)
       (conv=>whnf);rw[d9];(conv=>whnf);rw[W_ (x:=(lo:Int)) (by omega)];(conv=>whnf);refine A0.mk [20] (fun b:Nat=>[A_ b]) (fun b G=>lo≤b∧b≤lo+1∧St H G (rrF u F fun a=>x.getLsbD a|| (decide (lo≤a)&&decide (a<b)))) (fun b _=>lo+1-b) ?_ ?_
       ·(conv=>whnf);refine⟨lo,rfl,I_ _,by omega,?_⟩;rw[DX (x:=x) (fun a C=>by
         by_cases h:lo≤a
         ·rw[j_ (show¬a<lo by omega),Ycp,Yco]
         ·rw[j_ h,Yaz,Yco])]
        exact r
       ·rintro b I0 D ⟨J,K,q⟩;(conv=>whnf);rw[W_ (x:=(lo:Int)) (by omega)];refine AG.m2 (fun P=>?_) (fun P=>?_)
        ·(conv=>whnf);try (refine An.run ?_)
         refine M' E6 (by omega) (by omega) ?_;refine Bh q 1 ct4 rfl (by rw[DA];omega) rfl fun I2 o=>?_;have N:0+(b:Int).toNat*1=b:=by omega
         rw[N]at o;have w:St H I2 (rrF u F fun a=>x.getLsbD a|| (decide (lo≤a)&&decide (a<b+1))):=by
          have e2:(E9 fun a=>x.getLsbD a|| (decide (lo≤a)&&decide (a<b))).set b (.bool true)=E9 fun a=>x.getLsbD a|| (decide (lo≤a)&&decide (a<b+1)):=by
           rw[FO _ (by omega)];refine Eb fun a C=>?_;by_cases h:a=b
           ·subst h;rw[F_ rfl,n_ (show lo≤a by omega),n_ (show a<a+1 by omega),Ya0,Ycq]
           ·rw[D_ h]
            congr 2
            exact decide_eq_decide.2 (by omega)
          have:=o;unfold rrF at this ⊢;simp only[Ycu,Ycv]at this;rwa [e2]at this
         (conv=>whnf);rw[P_ b (by omega)];exact⟨rfl,b+1,rfl,⟨by omega,by omega,w⟩,by omega⟩
        ·obtain rfl:b=lo+1:=by omega
         rw[DX (x:=x ||| AC lo lo) (fun a C=>by
          rw[LP,CL _ _ _ C]
          congr 2
          exact decide_eq_decide.2 (by omega))]at q
         (conv=>whnf);exact⟨rfl,(z,n,x ||| AC lo lo),rfl,⟨by simp only;omega,by simp only;omega,f.symm,q⟩,by simp only;omega⟩
      have⟨b8,ak,am,b4⟩:=Dl a2;have d9:decide ((z:Int)<(t.size:Int))=true:=e_;(conv=>whnf);try (refine An.run ?_)
      (conv=>whnf);rw[d9];refine DQ (i:=z) Fw rfl ak ?_;rw[←am];by_cases S:bt t z=45
      case neg=>
       have T:((bt t z:Int)==(45:Int))=false:=beq_eq_false_iff_ne.2 (by omega);rw[D_ S]at f;(conv=>whnf);rw[T];(conv=>whnf);rw[W_ (x:=(lo:Int)) (by omega)];(conv=>whnf);refine A0.mk [20] (fun b:Nat=>[A_ b]) (fun b G=>lo≤b∧b≤lo+1∧St H G (rrF u F fun a=>x.getLsbD a|| (decide (lo≤a)&&decide (a<b)))) (fun b _=>lo+1-b) ?_ ?_
       ·(conv=>whnf);refine⟨lo,rfl,I_ _,by omega,?_⟩;rw[DX (x:=x) (fun a C=>by
         by_cases h:lo≤a
         ·rw[j_ (show¬a<lo by omega),Ycp,Yco]
         ·rw[j_ h,Yaz,Yco])]
        exact r
       ·rintro b I0 D ⟨J,K,q⟩;(conv=>whnf);rw[W_ (x:=(lo:Int)) (by omega)];refine AG.m2 (fun P=>?_) (fun P=>?_)
        ·(conv=>whnf);try (refine An.run ?_)
         refine M' E6 (by omega) (by omega) ?_;refine Bh q 1 ct4 rfl (by rw[DA];omega) rfl fun I2 o=>?_;have N:0+(b:Int).toNat*1=b:=by omega
         rw[N]at o;have w:St H I2 (rrF u F fun a=>x.getLsbD a|| (decide (lo≤a)&&decide (a<b+1))):=by
          have e2:(E9 fun a=>x.getLsbD a|| (decide (lo≤a)&&decide (a<b))).set b (.bool true)=E9 fun a=>x.getLsbD a|| (decide (lo≤a)&&decide (a<b+1)):=by
           rw[FO _ (by omega)];refine Eb fun a C=>?_;by_cases h:a=b
           ·subst h;rw[F_ rfl,n_ (show lo≤a by omega),n_ (show a<a+1 by omega),Ya0,Ycq]
           ·rw[D_ h]
            congr 2
            exact decide_eq_decide.2 (by omega)
          have:=o;unfold rrF at this ⊢;simp only[Ycu,Ycv]at this;rwa [e2]at this
         (conv=>whnf);rw[P_ b (by omega)];exact⟨rfl,b+1,rfl,⟨by omega,by omega,w⟩,by omega⟩
        ·obtain rfl:b=lo+1:=by omega
         rw[DX (x:=x ||| AC lo lo) (fun a C=>by
          rw[LP,CL _ _ _ C]
          congr 2
          exact decide_eq_decide.2 (by omega))]at q
         (conv=>whnf);exact⟨rfl,(z,n,x ||| AC lo lo),rfl,⟨by simp only;omega,by simp only;omega,f.symm,q⟩,by simp only;omega⟩
      have T:((bt t z:Int)==(45:Int))=true:=by rw[S];rfl
      rw[F_ S]at f;(conv=>whnf);rw[T];(conv=>whnf);rw[P_ z (by omega)];refine Ah (EW (i:=z+1) (inner:=true) ht (by omega)) fun J2 ao=>?_;have E:=r.call ao;unfold MF;simp only[if_true];cases U:B0 t Cl (z+1)with
      | inl e=>
        rw[U]at f;rw[f]at l;refine Cz E6 GG Ek (A9 0#256) rfl (AN (cs:=A9 0#256) E 0 (szD _) rfl (by simp[Au]) (onD _) fun Z1 d=>?_);have g:Q_ Z1 u 157 (A9 0#256):=by
         have:=d.blk 0 rfl;rwa [AH (by simp[Au])]at this
        refine lN (cs:=A9 0#256) (agD _) (Cj g) ?_;exact⟨d.old,by unfold DR;rw[l];rfl⟩
      | inr p2=>
        have⟨s,j2⟩:=p2;have b6:=Dp U;rw[U]at f;by_cases a3:s<lo
        ·have V:decide ((s:Int)<(lo:Int))=true:=e_;simp only[F_ a3]at f;rw[f]at l;(conv=>whnf);rw[V];refine Cz E6 GG Ek (A9 0#256) rfl (AN (cs:=A9 0#256) E 0 (szD _) rfl (by simp[Au]) (onD _) fun Z1 d=>?_);have g:Q_ Z1 u 157 (A9 0#256):=by
          have:=d.blk 0 rfl;rwa [AH (by simp[Au])]at this
         refine lN (cs:=A9 0#256) (agD _) (Cj g) ?_;exact⟨d.old,by unfold DR;rw[l];rfl⟩
        ·have V:decide ((s:Int)<(lo:Int))=false:=V_;simp only[D_ a3]at f;(conv=>whnf);rw[V];(conv=>whnf);rw[W_ (x:=(lo:Int)) (by omega)];(conv=>whnf);refine A0.mk [20] (fun b:Nat=>[A_ b]) (fun b G=>lo≤b∧b≤s+1∧St H G (rrF u F fun a=>x.getLsbD a|| (decide (lo≤a)&&decide (a<b)))) (fun b _=>s+1-b) ?_ ?_
         ·(conv=>whnf);refine⟨lo,rfl,I_ _,by omega,?_⟩;rw[DX (x:=x) (fun a C=>by
           by_cases h:lo≤a
           ·rw[j_ (show¬a<lo by omega),Ycp,Yco]
           ·rw[j_ h,Yaz,Yco])]
          exact E
         ·rintro b I0 D ⟨J,K,q⟩;(conv=>whnf);rw[W_ (x:=(s:Int)) (by omega)];refine AG.m2 (fun P=>?_) (fun P=>?_)
          ·(conv=>whnf);try (refine An.run ?_)
           refine M' E6 (by omega) (by omega) ?_;refine Bh q 1 ct4 rfl (by rw[DA];omega) rfl fun I2 o=>?_;have N:0+(b:Int).toNat*1=b:=by omega
           rw[N]at o;have w:St H I2 (rrF u F fun a=>x.getLsbD a|| (decide (lo≤a)&&decide (a<b+1))):=by
            have e2:(E9 fun a=>x.getLsbD a|| (decide (lo≤a)&&decide (a<b))).set b (.bool true)=E9 fun a=>x.getLsbD a|| (decide (lo≤a)&&decide (a<b+1)):=by
             rw[FO _ (by omega)];refine Eb fun a C=>?_;by_cases h:a=b
             ·subst h;rw[F_ rfl,n_ (show lo≤a by omega),n_ (show a<a+1 by omega),Ya0,Ycq]
             ·rw[D_ h]
              congr 2
              exact decide_eq_decide.2 (by omega)
            have:=o;unfold rrF at this ⊢;simp only[Ycu,Ycv]at this;rwa [e2]at this
           (conv=>whnf);rw[P_ b (by omega)];exact⟨rfl,b+1,rfl,⟨by omega,by omega,w⟩,by omega⟩
          ·obtain rfl:b=s+1:=by omega
           rw[DX (x:=x ||| AC lo s) (fun a C=>by
            rw[LP,CL _ _ _ C]
            congr 2
            exact decide_eq_decide.2 (by omega))]at q
           (conv=>whnf);exact⟨rfl,(j2,n,x ||| AC lo s),rfl,⟨by simp only;omega,by simp only;omega,f.symm,q⟩,by simp only;omega⟩
 have⟨b1,bm,bn,bv⟩:=Dl az;have d5:decide ((i:Int)+1<(t.size:Int))=true:=e_;have d6:((bt t (i+1):Int)==(94:Int))=W:=by
  rw[Q];by_cases h:bt t (i+1)=94
  ·rw[h];rfl
  ·rw[j_ h];exact beq_eq_false_iff_ne.2 (by omega)
 (conv=>whnf);rw[d5];refine DQ (i:=i+1) Fw rfl bm ?_;rw[←bn];(conv=>whnf);rw[d6];(conv=>whnf);refine An.cut [13] (fun _:Unit=>[A_ ((if W then i+1+1 else i+1:Nat):Int)]) (fun _ G=>St H G (rrP u F 0#256)) ?_ ?_
 ·refine AG.mk (fun Y=>?_) (fun Y=>?_)
  ·have bq:bt t (i+1)=94:=by rw[Y]at Q;exact of_decide_eq_true Q.symm
   (conv=>whnf);rw[W_ (x:=(i:Int)+1+1) (by omega)];exact⟨rfl,(),by rw[Y];rfl,Z⟩
  ·(conv=>whnf);exact⟨rfl,(),by rw[Y];rfl,Z⟩
 ·rintro⟨⟩ G ab L;(conv=>whnf);refine A0.mk [13] (fun y:Nat×Nat×BitVec 256=>[A_ (y.1:Int)]) (fun y G=>MemD H t u F M y G) (fun y _=>t.size-y.1) ?_ ?_
  ·(conv=>whnf);exact⟨((if W then i+1+1 else i+1),t.size+1,0#256),rfl,⟨ay,by simp only;omega,hM.symm,L⟩⟩
  ·rintro⟨j,n,x⟩ J0 ae ⟨hj,ag,B,A⟩;simp only at hj ag B A;obtain⟨n,rfl⟩:∃m,n=m+1:=⟨n-1,by omega⟩;by_cases a1:j<t.size
   case neg=>
    have ah:=C6 a1;have d7:decide ((j:Int)≥(t.size:Int))=true:=e_;have O:B0 t Cl j= .inl j:=by unfold B0;rw[ah,D_ (by decide),F_ (.inr (.inl (by decide)))]
    have f:M= .inl j:=by rw[←B,Dj,D_ (by omega),O]
    rw[f]at l;(conv=>whnf);rw[d7];(conv=>whnf);try (refine An.run ?_)
    refine Ah (EW (i:=j) (inner:=true) ht hj) fun J1 R=>?_;have r:=A.call R;unfold MF;simp only[if_true];rw[O];refine Cz E6 GG Ek (A9 0#256) rfl (AN (cs:=A9 0#256) r 0 (szD _) rfl (by simp[Au]) (onD _) fun Z1 d=>?_);have g:Q_ Z1 u 157 (A9 0#256):=by
     have:=d.blk 0 rfl;rwa [AH (by simp[Au])]at this
    refine lN (cs:=A9 0#256) (agD _) (Cj g) ?_;exact⟨d.old,by unfold DR;rw[l];rfl⟩
   have⟨b5,ai,aj,bj⟩:=Dl a1;have d7:decide ((j:Int)≥(t.size:Int))=false:=V_;(conv=>whnf);rw[d7];refine DQ (i:=j) Fw rfl ai ?_;rw[←aj];by_cases I:bt t j=93
   ·have d8:((bt t j:Int) != (93:Int))=false:=by rw[I];rfl
    have f:M= .inr (x,j+1):=by rw[←B,Dj,F_ I]
    rw[f]at l;(conv=>whnf);rw[d8];(conv=>whnf);(conv=>whnf);try (refine An.run ?_)
    refine AG.mk (fun Y=>?_) (fun Y=>?_)
    ·skip
     (conv=>whnf);try (refine An.run ?_)
     (conv=>whnf);refine A0.mk [21] (fun k:Nat=>[A_ k]) (fun k G=>k≤256∧St H G (rrF u F fun b=>if b<k then !x.getLsbD b else x.getLsbD b)) (fun k _=>256-k) ?_ ?_
     ·(conv=>whnf);exact⟨0,rfl,by omega,by rw[DX (x:=x) (fun b X=>by rw[D_ (by omega)])];exact A⟩
     ·rintro k K0 bo ⟨hk,a4⟩;refine AG.m2 (fun P=>?_) (fun P=>?_)
      ·(conv=>whnf);try (refine An.run ?_)
       refine M' E6 (by omega) (by omega) (G_ (v:=.bool (x.getLsbD k)) ct4 ?_ trivial ?_)
       ·rw[(a4.blk 1 rfl).cell,show 0+(k:Int).toNat*1=k by omega,NY _ (by omega),D_ (by omega)]
       refine M' E6 (by omega) (by omega) ?_;refine Bh a4 1 ct4 rfl (by rw[DA];omega) rfl fun K2 a8=>?_;have N:0+(k:Int).toNat*1=k:=by omega
       rw[N]at a8;have b7:St H K2 (rrF u F fun b=>if b<k+1 then !x.getLsbD b else x.getLsbD b):=by
        have e2:(E9 fun b=>if b<k then !x.getLsbD b else x.getLsbD b).set k (.bool (!x.getLsbD k))=E9 fun b=>if b<k+1 then !x.getLsbD b else x.getLsbD b:=by
         rw[FO _ (by omega)];refine Eb fun b X=>?_;by_cases h:b=k
         ·subst h;rw[F_ rfl,F_ (by omega)]
         ·rw[D_ h];by_cases h2:b<k
          ·rw[F_ h2,F_ (by omega)]
          ·rw[D_ h2,D_ (by omega)]
        have:=a8;unfold rrF at this ⊢;simp only[Ycu,Ycv]at this;rwa [e2]at this
       (conv=>whnf);rw[P_ k (by omega)];exact⟨rfl,k+1,rfl,⟨by omega,b7⟩,by omega⟩
      ·obtain rfl:k=256:=by omega
       rw[DX (x:= ~~~x) (fun b X=>by rw[F_ X,Ww _ _ X])]at a4;refine lN (cs:=A9 (~~~x)) (agD _) (Cj (a4.blk 1 rfl)) ?_;(conv=>whnf);rw[P_ j (by omega)];refine AN (cs:=A9 (~~~x)) a4 0 (szD _) rfl (by simp[Au]) (onD _) fun Z1 d=>?_;have g:Q_ Z1 u 157 (A9 (~~~x)):=by
        have:=d.blk 0 rfl;rwa [AH (by simp[Au])]at this
       refine lN (cs:=A9 (~~~x)) (agD _) (Cj g) ?_;exact⟨d.old,by unfold DR;rw[l,Y];rfl⟩
    ·skip
     (conv=>whnf);try (refine An.run ?_)
     refine lN (cs:=A9 x) (agD _) (Cj (A.blk 1 rfl)) ?_;(conv=>whnf);rw[P_ j (by omega)];refine AN (cs:=A9 x) A 0 (szD _) rfl (by simp[Au]) (onD _) fun Z1 d=>?_;have g:Q_ Z1 u 157 (A9 x):=by
      have:=d.blk 0 rfl;rwa [AH (by simp[Au])]at this
     refine lN (cs:=A9 x) (agD _) (Cj g) ?_;exact⟨d.old,by unfold DR;rw[l,Y];rfl⟩
   have d8:((bt t j:Int) != (93:Int))=true:=by rw[bne_iff_ne];omega
   (conv=>whnf);rw[d8];(conv=>whnf);try (refine An.run ?_)
   refine Ah (EW (i:=j) (inner:=true) ht hj) fun J1 R=>?_;have r:=A.call R;unfold MF;simp only[if_true];cases O:B0 t Cl j with
   | inl e=>
     have f:M= .inl e:=by rw[←B,Dj,D_ I,O]
     rw[f]at l;refine Cz E6 GG Ek (A9 0#256) rfl (AN (cs:=A9 0#256) r 0 (szD _) rfl (by simp[Au]) (onD _) fun Z1 d=>?_);have g:Q_ Z1 u 157 (A9 0#256):=by
      have:=d.blk 0 rfl;rwa [AH (by simp[Au])]at this
     refine lN (cs:=A9 0#256) (agD _) (Cj g) ?_;exact⟨d.old,by unfold DR;rw[l];rfl⟩
   | inr p=>
     have⟨lo,z⟩:=p;have ar:=Dp O;have f:M=Hu t lo z x (Dj t n):=by rw[←B,Dj,D_ I,O]
     unfold Hu at f;by_cases a2:z<t.size
     case neg=>
      have a7:=C6 a2;have d9:decide ((z:Int)<(t.size:Int))=false:=V_;rw[D_ (by omega)]at f;(conv=>whnf);try (refine An.run ?_)
      (conv=>whnf);rw[d9];(conv=>whnf);rw[W_ (x:=(lo:Int)) (by omega)];(conv=>whnf);refine A0.mk [20] (fun b:Nat=>[A_ b]) (fun b G=>lo≤b∧b≤lo+1∧St H G (rrF u F fun a=>x.getLsbD a|| (decide (lo≤a)&&decide (a<b)))) (fun b _=>lo+1-b) ?_ ?_
      ·(conv=>whnf);refine⟨lo,rfl,I_ _,by omega,?_⟩;rw[DX (x:=x) (fun a C=>by
        by_cases h:lo≤a
        ·rw[j_ (show¬a<lo by omega),Ycp,Yco]
        ·rw[j_ h,Yaz,Yco])]
       exact r
      ·rintro b I0 D ⟨J,K,q⟩;(conv=>whnf);rw[W_ (x:=(lo:Int)) (by omega)];refine AG.m2 (fun P=>?_) (fun P=>?_)
       ·(conv=>whnf);try (refine An.run ?_)
        refine M' E6 (by omega) (by omega) ?_;refine Bh q 1 ct4 rfl (by rw[DA];omega) rfl fun I2 o=>?_;have N:0+(b:Int).toNat*1=b:=by omega
        rw[N]at o;have w:St H I2 (rrF u F fun a=>x.getLsbD a|| (decide (lo≤a)&&decide (a<b+1))):=by
         have e2:(E9 fun a=>x.getLsbD a|| (decide (lo≤a)&&decide (a<b))).set b (.bool true)=E9 fun a=>x.getLsbD a|| (decide (lo≤a)&&decide (a<b+1)):=by
          rw[FO _ (by omega)];refine Eb fun a C=>?_;by_cases h:a=b
          ·subst h;rw[F_ rfl,n_ (show lo≤a by omega),n_ (show a<a+1 by omega),Ya0,Ycq]
          ·rw[D_ h]
           congr 2
           exact decide_eq_decide.2 (by omega)
         have:=o;unfold rrF at this ⊢;simp only[Ycu,Ycv]at this;rwa [e2]at this
        (conv=>whnf);rw[P_ b (by omega)];exact⟨rfl,b+1,rfl,⟨by omega,by omega,w⟩,by omega⟩
       ·obtain rfl:b=lo+1:=by omega
        rw[DX (x:=x ||| AC lo lo) (fun a C=>by
         rw[LP,CL _ _ _ C]
         congr 2
         exact decide_eq_decide.2 (by omega))]at q
        (conv=>whnf);exact⟨rfl,(z,n,x ||| AC lo lo),rfl,⟨by simp only;omega,by simp only;omega,f.symm,q⟩,by simp only;omega⟩
     have⟨b8,ak,am,b4⟩:=Dl a2;have d9:decide ((z:Int)<(t.size:Int))=true:=e_;(conv=>whnf);try (refine An.run ?_)
     (conv=>whnf);rw[d9];refine DQ (i:=z) Fw rfl ak ?_;rw[←am];by_cases S:bt t z=45
     case neg=>
      have T:((bt t z:Int)==(45:Int))=false:=beq_eq_false_iff_ne.2 (by omega);rw[D_ S]at f;(conv=>whnf);rw[T];(conv=>whnf);rw[W_ (x:=(lo:Int)) (by omega)];(conv=>whnf);refine A0.mk [20] (fun b:Nat=>[A_ b]) (fun b G=>lo≤b∧b≤lo+1∧St H G (rrF u F fun a=>x.getLsbD a|| (decide (lo≤a)&&decide (a<b)))) (fun b _=>lo+1-b) ?_ ?_
      ·(conv=>whnf);refine⟨lo,rfl,I_ _,by omega,?_⟩;rw[DX (x:=x) (fun a C=>by
        by_cases h:lo≤a
        ·rw[j_ (show¬a<lo by omega),Ycp,Yco]
        ·rw[j_ h,Yaz,Yco])]
       exact r
      ·rintro b I0 D ⟨J,K,q⟩;(conv=>whnf);rw[W_ (x:=(lo:Int)) (by omega)];refine AG.m2 (fun P=>?_) (fun P=>?_)
       ·(conv=>whnf);try (refine An.run ?_)
        refine M' E6 (by omega) (by omega) ?_;refine Bh q 1 ct4 rfl (by rw[DA];omega) rfl fun I2 o=>?_;have N:0+(b:Int).toNat*1=b:=by omega
        rw[N]at o;have w:St H I2 (rrF u F fun a=>x.getLsbD a|| (decide (lo≤a)&&decide (a<b+1))):=by
         have e2:(E9 fun a=>x.getLsbD a|| (decide (lo≤a)&&decide (a<b))).set b (.bool true)=E9 fun a=>x.getLsbD a|| (decide (lo≤a)&&decide (a<b+1)):=by
          rw[FO _ (by omega)];refine Eb fun a C=>?_;by_cases h:a=b
          ·subst h;rw[F_ rfl,n_ (show lo≤a by omega),n_ (show a<a+1 by omega),Ya0,Ycq]
          ·rw[D_ h]
           congr 2
           exact decide_eq_decide.2 (by omega)
         have:=o;unfold rrF at this ⊢;simp only[Ycu,Ycv]at this;rwa [e2]at this
        (conv=>whnf);rw[P_ b (by omega)];exact⟨rfl,b+1,rfl,⟨by omega,by omega,w⟩,by omega⟩
       ·obtain rfl:b=lo+1:=by omega
        rw[DX (x:=x ||| AC lo lo) (fun a C=>by
         rw[LP,CL _ _ _ C]
         congr 2
         exact decide_eq_decide.2 (by omega))]at q
        (conv=>whnf);exact⟨rfl,(z,n,x ||| AC lo lo),rfl,⟨by simp only;omega,by simp only;omega,f.symm,q⟩,by simp only;omega⟩
     have T:((bt t z:Int)==(45:Int))=true:=by rw[S];rfl
     rw[F_ S]at f;(conv=>whnf);rw[T];(conv=>whnf);rw[P_ z (by omega)];refine Ah (EW (i:=z+1) (inner:=true) ht (by omega)) fun J2 ao=>?_;have E:=r.call ao;unfold MF;simp only[if_true];cases U:B0 t Cl (z+1)with
     | inl e=>
       rw[U]at f;rw[f]at l;refine Cz E6 GG Ek (A9 0#256) rfl (AN (cs:=A9 0#256) E 0 (szD _) rfl (by simp[Au]) (onD _) fun Z1 d=>?_);have g:Q_ Z1 u 157 (A9 0#256):=by
        have:=d.blk 0 rfl;rwa [AH (by simp[Au])]at this
       refine lN (cs:=A9 0#256) (agD _) (Cj g) ?_;exact⟨d.old,by unfold DR;rw[l];rfl⟩
     | inr p2=>
       have⟨s,j2⟩:=p2;have b6:=Dp U;rw[U]at f;by_cases a3:s<lo
       ·have V:decide ((s:Int)<(lo:Int))=true:=e_;simp only[F_ a3]at f;rw[f]at l;(conv=>whnf);rw[V];refine Cz E6 GG Ek (A9 0#256) rfl (AN (cs:=A9 0#256) E 0 (szD _) rfl (by simp[Au]) (onD _) fun Z1 d=>?_);have g:Q_ Z1 u 157 (A9 0#256):=by
         have:=d.blk 0 rfl;rwa [AH (by simp[Au])]at this
        refine lN (cs:=A9 0#256) (agD _) (Cj g) ?_;exact⟨d.old,by unfold DR;rw[l];rfl⟩
       ·have V:decide ((s:Int)<(lo:Int))=false:=V_;simp only[D_ a3]at f;(conv=>whnf);rw[V];(conv=>whnf);rw[W_ (x:=(lo:Int)) (by omega)];(conv=>whnf);refine A0.mk [20] (fun b:Nat=>[A_ b]) (fun b G=>lo≤b∧b≤s+1∧St H G (rrF u F fun a=>x.getLsbD a|| (decide (lo≤a)&&decide (a<b)))) (fun b _=>s+1-b) ?_ ?_
        ·(conv=>whnf);refine⟨lo,rfl,I_ _,by omega,?_⟩;rw[DX (x:=x) (fun a C=>by
          by_cases h:lo≤a
          ·rw[j_ (show¬a<lo by omega),Ycp,Yco]
          ·rw[j_ h,Yaz,Yco])]
         exact E
        ·rintro b I0 D ⟨J,K,q⟩;(conv=>whnf);rw[W_ (x:=(s:Int)) (by omega)];refine AG.m2 (fun P=>?_) (fun P=>?_)
         ·(conv=>whnf);try (refine An.run ?_)
          refine M' E6 (by omega) (by omega) ?_;refine Bh q 1 ct4 rfl (by rw[DA];omega) rfl fun I2 o=>?_;have N:0+(b:Int).toNat*1=b:=by omega
          rw[N]at o;have w:St H I2 (rrF u F fun a=>x.getLsbD a|| (decide (lo≤a)&&decide (a<b+1))):=by
           have e2:(E9 fun a=>x.getLsbD a|| (decide (lo≤a)&&decide (a<b))).set b (.bool true)=E9 fun a=>x.getLsbD a|| (decide (lo≤a)&&decide (a<b+1)):=by
            rw[FO _ (by omega)];refine Eb fun a C=>?_;by_cases h:a=b
            ·subst h;rw[F_ rfl,n_ (show lo≤a by omega),n_ (show a<a+1 by omega),Ya0,Ycq]
            ·rw[D_ h]
             congr 2
             exact decide_eq_decide.2 (by omega)
           have:=o;unfold rrF at this ⊢;simp only[Ycu,Ycv]at this;rwa [e2]at this
          (conv=>whnf);rw[P_ b (by omega)];exact⟨rfl,b+1,rfl,⟨by omega,by omega,w⟩,by omega⟩
         ·obtain rfl:b=s+1:=by omega
          rw[DX (x:=x ||| AC lo s) (fun a C=>by
           rw[LP,CL _ _ _ C]
           congr 2
           exact decide_eq_decide.2 (by omega))]at q
          (conv=>whnf);exact⟨rfl,(j2,n,x ||| AC lo s),rfl,⟨by simp only;omega,by simp only;omega,f.symm,q⟩,by simp only;omega⟩
abbrev scL(t:ByteArray)(i:Nat)(ov:v_):List v_:=[.string t,A_ i,ov]
abbrev pSc(s:Nat)(t:ByteArray)(i:Nat)(ov:v_):Pc:=pB 139 s (scL t i ov)
section
variable{H:Aa}{s i:Nat}{t:ByteArray}
theorem Fc{b:v_}(a:Q_ H s 139 (scL t i b)):BM prog 73 #[U_ s] H (.bool (decide (t.size≤i))):=by
 refine Ak.of_vc func73 rfl (call73 _) (Aq.lex rfl (by kernel_rfl) (f_ AK ?_));refine G_ (v:=A_ i) E_ (by rw[a.cell];rfl) trivial ?_;refine f_ MW ?_;refine G_ (v:=.string t) ct9 (by rw[a.cell];rfl) trivial ?_;(conv=>whnf);refine⟨?_,C_.refl _ _⟩
 congr 1
 rw[decide_eq_decide];omega
theorem DC{c:v_}(a:Q_ H s 139 (scL t i c))(d:i<t.size):BM prog 129 #[U_ s] H (.int .u8 (bt t i:Int)):=by
 refine Ak.of_vc func129 rfl (call129 _) (Aq.lex rfl (by kernel_rfl) (f_ AK ?_));refine G_ (v:=A_ i) E_ (by rw[a.cell];rfl) trivial ?_;refine f_ MW ?_;refine G_ (v:=.string t) ct9 (by rw[a.cell];rfl) trivial ?_;have⟨b,e,f,h⟩:=Dl d;have g:decide ((i:Int)<(t.size:Int))=true:=e_;(conv=>whnf);rw[g];refine Aq.lex rfl (by kernel_rfl) (f_ MW ?_);refine G_ (v:=.string t) ct9 (by rw[a.cell];rfl) trivial ?_;refine f_ AK ?_;refine G_ (v:=A_ i) E_ (by rw[a.cell];rfl) trivial ?_;refine DQ Fw rfl e ?_;(conv=>whnf);refine⟨?_,C_.refl _ _⟩;rw[f]
end
theorem Df{H:Aa}{s c e:Nat}:Ca prog 74 #[U_ s,A_ c,A_ e] H (fun _ _=>False) (fun x H'=>x=En c e∧H'=H):=by
 refine Ca.of_vc func74 rfl (call74 _) (Ax underlying68 rfl _ rfl [A_ c,A_ e,.string ⟨#[]⟩] rfl ?_);(conv=>whnf);exact⟨rfl,rfl⟩
theorem RK{B:Nat→Prop}{H:Aa}{ps:List Pc}{k s i:Nat}{t:ByteArray}{q:v_}(S:t.size≤1152921504606846976)(T:i≤t.size)(st:B_ B H H ps)(A:ps[k]?=some (pSc s t i q)):
  Ca prog 231 #[U_ s] H (fun v H'=>DU t i=true∧v= .int .i64 (((BV t 3 i 0).1:Nat):Int)∧B_ B H H' (ps.set k (pSc s t (BV t 3 i 0).2 q)))
   (fun x H'=>DU t i=false∧x=En 20 i∧C_ B H H'):=by
 refine Ca.of_vc func231 rfl (call231 _) (C3.of (Aq.lex rfl (by kernel_rfl) (f_ AK ?_)));refine lT (v:=A_ i) E_ ((st.blk k A).ce rfl) ?_;(conv=>whnf);refine EN.mk [3] (fun x:Nat×Nat=>match x with | (_,v)=>[A_ v]) (fun x G=>match x with | (n,v)=>n≤3∧v<10^n∧BV t 3 i 0=BV t (3-n) (i+n) v∧(n=0∨DU t i=true)∧B_ B H G (ps.set k (pSc s t (i+n) q))) (fun x _=>match x with | (n,_)=>3-n) ?_ ?_
 ·(conv=>whnf);exact⟨(0,0),rfl,by omega,by decide,rfl,.inl rfl,by rw[Nat.add_zero,CB A];exact st⟩
 ·rintro⟨n,v⟩ G N ⟨C,D,O,j,r⟩;have a:(ps.set k (pSc s t (i+n) q))[k]?=some (pSc s t (i+n) q):=Ip A;have out:(n=3∨DU t (i+n)=false)→BV t 3 i 0=(v,i+n):=fun h=>by
   rw[O];rcases h with rfl | h
   ·rfl
   ·cases z:3-n with
    | zero=>rfl
    | succ m=>unfold BV;rw[h];rfl
  refine Aj.of (Ah (Fc (r.blk k a)) fun G1 E=>?_);have st1:=r.call E;by_cases p:i+n<t.size
  ·obtain⟨U,-,-,Q⟩:=Dl p;rw[j_ (show¬t.size≤i+n by omega)];refine f_ AK ?_;refine lT (v:=A_ ((i+n:Nat):Int)) E_ ((st1.blk k a).ce rfl) ?_;(conv=>whnf);rw[W_ (x:=(i:Int)+3) (by omega)];by_cases P:n=3
   ·have F:decide (((i+n:Nat):Int)<(i:Int)+3)=false:=V_;(conv=>whnf);rw[F];refine Bf.run (f_ AK ?_);refine lT (v:=A_ ((i+n:Nat):Int)) E_ ((st1.blk k a).ce rfl) ?_;have l:=out (.inl P);by_cases b:n=0
    ·have d:(((i+n:Nat):Int)==(i:Int))=true:=by rw[b];exact beq_self_eq_true _
     (conv=>whnf);rw[d];refine f_ AK ?_;refine lT (v:=A_ ((i+n:Nat):Int)) E_ ((st1.blk k a).ce rfl) ?_;refine Aj.mk (Df (c:=20) (e:=i+n)) (fun _ _ h=>h.elim) ?_;rintro _ _ ⟨rfl,rfl⟩;subst b
     exact⟨by
       rcases(.inl P:0=3∨DU t (i+0)=false)with h | h
       ·omega
       ·exact h,rfl,st1.old⟩
    ·have d:(((i+n:Nat):Int)==(i:Int))=false:=beq_eq_false_iff_ne.2 (by omega);(conv=>whnf);rw[d];(conv=>whnf);rw[l];exact⟨j.resolve_left b,rfl,st1⟩
   ·have F:decide (((i+n:Nat):Int)<(i:Int)+3)=true:=e_;(conv=>whnf);rw[F];refine Aj.of (Ah (DC (st1.blk k a) p) fun G2 I=>?_);have f:=st1.call I;by_cases J:48≤bt t (i+n)
    ·have R:decide (((bt t (i+n):Nat):Int)≥48)=true:=e_;have o:decide (48≤((bt t (i+n):Nat):Int))=true:=R;(conv=>whnf);rw[o];refine Aj.of (Ah (DC (f.blk k a) p) fun G3 K=>?_);have g:=f.call K;by_cases z:bt t (i+n)≤57
     ·have L:decide (((bt t (i+n):Nat):Int)≤57)=true:=e_;have u:DU t (i+n)=true:=n_ ⟨J,z⟩;(conv=>whnf);rw[L];refine Aj.of (Ah (DC (g.blk k a) p) fun G4 M=>?_);have w:=g.call M;(conv=>whnf);rw[w64 (x:=10*(v:Int)) (by have:v<1000:=Ybu D (Yby (by omega) C);omega) (by have:v<1000:=Ybu D (Yby (by omega) C);omega)];(conv=>whnf);rw[w8 (x:=((bt t (i+n):Nat):Int)-48) (by omega) (by omega)];(conv=>whnf);rw[w64 (x:=((bt t (i+n):Nat):Int)-48) (by omega) (by omega)];(conv=>whnf);rw[w64 (x:=10*(v:Int)+(((bt t (i+n):Nat):Int)-48)) (by omega) (by have:v<1000:=Ybu D (Yby (by omega) C);omega)];refine f_ AK ?_;refine lT (v:=A_ ((i+n:Nat):Int)) E_ ((w.blk k a).ce rfl) ?_;(conv=>whnf);rw[W_ (x:=((i+n:Nat):Int)+1) (by omega)];refine f_ AK (Bh w k E_ a (by simp) rfl fun G5 y=>?_);refine⟨rfl,(n+1,10*v+(bt t (i+n)-48)),?_,⟨by omega,?_,?_,.inr ?_,?_⟩,by show 3-(n+1)<3-n;omega⟩
      ·show [Value.int .i64 (10*(v:Int)+(((bt t (i+n):Nat):Int)-48))]=[A_ ((10*v+(bt t (i+n)-48):Nat):Int)]
       congr 2;omega
      ·rw[YbD];omega
      ·rw[O,show 3-n=(3-(n+1))+1 by omega,BV,u];rfl
      ·rcases j with rfl | j
       ·exact u
       ·exact j
      ·rw[Ycb]at y;exact y
     ·have L:decide (((bt t (i+n):Nat):Int)≤57)=false:=V_;(conv=>whnf);rw[L];refine Bf.run (f_ AK ?_);refine lT (v:=A_ ((i+n:Nat):Int)) E_ ((g.blk k a).ce rfl) ?_;have l:=out (.inr (j_ fun h=>z h.2));by_cases b:n=0
      ·have d:(((i+n:Nat):Int)==(i:Int))=true:=by rw[b];exact beq_self_eq_true _
       (conv=>whnf);rw[d];refine f_ AK ?_;refine lT (v:=A_ ((i+n:Nat):Int)) E_ ((g.blk k a).ce rfl) ?_;refine Aj.mk (Df (c:=20) (e:=i+n)) (fun _ _ h=>h.elim) ?_;rintro _ _ ⟨rfl,rfl⟩;subst b
       exact⟨by
         rcases(.inr (j_ fun h=>z h.2):0=3∨DU t (i+0)=false)with h | h
         ·omega
         ·exact h,rfl,g.old⟩
      ·have d:(((i+n:Nat):Int)==(i:Int))=false:=beq_eq_false_iff_ne.2 (by omega);(conv=>whnf);rw[d];(conv=>whnf);rw[l];exact⟨j.resolve_left b,rfl,g⟩
    ·have o:decide (48≤((bt t (i+n):Nat):Int))=false:=V_;(conv=>whnf);rw[o];refine Bf.run (f_ AK ?_);refine lT (v:=A_ ((i+n:Nat):Int)) E_ ((f.blk k a).ce rfl) ?_;have l:=out (.inr (j_ fun h=>J h.1));by_cases b:n=0
     ·have d:(((i+n:Nat):Int)==(i:Int))=true:=by rw[b];exact beq_self_eq_true _
      (conv=>whnf);rw[d];refine f_ AK ?_;refine lT (v:=A_ ((i+n:Nat):Int)) E_ ((f.blk k a).ce rfl) ?_;refine Aj.mk (Df (c:=20) (e:=i+n)) (fun _ _ h=>h.elim) ?_;rintro _ _ ⟨rfl,rfl⟩;subst b
      exact⟨by
        rcases(.inr (j_ fun h=>J h.1):0=3∨DU t (i+0)=false)with h | h
        ·omega
        ·exact h,rfl,f.old⟩
     ·have d:(((i+n:Nat):Int)==(i:Int))=false:=beq_eq_false_iff_ne.2 (by omega);(conv=>whnf);rw[d];(conv=>whnf);rw[l];exact⟨j.resolve_left b,rfl,f⟩
  ·rw[n_ (show t.size≤i+n by omega)];refine Bf.run (f_ AK ?_);refine lT (v:=A_ ((i+n:Nat):Int)) E_ ((st1.blk k a).ce rfl) ?_;have l:=out (.inr (j_ fun h=>by have:=C6 p;omega));by_cases b:n=0
   ·have d:(((i+n:Nat):Int)==(i:Int))=true:=by rw[b];exact beq_self_eq_true _
    (conv=>whnf);rw[d];refine f_ AK ?_;refine lT (v:=A_ ((i+n:Nat):Int)) E_ ((st1.blk k a).ce rfl) ?_;refine Aj.mk (Df (c:=20) (e:=i+n)) (fun _ _ h=>h.elim) ?_;rintro _ _ ⟨rfl,rfl⟩;subst b
    exact⟨by
      rcases(.inr (j_ fun h=>by have:=C6 p;omega):0=3∨DU t (i+0)=false)with h | h
      ·omega
      ·exact h,rfl,st1.old⟩
   ·have d:(((i+n:Nat):Int)==(i:Int))=false:=beq_eq_false_iff_ne.2 (by omega);(conv=>whnf);rw[d];(conv=>whnf);rw[l];exact⟨j.resolve_left b,rfl,st1⟩
theorem RN{ps l:List Pc}{k:Nat}{p q r:Pc}(a:ps[k]?=some p):(ps.set k q++l).set k r=ps.set k r++l:=by
 rw[lsL (Ip a),Ycb]
theorem GH{ps l:List Pc}{k:Nat}{p q:Pc}(a:ps[k]?=some p):(ps.set k q++l)[k]?=some q:=lgL (Ip a)
structure Yz(B:Nat→Prop)(H:Aa)(ps:List Pc)(k s:Nat)(t:ByteArray)(j:Nat)(ov:v_)(r:ReM)(v:v_)(H':Aa):Prop where
 ex:∃(B':Nat→Prop) (fn:v_),v= .agg (Ab r fn).toArray∧(∀k,B k→B' k)∧C_ B H H'∧B_ B' H' H' (ps.set k (pSc s t j ov))∧CF B' H' fn r
theorem EV{c d:Nat}(h:c≠d):((c:Int)==(d:Int))=false:=beq_eq_false_iff_ne.2 (by omega)
theorem YM{B:Nat→Prop}{H:Aa}{ps:List Pc}{k s i:Nat}{t:ByteArray}{M:v_}{a:ReM}{va:v_}(ht:t.size≤1152921504606846)(hc:bt t i=123)(st:B_ B H H ps)(l:ps[k]?=some (pSc s t i M))(ga:CF B H va a):
  Ca prog 217 #[U_ s,.agg (Ab a va).toArray] H (fun v H'=>∃m n j,Cc t i= .inr (m,n,j)∧Yz B H ps k s t j M (Cf a m n) v H')
   (fun x H'=>∃c p:Nat,Cc t i= .inl (c,p)∧x=En c p∧C_ B H H'):=by
 have hi:i<t.size:=D8 (by omega);obtain⟨g1,I,rfl⟩:=ga.fn;refine Ca.of_vc func217 rfl (call217 _) (Ct (Ab a (.func (.func g1) #[] I)) rfl ?_);intro O H1 a0 a1 a2 a5;have st1:=st.box a0 a1 a2 a5;refine Am (.agg Al.toArray) Al Dq rfl ?_;intro P H2 a6 a7 a9 ab;have C:=st1.box a6 a7 a9 ab;rw[YaN]at C;replace C:B_ B H H2 (ps++[pB 142 O (Ab a (.func (.func g1) #[] I)),pB 142 P Al]):=C;have Q:(ps++[pB 142 O (Ab a (.func (.func g1) #[] I)),pB 142 P Al])[k]?=some (pSc s t i M):=lgL l;refine f_ AK ?_;refine lT (v:=A_ i) E_ ((C.blk k Q).ce rfl) ?_;refine f_ AK ?_;refine lT (v:=A_ i) E_ ((C.blk k Q).ce rfl) ?_;(conv=>whnf);rw[W_ (x:=(i:Int)+1) (by omega)];refine f_ AK (Bh C k E_ Q (by simp) rfl fun H3 E=>?_);rw[lsL l]at E;replace E:B_ B H H3 (ps.set k (pSc s t (i+1) M)++[pB 142 O (Ab a (.func (.func g1) #[] I)),pB 142 P Al]):=E;have a3:=E.old;refine Aj.mk (RK (by omega) (by omega) E.rebase (GH l)) ?_ ?_
 rotate_left
 ·rintro _ H4 ⟨hd,rfl,J⟩;exact⟨20,i+1,by unfold Cc;rw[hd];rfl,rfl,a3.trans J⟩
 rintro _ H4 ⟨hd,rfl,y⟩;have J:=a3.trans y.old;rw[RN l]at y;replace y:=y.rebase;obtain⟨-,-,W⟩:=GT (t:=t) 3 (i+1) 0;replace W:=W (by omega);have hm:=No (t:=t) 3 (i+1) 0;have f:Cc t i=(match upM t (BV t 3 (i+1) 0).1 (BV t 3 (i+1) 0).2 with
  | .inl e=>.inl e
  | .inr (n,j)=>F0 t i (BV t 3 (i+1) 0).1 n j):=by unfold Cc;rw[F_ hd];cases upM t (BV t 3 (i+1) 0).1 (BV t 3 (i+1) 0).2<;>rfl
 generalize BV t 3 (i+1) 0=q at*;have⟨m,j⟩:=q;replace hm:m<1000:=hm;replace W:j≤t.size:=W;replace f:Cc t i=(match upM t m j with
  | .inl e=>.inl e
  | .inr (n,j)=>F0 t i m n j):=f
 replace y:B_ B H4 H4 (ps.set k (pSc s t j M)++[pB 142 O (Ab a (.func (.func g1) #[] I)),pB 142 P Al]):=y;(conv=>whnf);refine Bf.cut [7] (fun x:Int×Nat=>match x with | (n,_)=>[A_ n]) (fun x G=>match x with | (n,e)=>upM t m j= .inr (n,e)∧e≤t.size∧ -1≤n∧n<1000∧C_ B H G∧B_ B G G (ps.set k (pSc s t e M)++[pB 142 O (Ab a (.func (.func g1) #[] I)),pB 142 P Al])) ?_ ?_
 ·refine Aj.of (Ah (Fc (y.blk k (GH l))) fun H5 R=>?_);have r:=y.call R;by_cases X:j<t.size
  ·rw[j_ (show¬t.size≤j by omega)];refine Aj.of (Ah (DC (r.blk k (GH l)) X) fun H6 S=>?_);have u:=r.call S;by_cases N:bt t j=44
   ·have F:(((bt t j:Nat):Int)==44)=true:=by rw[N];rfl
    have D:upM t m j=(if bt t (j+1)=125 then .inr (-1,j+1)else if DU t (j+1)then .inr (((BV t 3 (j+1) 0).1:Int),(BV t 3 (j+1) 0).2)else .inl (20,j+1)):=by unfold upM;rw[F_ N]
    (conv=>whnf);rw[F];refine f_ AK ?_;refine G_ (v:=A_ j) E_ (by rw[(u.blk k (GH l)).cell];rfl) trivial ?_;(conv=>whnf);rw[W_ (x:=(j:Int)+1) (by omega)];refine f_ AK (Bh u k E_ (GH l) (by simp) rfl fun H7 b=>?_);rw[RN l]at b;replace b:B_ B H4 H7 (ps.set k (pSc s t (j+1) M)++[pB 142 O (Ab a (.func (.func g1) #[] I)),pB 142 P Al]):=b;refine Aj.of (Ah (Fc (b.blk k (GH l))) fun H8 ae=>?_);have w:=b.call ae;by_cases h2:j+1<t.size
    ·rw[j_ (show¬t.size≤j+1 by omega)];refine Aj.of (Ah (DC (w.blk k (GH l)) h2) fun H9 T=>?_);have d:=w.call T;by_cases h3:bt t (j+1)=125
     ·have F:(((bt t (j+1):Nat):Int) != 125)=false:=by rw[h3];rfl
      (conv=>whnf);rw[F];(conv=>whnf);exact⟨rfl,(-1,j+1),rfl,by rw[D,F_ h3],by omega,by omega,by omega,J.trans d.old,d.rebase⟩
     ·have F:(((bt t (j+1):Nat):Int) != 125)=true:=bne_iff_ne.2 (by omega);rw[D_ h3]at D;(conv=>whnf);rw[F];refine Aj.mk (RK (by omega) (by omega) d.rebase (GH l)) ?_ ?_
      ·rintro _ H10 ⟨z,rfl,g⟩;rw[F_ z]at D;rw[RN l]at g;obtain⟨-,-,U⟩:=GT (t:=t) 3 (j+1) 0;have ah:=No (t:=t) 3 (j+1) 0;(conv=>whnf);exact⟨rfl,(_,_),rfl,D,U (by omega),by omega,by omega,(J.trans d.old).trans g.old,g.rebase⟩
      ·rintro _ H10 ⟨z,rfl,V⟩;rw[D_ (by rw[z];decide)]at D;exact⟨20,j+1,by rw[f,D],rfl,(J.trans d.old).trans V⟩
    ·rw[n_ (show t.size≤j+1 by omega)];rw[D_ (by rw[C6 h2];omega)]at D;refine Aj.mk (RK (by omega) (by omega) w.rebase (GH l)) ?_ ?_
     ·rintro _ H10 ⟨z,rfl,g⟩;rw[F_ z]at D;rw[RN l]at g;obtain⟨-,-,U⟩:=GT (t:=t) 3 (j+1) 0;have ah:=No (t:=t) 3 (j+1) 0;(conv=>whnf);exact⟨rfl,(_,_),rfl,D,U (by omega),by omega,by omega,(J.trans w.old).trans g.old,g.rebase⟩
     ·rintro _ H10 ⟨z,rfl,V⟩;rw[D_ (by rw[z];decide)]at D;exact⟨20,j+1,by rw[f,D],rfl,(J.trans w.old).trans V⟩
   ·have F:(((bt t j:Nat):Int)==44)=false:=EV N;(conv=>whnf);rw[F];(conv=>whnf);exact⟨rfl,((m:Int),j),rfl,by unfold upM;rw[D_ N],W,by omega,by omega,J.trans u.old,u.rebase⟩
  ·rw[n_ (show t.size≤j by omega)];(conv=>whnf);exact⟨rfl,((m:Int),j),rfl,by unfold upM;rw[D_ (by rw[C6 X];omega)],W,by omega,by omega,J.trans r.old,r.rebase⟩
 ·rintro⟨n,e⟩ G aj ⟨D,he,Y,ak,K,Z⟩;rw[D]at f;replace f:Cc t i=F0 t i m n e:=f;refine Bf.run (Aj.of (Ah (Fc (Z.blk k (GH l))) fun H5 R=>?_));have r:=Z.call R;by_cases X:e<t.size
  ·rw[j_ (show¬t.size≤e by omega)];refine Aj.of (Ah (DC (r.blk k (GH l)) X) fun H6 S=>?_);have u:=r.call S;by_cases N:bt t e=125
   ·have F:(((bt t e:Nat):Int) != 125)=false:=by rw[N];rfl
    have o:F0 t i m n e=(if 255<m∨255<n∨(0≤n∧n<(m:Int))then .inl (22,i)else .inr (m,n,e+1)):=by unfold F0;rw[F_ N]
    (conv=>whnf);rw[F];refine f_ AK ?_;refine G_ (v:=A_ e) E_ (by rw[(u.blk k (GH l)).cell];rfl) trivial ?_;(conv=>whnf);rw[W_ (x:=(e:Int)+1) (by omega)];refine f_ AK (Bh u k E_ (GH l) (by simp) rfl fun H7 b=>?_);rw[RN l]at b;replace b:B_ B G H7 (ps.set k (pSc s t (e+1) M)++[pB 142 O (Ab a (.func (.func g1) #[] I)),pB 142 P Al]):=b;refine Bf.run ?_;(conv=>whnf);by_cases w1:255<m
    ·have e1:decide (255<(m:Int))=true:=e_;(conv=>whnf);rw[e1];rw[F_ (.inl w1)]at o;refine Aj.mk (Df (c:=22) (e:=i)) (fun _ _ h=>h.elim) ?_;rintro _ _ ⟨rfl,rfl⟩;exact⟨22,i,by rw[f,o],rfl,K.trans b.old⟩
    ·have e1:decide (255<(m:Int))=false:=V_;(conv=>whnf);rw[e1];by_cases L:255<n
     ·have e2:decide (255<n)=true:=n_ L;(conv=>whnf);rw[e2];rw[F_ (.inr (.inl L))]at o;refine Aj.mk (Df (c:=22) (e:=i)) (fun _ _ h=>h.elim) ?_;rintro _ _ ⟨rfl,rfl⟩;exact⟨22,i,by rw[f,o],rfl,K.trans b.old⟩
     ·have e2:decide (255<n)=false:=j_ L;(conv=>whnf);rw[e2];by_cases c3:0≤n
      ·have e3:decide (0≤n)=true:=n_ c3;(conv=>whnf);rw[e3];by_cases c4:n<(m:Int)
       ·have e4:decide (n<(m:Int))=true:=n_ c4;(conv=>whnf);rw[e4];rw[F_ (.inr (.inr ⟨c3,c4⟩))]at o;refine Aj.mk (Df (c:=22) (e:=i)) (fun _ _ h=>h.elim) ?_;rintro _ _ ⟨rfl,rfl⟩;exact⟨22,i,by rw[f,o],rfl,K.trans b.old⟩
       ·have e4:decide (n<(m:Int))=false:=j_ c4;(conv=>whnf);rw[e4];rw[D_ (by omega)]at o;refine L_ (cs:=Ab a (.func (.func g1) #[] I)) AX (Av (b.blk _ (Ep _ _))) trivial (Aj.of (Ae.mk (WL b (ga.frame (K.trans b.old) fun k A=>A) (by omega) Y (by omega) (by omega)) ?_));rintro _ H8 ⟨B1,f1,rfl,s1,a8,w,gs⟩;obtain⟨g2,L,rfl⟩:=gs.fn;refine Bw (cs:=Ab (Cf a m n) (.func (.func g2) #[] L)) w _ rfl (M_ _ _ 1) (by simp[Ab,Al]) rfl fun H9 d T ai=>?_;rw[X',C2 rfl]at d;refine lN (cs:=Ab (Cf a m n) (.func (.func g2) #[] L)) AX (Av (d.blk _ (M_ _ _ 1))) ?_;exact⟨m,n,e+1,by rw[f,o],B1,_,rfl,s1,((K.trans b.old).trans (a8.mono fun k A=>b.up A)).trans fun k A=>d.old k (s1 k A),d.lft.rebase,gs.frame d.old fun k A=>A⟩
      ·have e3:decide (0≤n)=false:=j_ c3;(conv=>whnf);rw[e3];rw[D_ (by omega)]at o;refine L_ (cs:=Ab a (.func (.func g1) #[] I)) AX (Av (b.blk _ (Ep _ _))) trivial (Aj.of (Ae.mk (WL b (ga.frame (K.trans b.old) fun k A=>A) (by omega) Y (by omega) (by omega)) ?_));rintro _ H8 ⟨B1,f1,rfl,s1,a8,w,gs⟩;obtain⟨g2,L,rfl⟩:=gs.fn;refine Bw (cs:=Ab (Cf a m n) (.func (.func g2) #[] L)) w _ rfl (M_ _ _ 1) (by simp[Ab,Al]) rfl fun H9 d T ai=>?_;rw[X',C2 rfl]at d;refine lN (cs:=Ab (Cf a m n) (.func (.func g2) #[] L)) AX (Av (d.blk _ (M_ _ _ 1))) ?_;exact⟨m,n,e+1,by rw[f,o],B1,_,rfl,s1,((K.trans b.old).trans (a8.mono fun k A=>b.up A)).trans fun k A=>d.old k (s1 k A),d.lft.rebase,gs.frame d.old fun k A=>A⟩
   ·have F:(((bt t e:Nat):Int) != 125)=true:=bne_iff_ne.2 (by omega);(conv=>whnf);rw[F];refine f_ AK ?_;refine G_ (v:=A_ e) E_ (by rw[(u.blk k (GH l)).cell];rfl) trivial ?_;refine Aj.mk (Df (c:=20) (e:=e)) (fun _ _ h=>h.elim) ?_;rintro _ _ ⟨rfl,rfl⟩;exact⟨20,e,by rw[f];unfold F0;rw[D_ N],rfl,K.trans u.old⟩
  ·rw[n_ (show t.size≤e by omega)];refine f_ AK ?_;refine G_ (v:=A_ e) E_ (by rw[(r.blk k (GH l)).cell];rfl) trivial ?_;refine Aj.mk (Df (c:=20) (e:=e)) (fun _ _ h=>h.elim) ?_;rintro _ _ ⟨rfl,rfl⟩;exact⟨20,e,by rw[f];unfold F0;rw[D_ (by rw[C6 X];omega)],rfl,K.trans r.old⟩
theorem Gq{t:ByteArray}{i m k:Nat}{n:Int}{f:AF}{fs:List AF}{a:ReM}(b:f.factor=some a)(c:FF (bt t i)=true)(d:EL t i= .inr (m,n,k)):
  Cm t ⟨i,f,fs⟩= .inr ⟨k,{f with factor:=some (Cf a m n)},fs⟩:=by
 unfold Cm;show(if FF (bt t i)then _ else _)=_;rw[F_ c,b];show(match EL t i with | .inl e=>_ | .inr (m,n,k)=>_)=_;rw[d]
theorem Mx{t:ByteArray}{i:Nat}{e:Nat×Nat}{f:AF}{fs:List AF}{a:ReM}(b:f.factor=some a)(c:FF (bt t i)=true)(d:EL t i= .inl e):
  Cm t ⟨i,f,fs⟩= .inl e:=by
 unfold Cm;show(if FF (bt t i)then _ else _)=_;rw[F_ c,b];show(match EL t i with | .inl e=>_ | .inr (m,n,k)=>_)=_;rw[d]
theorem Tq{c:Nat}(h:c=42∨c=43∨c=63∨c=123):FF c=true:=by rcases h with rfl | rfl | rfl | rfl<;>rfl
theorem Lk{c:Nat}(a:c≠42)(b:c≠43)(d:c≠63)(e:c≠123):FF c=false:=by
 unfold FF;rw[beq_eq_false_iff_ne.2 a,beq_eq_false_iff_ne.2 b,beq_eq_false_iff_ne.2 d,beq_eq_false_iff_ne.2 e];rfl
structure RepI(B:Nat→Prop)(H:Aa)(ps:List Pc)(k s q1 q2 i:Nat)(t:ByteArray)(ov:v_)(f:AF)(fs:List AF)(j:Nat)(G:Aa):Prop where
 ex:∃(a:ReM) (B':Nat→Prop) (fn:v_),Cb t ⟨i,f,fs⟩=Cb t ⟨j,{f with factor:=some a},fs⟩∧i≤j∧j≤t.size∧(∀k,B k→B' k)∧C_ B H G∧
  B_ B' G G (ps.set k (pSc s t j ov)++[pB 142 q1 (Ab a fn),pB 142 q2 Al])∧CF B' G fn a
theorem XN{B:Nat→Prop}{H:Aa}{ps:List Pc}{k s i:Nat}{t:ByteArray}{I:v_}{a:ReM}{va:v_}{f:AF}{fs:List AF}(ht:t.size≤1152921504606846)(hi:i≤t.size)(hf:f.factor=some a)(st:B_ B H H ps)(D:ps[k]?=some (pSc s t i I))(ga:CF B H va a):
  Ca prog 192 #[U_ s,.agg (Ab a va).toArray] H
   (fun v H'=>∃j r,i≤j∧j≤t.size∧FF (bt t j)=false∧Cb t ⟨i,f,fs⟩=Cb t ⟨j,{f with factor:=some r},fs⟩∧Yz B H ps k s t j I r v H')
   (fun x H'=>∃c p:Nat,Cb t ⟨i,f,fs⟩= .inl (c,(p:Int))∧x=En c p∧C_ B H H'):=by
 obtain⟨g1,c1,rfl⟩:=ga.fn;refine Ca.of_vc func192 rfl (call192 _) (Ct (Ab a (.func (.func g1) #[] c1)) rfl ?_);intro J H1 a9 ab Y Z;have st1:=st.box a9 ab Y Z;refine Am (.agg Al.toArray) Al Dq rfl ?_;intro R H2 ae ah a0 a1;have z:=st1.box ae ah a0 a1;rw[YaN]at z;replace z:B_ B H H2 (ps++[pB 142 J (Ab a (.func (.func g1) #[] c1)),pB 142 R Al]):=z;rw[←CB D]at z;(conv=>whnf);refine EN.mk [] (fun _:Nat=>[]) (fun j G=>RepI B H ps k s J R i t I f fs j G) (fun j _=>t.size-j) ?_ ?_
 ·(conv=>whnf);refine⟨i,rfl,⟨a,B,.func (.func g1) #[] c1,?_,I_ _,hi,fun k b=>b,z.old,z.rebase,ga.frame z.old fun k b=>b⟩⟩;rw[←hf]
 ·rintro j G ao ⟨a',B1,f1,K,a2,hj,q,S,a4,P⟩;obtain⟨u,w,rfl⟩:=P.fn;clear st st1 z ga Y a0 Z a1;have T:(ps.set k (pSc s t j I)++[pB 142 J (Ab a' (.func (.func u) #[] w)),pB 142 R Al])[k]?=some (pSc s t j I):=GH D;refine Aj.of (Ah (Fc (a4.blk k T)) fun G1 ai=>?_);have L:=a4.call ai;by_cases h0:j<t.size
  ·rw[j_ (show¬t.size≤j by omega)];refine Bf.run (Aj.of (Ah (DC (L.blk k T) h0) fun G2 aj=>?_));have g:=L.call aj;have M:∀{m k2:Nat} {n:Int},(bt t j=42∨bt t j=43∨bt t j=63∨bt t j=123)→EL t j= .inr (m,n,k2)→Cb t ⟨i,f,fs⟩=Cb t ⟨k2,{f with factor:=some (Cf a' m n)},fs⟩:=fun hc D=>by
    rw[K];exact Ey (s:=⟨j,{f with factor:=some a'},fs⟩) h0 (Gq rfl (Tq hc) D)
   by_cases N:bt t j=42
   ·have d1:(((bt t j:Nat):Int)==42)=true:=by rw[N];rfl
    (conv=>whnf);rw[d1];refine L_ (cs:=Ab a' (.func (.func u) #[] w)) AX (Av (g.blk _ (Ep _ _))) trivial (Aj.of (Ae.mk (OT g (P.frame g.old fun k b=>b)) ?_));rintro _ G3 ⟨B2,f2,rfl,F,U,y,E⟩;have A:C_ B H G3:=(S.trans fun k b=>g.old k (q k b)).trans (U.mono fun k b=>g.up (q k b));obtain⟨g2,l,rfl⟩:=E.fn;refine Bw (cs:=Ab (.star a') (.func (.func g2) #[] l)) y _ rfl (Ep _ _) (by simp[Ab]) rfl fun G4 d ja js=>?_;rw[Ru]at d;have V:Ai (Ab a' (.func (.func u) #[] w)) 0 (Ab (.star a') (.func (.func g2) #[] l))=Ab (.star a') (.func (.func g2) #[] l):=C2 rfl;replace d:B_ B2 G3 G4 (ps.set k (pSc s t j I)++[pB 142 J (Ai (Ab a' (.func (.func u) #[] w)) 0 (Ab (.star a') (.func (.func g2) #[] l))),pB 142 R Al]):=d;rw[V]at d;refine f_ AK ?_;refine G_ (v:=A_ j) E_ (by rw[(d.blk k (GH D)).cell];rfl) trivial ?_;(conv=>whnf);rw[W_ (x:=(j:Int)+1) (by omega)];refine f_ AK (Bh d k E_ (GH D) (by simp) rfl fun G5 h=>?_);rw[RN D]at h;have C:C_ B G3 G5:=fun k b=>h.old k (F k (q k b));exact⟨rfl,j+1,rfl,⟨.star a',B2,.func (.func g2) #[] l,M (m:=0) (n:= -1) (.inl N) (by unfold EL;rw[F_ N]),by omega,by omega,fun k b=>F k (q k b),A.trans C,h.rebase,E.frame h.old fun k b=>b⟩,by omega⟩
   ·have d1:(((bt t j:Nat):Int)==42)=false:=EV N;(conv=>whnf);rw[d1];by_cases Q:bt t j=43
    ·have d2:(((bt t j:Nat):Int)==43)=true:=by rw[Q];rfl
     (conv=>whnf);rw[d2];refine C3.of (Aq.heldZ (H_ G2) [4] (sq [0,1] (.f 2 (.f 3 (.f 4 .e)))) rfl (by kernel_rfl) (L_ (cs:=Ab a' (.func (.func u) #[] w)) AX (Av (g.blk _ (Ep _ _))) ((g.in_ _ (Ep _ _) (k:=J) rfl).2) (L_ (cs:=Ab a' (.func (.func u) #[] w)) AX (Av (g.blk _ (Ep _ _))) ((g.in_ _ (Ep _ _) (k:=J) rfl).2) (Ae.mk (OT g (P.frame g.old fun k b=>b)) ?_))));rintro _ G6 ⟨B6,f6,rfl,s6,a6,ak,am⟩;refine⟨a6,?_⟩;refine Ae.mk (F3 .cat ak ((P.frame g.old fun k b=>b).frame (a6.mono fun k b=>g.up b) s6) am) ?_;rintro _ G3 ⟨B7,f7,rfl,s7,a7,y,E⟩;have a5:=a6.trans (a7.mono fun k b=>Ar a6 b);refine⟨a5,?_⟩;have A:C_ B H G3:=(S.trans fun k b=>g.old k (q k b)).trans (a5.mono fun k b=>g.up (q k b));obtain⟨B2,a8⟩:∃B2,B2=B7:=⟨_,rfl⟩;rw[←a8]at y E;have F:∀k,B1 k→B2 k:=fun k b=>by rw[a8];exact s7 k (s6 k b)
     obtain⟨g2,l,rfl⟩:=E.fn;refine Bw (cs:=Ab (opR .cat a' (.star a')) (.func (.func g2) #[] l)) y _ rfl (Ep _ _) (by simp[Ab]) rfl fun G4 d ja js=>?_;rw[Ru]at d;have V:Ai (Ab a' (.func (.func u) #[] w)) 0 (Ab (opR .cat a' (.star a')) (.func (.func g2) #[] l))=Ab (opR .cat a' (.star a')) (.func (.func g2) #[] l):=C2 rfl;replace d:B_ B2 G3 G4 (ps.set k (pSc s t j I)++[pB 142 J (Ai (Ab a' (.func (.func u) #[] w)) 0 (Ab (opR .cat a' (.star a')) (.func (.func g2) #[] l))),pB 142 R Al]):=d;rw[V]at d;refine f_ AK ?_;refine G_ (v:=A_ j) E_ (by rw[(d.blk k (GH D)).cell];rfl) trivial ?_;(conv=>whnf);rw[W_ (x:=(j:Int)+1) (by omega)];refine f_ AK (Bh d k E_ (GH D) (by simp) rfl fun G5 h=>?_);rw[RN D]at h;have C:C_ B G3 G5:=fun k b=>h.old k (F k (q k b));exact⟨rfl,j+1,rfl,⟨opR .cat a' (.star a'),B2,.func (.func g2) #[] l,M (m:=1) (n:= -1) (.inr (.inl Q)) (by unfold EL;rw[D_ N,F_ Q]),by omega,by omega,fun k b=>F k (q k b),A.trans C,h.rebase,E.frame h.old fun k b=>b⟩,by omega⟩
    ·have d2:(((bt t j:Nat):Int)==43)=false:=EV Q;(conv=>whnf);rw[d2];by_cases W:bt t j=63
     ·have d3:(((bt t j:Nat):Int)==63)=true:=by rw[W];rfl
      (conv=>whnf);rw[d3];refine L_ (cs:=Ab a' (.func (.func u) #[] w)) AX (Av (g.blk _ (Ep _ _))) trivial (Aj.of (Ae.mk (Nk g (P.frame g.old fun k b=>b)) ?_));rintro _ G3 ⟨B2,f2,rfl,F,U,y,E⟩;have A:C_ B H G3:=(S.trans fun k b=>g.old k (q k b)).trans (U.mono fun k b=>g.up (q k b));obtain⟨g2,l,rfl⟩:=E.fn;refine Bw (cs:=Ab (Bm a') (.func (.func g2) #[] l)) y _ rfl (Ep _ _) (by simp[Ab]) rfl fun G4 d ja js=>?_;rw[Ru]at d;have V:Ai (Ab a' (.func (.func u) #[] w)) 0 (Ab (Bm a') (.func (.func g2) #[] l))=Ab (Bm a') (.func (.func g2) #[] l):=C2 rfl;replace d:B_ B2 G3 G4 (ps.set k (pSc s t j I)++[pB 142 J (Ai (Ab a' (.func (.func u) #[] w)) 0 (Ab (Bm a') (.func (.func g2) #[] l))),pB 142 R Al]):=d;rw[V]at d;refine f_ AK ?_;refine G_ (v:=A_ j) E_ (by rw[(d.blk k (GH D)).cell];rfl) trivial ?_;(conv=>whnf);rw[W_ (x:=(j:Int)+1) (by omega)];refine f_ AK (Bh d k E_ (GH D) (by simp) rfl fun G5 h=>?_);rw[RN D]at h;have C:C_ B G3 G5:=fun k b=>h.old k (F k (q k b));exact⟨rfl,j+1,rfl,⟨Bm a',B2,.func (.func g2) #[] l,M (m:=0) (n:=1) (.inr (.inr (.inl W))) (by unfold EL;rw[D_ N,D_ Q,F_ W]),by omega,by omega,fun k b=>F k (q k b),A.trans C,h.rebase,E.frame h.old fun k b=>b⟩,by omega⟩
     ·have d3:(((bt t j:Nat):Int)==63)=false:=EV W;(conv=>whnf);rw[d3];by_cases X:bt t j=123
      ·have d4:(((bt t j:Nat):Int)==123)=true:=by rw[X];rfl
       (conv=>whnf);rw[d4];refine L_ (cs:=Ab a' (.func (.func u) #[] w)) AX (Av (g.blk _ (Ep _ _))) trivial (Aj.mk (YM ht X g.rebase T (P.frame g.old fun k b=>b)) ?_ ?_)
       ·rintro _ G3 ⟨m,n,j2,O,⟨B2,f2,rfl,F,U,y,E⟩⟩;have ap:=Km O;rw[RN D]at y;obtain⟨g2,l,rfl⟩:=E.fn;refine Bw (cs:=Ab (Cf a' m n) (.func (.func g2) #[] l)) y _ rfl (Ep _ _) (by simp[Ab]) rfl fun G4 d ja js=>?_;rw[Ru]at d;have V:Ai (Ab a' (.func (.func u) #[] w)) 0 (Ab (Cf a' m n) (.func (.func g2) #[] l))=Ab (Cf a' m n) (.func (.func g2) #[] l):=C2 rfl;replace d:B_ B2 G3 G4 (ps.set k (pSc s t j2 I)++[pB 142 J (Ai (Ab a' (.func (.func u) #[] w)) 0 (Ab (Cf a' m n) (.func (.func g2) #[] l))),pB 142 R Al]):=d;rw[V]at d;(conv=>whnf);have A:C_ B H G3:=(S.trans fun k b=>g.old k (q k b)).trans (U.mono fun k b=>q k b);have C:C_ B G3 G4:=fun k b=>d.old k (F k (q k b));exact⟨rfl,j2,rfl,⟨Cf a' m n,B2,.func (.func g2) #[] l,M (m:=m) (n:=n) (.inr (.inr (.inr X))) (by unfold EL;rw[D_ N,D_ Q,D_ W];exact O),by omega,by omega,fun k b=>F k (q k b),A.trans C,d.rebase,E.frame d.old fun k b=>b⟩,by omega⟩
       ·rintro _ G3 ⟨c,p,O,rfl,U⟩;refine⟨c,p,?_,rfl,(S.trans fun k b=>g.old k (q k b)).trans (U.mono fun k b=>q k b)⟩;rw[K];exact EE (s:=⟨j,{f with factor:=some a'},fs⟩) h0 (Mx rfl (Tq (.inr (.inr (.inr X)))) (by unfold EL;rw[D_ N,D_ Q,D_ W];exact O))
      ·have d4:(((bt t j:Nat):Int)==123)=false:=EV X;(conv=>whnf);rw[d4];refine L_ (cs:=Ab a' (.func (.func u) #[] w)) AX (Av (g.blk _ (Ep _ _))) trivial (Bw (cs:=Ab a' (.func (.func u) #[] w)) g _ rfl (M_ _ _ 1) (by simp[Ab,Al]) rfl fun G9 o ja js=>?_);rw[X',C2 rfl]at o;refine lN (cs:=Ab a' (.func (.func u) #[] w)) AX (Av (o.blk _ (M_ _ _ 1))) ?_;exact⟨j,a',a2,hj,Lk N Q W X,K,B1,_,rfl,q,S.trans fun k b=>o.old k (q k b),o.lft.rebase,P.frame o.old fun k b=>b⟩
  ·rw[n_ (show t.size≤j by omega)];refine L_ (cs:=Ab a' (.func (.func u) #[] w)) AX (Av (L.blk _ (Ep _ _))) trivial (Bw (cs:=Ab a' (.func (.func u) #[] w)) L _ rfl (M_ _ _ 1) (by simp[Ab,Al]) rfl fun G9 o ja js=>?_);rw[X',C2 rfl]at o;refine lN (cs:=Ab a' (.func (.func u) #[] w)) AX (Av (o.blk _ (M_ _ _ 1))) ?_;exact⟨j,a',a2,hj,by rw[C6 h0];rfl,K,B1,_,rfl,q,S.trans fun k b=>o.old k (q k b),o.lft.rebase,P.frame o.old fun k b=>b⟩
theorem vbt{a:IntKind}{i:Nat}{t:ByteArray}{S:Nat→Prop}{H:Aa}{K:v_→Prop}(c:i<t.size)(k:K (.int .u8 (bt t i:Int))):AJ prog (Instr.index 9 (.string t) (.int a (i:Int))) S H K:=by
 have⟨b,d,e,f⟩:=Dl c;refine DQ Fw rfl d ?_;rw[←e];exact k
theorem XI(c:Nat)(H:Aa):BM prog 76 #[.int .u8 (c:Int)] H (.bool (FF c)):=by
 refine Ak.of_vc func76 rfl (call76 _) ?_;(conv=>whnf);by_cases b:c=42
 ·have d:((c:Int)==42)=true:=by rw[b];rfl
  (conv=>whnf);rw[d];(conv=>whnf);refine⟨?_,C_.refl _ _⟩;rw[b];rfl
 ·have d:((c:Int)==42)=false:=EV b;(conv=>whnf);rw[d];clear d;by_cases e:c=43
  ·have d:((c:Int)==43)=true:=by rw[e];rfl
   (conv=>whnf);rw[d];(conv=>whnf);refine⟨?_,C_.refl _ _⟩;rw[e];rfl
  ·have d:((c:Int)==43)=false:=EV e;(conv=>whnf);rw[d];clear d;by_cases f:c=63
   ·have d:((c:Int)==63)=true:=by rw[f];rfl
    (conv=>whnf);rw[d];(conv=>whnf);refine⟨?_,C_.refl _ _⟩;rw[f];rfl
   ·have d:((c:Int)==63)=false:=EV f;(conv=>whnf);rw[d];clear d;by_cases a:c=123
    ·have d:((c:Int)==123)=true:=by rw[a];rfl
     (conv=>whnf);rw[d];(conv=>whnf);refine⟨?_,C_.refl _ _⟩;rw[a];rfl
    ·have d:((c:Int)==123)=false:=EV a;(conv=>whnf);rw[d];clear d;(conv=>whnf);refine⟨?_,C_.refl _ _⟩;rw[Lk b e f a]
theorem MU{i:Nat}{t:ByteArray}(H:Aa):BM prog 132 #[.string t,A_ i] H (.bool (DU t i)):=by
 refine Ak.of_vc func132 rfl (call132 _) ?_;by_cases a:i<t.size
 ·have b:decide ((i:Int)<(t.size:Int))=true:=e_;(conv=>whnf);rw[b];refine vbt a ?_;by_cases d:48≤bt t i
  ·have c:decide (48≤((bt t i:Nat):Int))=true:=e_;(conv=>whnf);rw[c];refine vbt a ?_;(conv=>whnf);refine⟨?_,C_.refl _ _⟩
   congr 1
   unfold DU;rw[decide_eq_decide];omega
  ·have c:decide (48≤((bt t i:Nat):Int))=false:=V_;(conv=>whnf);rw[c];(conv=>whnf);refine⟨?_,C_.refl _ _⟩
   congr 1
   exact(j_ fun h=>d h.1).symm
 ·have b:decide ((i:Int)<(t.size:Int))=false:=V_;(conv=>whnf);rw[b];(conv=>whnf);refine⟨?_,C_.refl _ _⟩
  congr 1
  exact(j_ fun h=>by have:=C6 a;omega).symm
def frZ:List v_:=[A_ 0,A_ 0,A_ 0,.int .u8 0,A_ 0,A_ 0]
theorem fr_z:(prog.info? 150).bind (·.zero)=some (.agg frZ.toArray):=by kernel_rfl
def frO(p:Int):List v_:=[A_ p,A_ (-1),A_ (-1),.int .u8 0,A_ (-1),A_ (-1)]
theorem ZW(p:Int)(H:Aa):Ak prog 75 #[A_ p] H fun v H'=>v= .agg (frO p).toArray∧C_ (H_ H) H H':=by
 refine Ak.of_vc func75 rfl (call75 _) (Am (.agg frZ.toArray) frZ fr_z rfl ?_);intro q H1 f g b c;refine Ax underlying150 rfl (.agg frZ.toArray) fr_z (frO p) rfl (VC.stN (cs:=frO p) rfl b (I_ _) rfl ?_);intro H2 a d h;rw[AH (show(frO p).length=frZ.length from rfl)]at a;refine L_ (cs:=frO p) Ai4 (a.cells fun j v i=>by rw[K_];exact i) trivial ?_;exact⟨rfl,(c.mono fun k e=>by have:k<H.size:=e;have:q=H.size:=f;omega).trans (d.mono fun k e=>by have:k<H.size:=e;have:q=H.size:=f;omega)⟩
def BrD(t:ByteArray)(i:Nat)(v:v_):Prop:=match Cc t i with
 | .inl (c,p)=>v= .tuple #[A_ 0,A_ 0,A_ 0,A_ c,A_ p]
 | .inr (m,n,j)=>v= .tuple #[A_ m,A_ n,A_ j,A_ 0,A_ 0]
abbrev pA2(q:Nat)(x y:Int):Pc:=pB 129 q [A_ x,A_ y]
theorem a2_z:(prog.info? 129).bind (·.zero)=some (.agg #[A_ 0,A_ 0]):=by kernel_rfl
theorem Wy{t:ByteArray}{e w:Nat}(h:DU t e=false):∀k,BV t k e w=(w,e)
 | 0=>rfl
 | k+1=>by unfold BV;rw[h];rfl
structure BrI(t:ByteArray)(i k e:Nat)(x0 x1:Int):Prop where
 le:e≤t.size
 z:k=0→e=i+1∧x0=0∧x1=0
 one:k=1→DU t (i+1)=true∧x0=((BV t 3 (i+1) 0).1:Int)∧x1=0∧e=(BV t 3 (i+1) 0).2+1∧bt t (BV t 3 (i+1) 0).2=44∧bt t e≠125
 two:k=2→DU t (i+1)=true∧x0=((BV t 3 (i+1) 0).1:Int)∧x1= -1∧upM t (BV t 3 (i+1) 0).1 (BV t 3 (i+1) 0).2= .inr (-1,e)
 le2:k≤2
section
variable{t:ByteArray}{i:Nat}
theorem AiB(a:DU t (i+1)=true){n:Int}{e:Nat}(b:upM t (BV t 3 (i+1) 0).1 (BV t 3 (i+1) 0).2= .inr (n,e)):Cc t i=F0 t i (BV t 3 (i+1) 0).1 n e:=by
 unfold Cc;rw[F_ a,b]
theorem AiC(a:DU t (i+1)=false):Cc t i= .inl (20,i+1):=by
 unfold Cc;rw[a];rfl
theorem Xi{H:Aa}(ht:t.size≤1048576)(hi:i<t.size):
  Ak prog 77 #[.string t,A_ i] H fun v H'=>C_ (H_ H) H H'∧BrD t i v:=by
 refine Ak.of_vcL func77 rfl (call77 _) ?_;(conv=>whnf);rw[P_ i (by omega)];refine Am (.agg #[A_ 0,A_ 0]) [A_ 0,A_ 0] a2_z rfl ?_;intro q H1 a1 a2 a3 a4;have st1:=(St.nil H).box a1 a2 a3 a4;(conv=>whnf);refine An.cut [11,9] (fun x:Nat×Nat×Int×Int=>match x with | (k,e,_,_)=>[A_ k,A_ e]) (fun x G=>match x with | (k,e,g,w)=>((k=1∨k=2)∧e≤t.size∧DU t (i+1)=true∧g=((BV t 3 (i+1) 0).1:Int)∧(∃n:Int,upM t (BV t 3 (i+1) 0).1 (BV t 3 (i+1) 0).2= .inr (n,e)∧ -1≤n∧n<1000∧(k=1→n=g)∧(k=2→n=w)))∧St H G [pA2 q g w]) ?_ ?_
 ·(conv=>whnf);refine A0.mk [11,9] (fun x:Nat×Nat×Int×Int=>match x with | (k,e,_,_)=>[A_ k,A_ e]) (fun x G=>match x with | (k,e,g,w)=>BrI t i k e g w∧St H G [pA2 q g w]) (fun x _=>match x with | (k,_,_,_)=>2-k) ?_ ?_
  ·(conv=>whnf);exact⟨(0,i+1,0,0),rfl,⟨hi,fun _=>⟨rfl,rfl,rfl⟩,fun h=>absurd h (by decide),fun h=>absurd h (by decide),by omega⟩,st1⟩
  ·rintro⟨k,e,g,w⟩ G a0 ⟨P,d⟩;have Q:=P.le;refine AG.m2 (fun hz=>?_) (fun hz=>?_)
   ·have ab:k<2:=by omega
    rcases(show k=0∨k=1 by omega)with rfl | rfl
    ·(conv=>whnf);try (refine An.run ?_)
     obtain⟨rfl,rfl,rfl⟩:=P.z rfl;refine Ah (MU (i:=(i+1)) G) fun G1 R=>?_;have J:=d.call R;cases O:DU t (i+1)with
     | false=>
       (conv=>whnf);refine⟨J.old,?_⟩;unfold BrD;rw[AiC O];rfl
     | true=>
       (conv=>whnf);have s:=O;(conv=>whnf);refine A0.mk [12,9] (fun x:Nat×Nat=>match x with | (a,_)=>[A_ a,A_ (((i+1)+a:Nat):Int)]) (fun x G=>match x with | (a,v)=>a≤3∧v<10^a∧(i+1)+a≤t.size∧BV t 3 (i+1) 0=BV t (3-a) ((i+1)+a) v∧St H G [pA2 q (v:Int) 0]) (fun x _=>match x with | (a,_)=>3-a) ?_ ?_
       ·(conv=>whnf);exact⟨(0,0),rfl,by omega,by decide,Q,rfl,J⟩
       ·rintro⟨a,v⟩ G2 S ⟨T,hv,B,K,j⟩;have a5:v<1000:=Ybu hv (Yby (by omega) T);have y:(a=3∨DU t ((i+1)+a)=false)→BV t 3 (i+1) 0=(v,(i+1)+a):=fun h=>by
         rw[K];rcases h with rfl | h
         ·rfl
         ·exact Wy h _
        clear P;by_cases a6:a<3
        ·have C:decide ((a:Int)<3)=true:=e_;(conv=>whnf);rw[C];refine Ah (MU (i:=(i+1)+a) G2) fun G3 U=>?_;replace j:=j.call U;cases u:DU t ((i+1)+a)with
         | true=>
           have V:(i+1)+a<t.size:=by
            unfold DU at u;have:=of_decide_eq_true u;exact D8 (by omega)
           have a7:48≤bt t ((i+1)+a)∧bt t ((i+1)+a)≤57:=by unfold DU at u;exact of_decide_eq_true u
           (conv=>whnf);try (refine An.run ?_)
           refine Aq.heldZ (fun k=>k=q) [12] (sq [0,1,2,3,4,5,6,7,8,9,10,11] (.f 12 .e)) rfl (by kernel_rfl) (M' Dk (by decide) (by decide) ?_);refine G_ (v:=A_ v) E_ ((j.blk 0 rfl).ce rfl) rfl ?_;(conv=>whnf);rw[W_ (x:=10*(v:Int)) (by omega)];refine vbt V ?_;(conv=>whnf);rw[w8 (x:=((bt t ((i+1)+a):Nat):Int)-48) (by omega) (by omega)];(conv=>whnf);rw[w64 (x:=((bt t ((i+1)+a):Nat):Int)-48) (by omega) (by omega)];(conv=>whnf);rw[w64 (x:=10*(v:Int)+(((bt t ((i+1)+a):Nat):Int)-48)) (by omega) (by omega)];refine M' Dk (by decide) (by decide) ?_;refine Bh j 0 E_ rfl (by show _<(2:Nat);decide) rfl fun G5 L=>?_;(conv=>whnf);rw[w64 (x:=(((i+1)+a:Nat):Int)+1) (by omega) (by omega)];(conv=>whnf);rw[P_ a (by omega)];have ev:10*(v:Int)+(((bt t ((i+1)+a):Nat):Int)-48)=((10*v+(bt t ((i+1)+a)-48):Nat):Int):=by omega
           rw[ev]at L;refine⟨rfl,(a+1,10*v+(bt t ((i+1)+a)-48)),rfl,⟨by omega,by rw[YbD];omega,by omega,?_,L⟩,by show 3-(a+1)<3-a;omega⟩;rw[K,show 3-a=(3-(a+1))+1 by omega,BV,u];rfl
         | false=>
           (conv=>whnf);try (refine An.run ?_)
           (conv=>whnf);have D:BV t 3 (i+1) 0=(v,(i+1)+a):=y (.inr u);have c:BV t 3 (i+1) 0=(v,(i+1)+a):=D;by_cases h0:(i+1)+a<t.size
           ·have E:decide ((t.size:Int)≤(((i+1)+a:Nat):Int))=false:=V_;(conv=>whnf);rw[E];refine vbt h0 ?_;by_cases p:bt t ((i+1)+a)=44
            ·have F:(((bt t ((i+1)+a):Nat):Int) != 44)=false:=by rw[p];rfl
             (conv=>whnf);rw[F];(conv=>whnf);rw[w64 (x:=(((i+1)+a:Nat):Int)+1) (by omega) (by omega)];(conv=>whnf);try (refine An.run ?_)
             (conv=>whnf);by_cases W:(i+1)+a+1<t.size
             ·have X:decide ((((i+1)+a:Nat):Int)+1<(t.size:Int))=true:=e_;(conv=>whnf);rw[X];refine vbt (i:=(i+1)+a+1) W ?_;by_cases b:bt t ((i+1)+a+1)=125
              ·have Y:(((bt t ((i+1)+a+1):Nat):Int)==125)=true:=by rw[b];rfl
               (conv=>whnf);rw[Y];refine M' Dk (by decide) (by decide) ?_;refine Bh j 0 E_ rfl (by show _<(2:Nat);decide) rfl fun G7 I=>?_;replace I:St H G7 [pA2 q (v:Int) (-1)]:=I;(conv=>whnf);exact⟨rfl,(2,(i+1)+a+1,(v:Int),-1),rfl,⟨⟨by omega,fun h=>absurd h (by decide),fun h=>absurd h (by decide),fun _=>⟨s,by rw[c],rfl,by rw[c];unfold upM;rw[F_ p,F_ b]⟩,by omega⟩,I⟩,by show 2-2<2-0;omega⟩
              ·have Y:(((bt t ((i+1)+a+1):Nat):Int)==125)=false:=EV b;(conv=>whnf);rw[Y];(conv=>whnf);exact⟨rfl,(1,(i+1)+a+1,(v:Int),0),rfl,⟨⟨by omega,fun h=>absurd h (by decide),fun _=>⟨s,by rw[c],rfl,by rw[c],by rw[c];exact p,b⟩,fun h=>absurd h (by decide),by omega⟩,j⟩,by show 2-1<2-0;omega⟩
             ·have X:decide ((((i+1)+a:Nat):Int)+1<(t.size:Int))=false:=V_;(conv=>whnf);rw[X];(conv=>whnf);exact⟨rfl,(1,(i+1)+a+1,(v:Int),0),rfl,⟨⟨by omega,fun h=>absurd h (by decide),fun _=>⟨s,by rw[c],rfl,by rw[c],by rw[c];exact p,by rw[C6 W];decide⟩,fun h=>absurd h (by decide),by omega⟩,j⟩,by show 2-1<2-0;omega⟩
            ·have F:(((bt t ((i+1)+a):Nat):Int) != 44)=true:=bne_iff_ne.2 (by omega);(conv=>whnf);rw[F];(conv=>whnf);exact⟨rfl,(1,(i+1)+a,(v:Int),0),rfl,⟨⟨.inl rfl,B,(by first | exact s | rfl),by rw[c],(v:Int),by rw[c];unfold upM;rw[D_ p],by omega,by omega,fun _=>rfl,fun h=>absurd h (by decide)⟩,j⟩⟩
           ·have E:decide ((t.size:Int)≤(((i+1)+a:Nat):Int))=true:=e_;(conv=>whnf);rw[E];(conv=>whnf);exact⟨rfl,(1,(i+1)+a,(v:Int),0),rfl,⟨⟨.inl rfl,B,(by first | exact s | rfl),by rw[c],(v:Int),by rw[c];unfold upM;rw[D_ (by rw[C6 h0];omega)],by omega,by omega,fun _=>rfl,fun h=>absurd h (by decide)⟩,j⟩⟩
        ·have C:decide ((a:Int)<3)=false:=V_;(conv=>whnf);rw[C];(conv=>whnf);try (refine An.run ?_)
         (conv=>whnf);have D:BV t 3 (i+1) 0=(v,(i+1)+a):=y (.inl (by omega));have c:BV t 3 (i+1) 0=(v,(i+1)+a):=D;by_cases h0:(i+1)+a<t.size
         ·have E:decide ((t.size:Int)≤(((i+1)+a:Nat):Int))=false:=V_;(conv=>whnf);rw[E];refine vbt h0 ?_;by_cases p:bt t ((i+1)+a)=44
          ·have F:(((bt t ((i+1)+a):Nat):Int) != 44)=false:=by rw[p];rfl
           (conv=>whnf);rw[F];(conv=>whnf);rw[w64 (x:=(((i+1)+a:Nat):Int)+1) (by omega) (by omega)];(conv=>whnf);try (refine An.run ?_)
           (conv=>whnf);by_cases W:(i+1)+a+1<t.size
           ·have X:decide ((((i+1)+a:Nat):Int)+1<(t.size:Int))=true:=e_;(conv=>whnf);rw[X];refine vbt (i:=(i+1)+a+1) W ?_;by_cases b:bt t ((i+1)+a+1)=125
            ·have Y:(((bt t ((i+1)+a+1):Nat):Int)==125)=true:=by rw[b];rfl
             (conv=>whnf);rw[Y];refine M' Dk (by decide) (by decide) ?_;refine Bh j 0 E_ rfl (by show _<(2:Nat);decide) rfl fun G7 I=>?_;replace I:St H G7 [pA2 q (v:Int) (-1)]:=I;(conv=>whnf);exact⟨rfl,(2,(i+1)+a+1,(v:Int),-1),rfl,⟨⟨by omega,fun h=>absurd h (by decide),fun h=>absurd h (by decide),fun _=>⟨s,by rw[c],rfl,by rw[c];unfold upM;rw[F_ p,F_ b]⟩,by omega⟩,I⟩,by show 2-2<2-0;omega⟩
            ·have Y:(((bt t ((i+1)+a+1):Nat):Int)==125)=false:=EV b;(conv=>whnf);rw[Y];(conv=>whnf);exact⟨rfl,(1,(i+1)+a+1,(v:Int),0),rfl,⟨⟨by omega,fun h=>absurd h (by decide),fun _=>⟨s,by rw[c],rfl,by rw[c],by rw[c];exact p,b⟩,fun h=>absurd h (by decide),by omega⟩,j⟩,by show 2-1<2-0;omega⟩
           ·have X:decide ((((i+1)+a:Nat):Int)+1<(t.size:Int))=false:=V_;(conv=>whnf);rw[X];(conv=>whnf);exact⟨rfl,(1,(i+1)+a+1,(v:Int),0),rfl,⟨⟨by omega,fun h=>absurd h (by decide),fun _=>⟨s,by rw[c],rfl,by rw[c],by rw[c];exact p,by rw[C6 W];decide⟩,fun h=>absurd h (by decide),by omega⟩,j⟩,by show 2-1<2-0;omega⟩
          ·have F:(((bt t ((i+1)+a):Nat):Int) != 44)=true:=bne_iff_ne.2 (by omega);(conv=>whnf);rw[F];(conv=>whnf);exact⟨rfl,(1,(i+1)+a,(v:Int),0),rfl,⟨⟨.inl rfl,B,(by first | exact s | rfl),by rw[c],(v:Int),by rw[c];unfold upM;rw[D_ p],by omega,by omega,fun _=>rfl,fun h=>absurd h (by decide)⟩,j⟩⟩
         ·have E:decide ((t.size:Int)≤(((i+1)+a:Nat):Int))=true:=e_;(conv=>whnf);rw[E];(conv=>whnf);exact⟨rfl,(1,(i+1)+a,(v:Int),0),rfl,⟨⟨.inl rfl,B,(by first | exact s | rfl),by rw[c],(v:Int),by rw[c];unfold upM;rw[D_ (by rw[C6 h0];omega)],by omega,by omega,fun _=>rfl,fun h=>absurd h (by decide)⟩,j⟩⟩
    ·(conv=>whnf);try (refine An.run ?_)
     obtain⟨s,A,rfl,Z,p,b⟩:=P.one rfl;refine Ah (MU (i:=e) G) fun G1 R=>?_;have J:=d.call R;cases O:DU t e with
     | false=>
       (conv=>whnf);refine⟨J.old,?_⟩;unfold BrD;have hu:upM t (BV t 3 (i+1) 0).1 (BV t 3 (i+1) 0).2= .inl (20,e):=by
        unfold upM;rw[F_ p,←Z,D_ b,O]<;>rfl
       have hb:Cc t i= .inl (20,e):=by unfold Cc;rw[F_ s,hu]
       rw[hb];rfl
     | true=>
       (conv=>whnf);(conv=>whnf);refine A0.mk [12,9] (fun x:Nat×Nat=>match x with | (a,_)=>[A_ a,A_ ((e+a:Nat):Int)]) (fun x G=>match x with | (a,v)=>a≤3∧v<10^a∧e+a≤t.size∧BV t 3 e 0=BV t (3-a) (e+a) v∧St H G [pA2 q g (v:Int)]) (fun x _=>match x with | (a,_)=>3-a) ?_ ?_
       ·(conv=>whnf);exact⟨(0,0),rfl,by omega,by decide,Q,rfl,J⟩
       ·rintro⟨a,v⟩ G2 S ⟨T,hv,B,K,j⟩;have a5:v<1000:=Ybu hv (Yby (by omega) T);have y:(a=3∨DU t (e+a)=false)→BV t 3 e 0=(v,e+a):=fun h=>by
         rw[K];rcases h with rfl | h
         ·rfl
         ·exact Wy h _
        clear P;by_cases a6:a<3
        ·have C:decide ((a:Int)<3)=true:=e_;(conv=>whnf);rw[C];refine Ah (MU (i:=e+a) G2) fun G3 U=>?_;replace j:=j.call U;cases u:DU t (e+a)with
         | true=>
           have V:e+a<t.size:=by
            unfold DU at u;have:=of_decide_eq_true u;exact D8 (by omega)
           have a7:48≤bt t (e+a)∧bt t (e+a)≤57:=by unfold DU at u;exact of_decide_eq_true u
           (conv=>whnf);try (refine An.run ?_)
           refine Aq.heldZ (fun k=>k=q) [12] (sq [0,1,2,3,4,5,6,7,8,9,10,11] (.f 12 .e)) rfl (by kernel_rfl) (M' Dk (by decide) (by decide) ?_);refine G_ (v:=A_ v) E_ ((j.blk 0 rfl).ce rfl) rfl ?_;(conv=>whnf);rw[W_ (x:=10*(v:Int)) (by omega)];refine vbt V ?_;(conv=>whnf);rw[w8 (x:=((bt t (e+a):Nat):Int)-48) (by omega) (by omega)];(conv=>whnf);rw[w64 (x:=((bt t (e+a):Nat):Int)-48) (by omega) (by omega)];(conv=>whnf);rw[w64 (x:=10*(v:Int)+(((bt t (e+a):Nat):Int)-48)) (by omega) (by omega)];refine M' Dk (by decide) (by decide) ?_;refine Bh j 0 E_ rfl (by show _<(2:Nat);decide) rfl fun G5 L=>?_;(conv=>whnf);rw[W_ (x:=((e+a:Nat):Int)+1) (by omega)];(conv=>whnf);rw[P_ a (by omega)];have ev:10*(v:Int)+(((bt t (e+a):Nat):Int)-48)=((10*v+(bt t (e+a)-48):Nat):Int):=by omega
           rw[ev]at L;refine⟨rfl,(a+1,10*v+(bt t (e+a)-48)),rfl,⟨by omega,by rw[YbD];omega,by omega,?_,L⟩,by show 3-(a+1)<3-a;omega⟩;rw[K,show 3-a=(3-(a+1))+1 by omega,BV,u];rfl
         | false=>
           (conv=>whnf);try (refine An.run ?_)
           (conv=>whnf);have D:BV t 3 e 0=(v,e+a):=y (.inr u);exact⟨rfl,(2,e+a,g,(v:Int)),rfl,⟨⟨.inr rfl,B,s,A,(v:Int),by unfold upM;rw[F_ p,←Z,D_ b,O];show(if true=true then _ else _)=_;rw[F_ rfl,D],by omega,by omega,fun h=>absurd h (by decide),fun _=>rfl⟩,j⟩⟩
        ·have C:decide ((a:Int)<3)=false:=V_;(conv=>whnf);rw[C];(conv=>whnf);try (refine An.run ?_)
         (conv=>whnf);have D:BV t 3 e 0=(v,e+a):=y (.inl (by omega));exact⟨rfl,(2,e+a,g,(v:Int)),rfl,⟨⟨.inr rfl,B,s,A,(v:Int),by unfold upM;rw[F_ p,←Z,D_ b,O];show(if true=true then _ else _)=_;rw[F_ rfl,D],by omega,by omega,fun h=>absurd h (by decide),fun _=>rfl⟩,j⟩⟩
   ·have hk:k=2:=by have:=P.le2;omega
    subst hk;have⟨W,h2,h3,h4⟩:=P.two rfl;(conv=>whnf);exact⟨rfl,(2,e,g,w),rfl,⟨⟨.inr rfl,Q,W,h2,-1,h4,by omega,by omega,fun h=>absurd h (by decide),fun _=>h3.symm⟩,d⟩⟩
 ·rintro⟨k,e,g,w⟩ G a0 ⟨⟨hk,he,O,A,n,hu,ae,ag,a8,a9⟩,d⟩;have r:=AiB O hu;obtain⟨m,hm⟩:∃m,m=(BV t 3 (i+1) 0).1:=⟨_,rfl⟩;rw[←hm]at r A;clear hu hm st1;rcases hk with rfl | rfl
  ·have M:=a8 rfl;refine An.run (M' Dk (by decide) (by decide) ?_);refine lT (v:=A_ (g)) E_ ((d.blk 0 rfl).ce rfl) ?_;refine M' Dk (by decide) (by decide) ?_;refine Bh d 0 E_ rfl (by show _<(2:Nat);decide) rfl fun G2 o=>?_;replace o:St H G2 [pA2 q g g]:=o;(conv=>whnf);try (refine An.run ?_)
   (conv=>whnf);by_cases N:e<t.size
   ·have d1:decide ((t.size:Int)≤(e:Int))=false:=V_;(conv=>whnf);rw[d1];refine vbt N ?_;by_cases b:bt t e=125
    ·have C:(((bt t e:Nat):Int) != 125)=false:=by rw[b];rfl
     have l:F0 t i m n e=(if 255<m∨255<n∨(0≤n∧n<(m:Int))then .inl (22,i)else .inr (m,n,e+1)):=by unfold F0;rw[F_ b]
     (conv=>whnf);rw[C];refine M' Dk (by decide) (by decide) ?_;refine lT (v:=A_ (g)) E_ ((o.blk 0 rfl).ce rfl) ?_;by_cases c1:255<g
     ·have d3:decide (255<g)=true:=n_ c1;(conv=>whnf);rw[d3];(conv=>whnf);refine⟨o.old,?_⟩;unfold BrD;rw[r,l,F_ (.inl (by omega))]<;>rfl
     ·have d3:decide (255<g)=false:=j_ c1;(conv=>whnf);rw[d3];refine M' Dk (by decide) (by decide) ?_;refine lT (v:=A_ (g)) E_ ((o.blk 0 rfl).ce rfl) ?_;by_cases c2:255<n
      ·have d4:decide (255<g)=true:=e_;(conv=>whnf);rw[d4];(conv=>whnf);refine⟨o.old,?_⟩;unfold BrD;rw[r,l,F_ (.inr (.inl c2))]<;>rfl
      ·have d4:decide (255<g)=false:=V_;(conv=>whnf);rw[d4];refine M' Dk (by decide) (by decide) ?_;refine lT (v:=A_ (g)) E_ ((o.blk 0 rfl).ce rfl) ?_;by_cases c3:0≤n
       ·have E:decide (0≤g)=true:=e_;(conv=>whnf);rw[E];refine M' Dk (by decide) (by decide) ?_;refine lT (v:=A_ (g)) E_ ((o.blk 0 rfl).ce rfl) ?_;refine M' Dk (by decide) (by decide) ?_;refine lT (v:=A_ (g)) E_ ((o.blk 0 rfl).ce rfl) ?_;by_cases c4:n<(m:Int)
        ·have F:decide (g<g)=true:=e_;(conv=>whnf);rw[F];(conv=>whnf);refine⟨o.old,?_⟩;unfold BrD;rw[r,l,F_ (.inr (.inr ⟨c3,c4⟩))]<;>rfl
        ·have F:decide (g<g)=false:=V_;(conv=>whnf);rw[F];refine Aq.lex rfl (by kernel_rfl) (M' Dk (by decide) (by decide) ?_);refine lT (v:=A_ (g)) E_ ((o.blk 0 rfl).ce rfl) ?_;refine M' Dk (by decide) (by decide) ?_;refine lT (v:=A_ (g)) E_ ((o.blk 0 rfl).ce rfl) ?_;(conv=>whnf);rw[P_ e (by omega)];(conv=>whnf);refine⟨o.old,?_⟩;unfold BrD;rw[r,l,D_ (by omega),M,A]<;>rfl
       ·have E:decide (0≤g)=false:=V_;(conv=>whnf);rw[E];refine Aq.lex rfl (by kernel_rfl) (M' Dk (by decide) (by decide) ?_);refine lT (v:=A_ (g)) E_ ((o.blk 0 rfl).ce rfl) ?_;refine M' Dk (by decide) (by decide) ?_;refine lT (v:=A_ (g)) E_ ((o.blk 0 rfl).ce rfl) ?_;(conv=>whnf);rw[P_ e (by omega)];(conv=>whnf);refine⟨o.old,?_⟩;unfold BrD;rw[r,l,D_ (by omega),M,A]<;>rfl
    ·have C:(((bt t e:Nat):Int) != 125)=true:=bne_iff_ne.2 (by omega);have l:F0 t i m n e= .inl (20,e):=by unfold F0;rw[D_ b]
     (conv=>whnf);rw[C];(conv=>whnf);refine⟨o.old,?_⟩;unfold BrD;rw[r,l];rfl
   ·have d1:decide ((t.size:Int)≤(e:Int))=true:=e_;have l:F0 t i m n e= .inl (20,e):=by unfold F0;rw[D_ (by rw[C6 N];omega)]
    (conv=>whnf);rw[d1];(conv=>whnf);refine⟨o.old,?_⟩;unfold BrD;rw[r,l];rfl
  ·have M:=a9 rfl;refine An.run ?_;(conv=>whnf);try (refine An.run ?_)
   (conv=>whnf);by_cases N:e<t.size
   ·have d1:decide ((t.size:Int)≤(e:Int))=false:=V_;(conv=>whnf);rw[d1];refine vbt N ?_;by_cases b:bt t e=125
    ·have C:(((bt t e:Nat):Int) != 125)=false:=by rw[b];rfl
     have l:F0 t i m n e=(if 255<m∨255<n∨(0≤n∧n<(m:Int))then .inl (22,i)else .inr (m,n,e+1)):=by unfold F0;rw[F_ b]
     (conv=>whnf);rw[C];refine M' Dk (by decide) (by decide) ?_;refine lT (v:=A_ (g)) E_ ((d.blk 0 rfl).ce rfl) ?_;by_cases c1:255<g
     ·have d3:decide (255<g)=true:=n_ c1;(conv=>whnf);rw[d3];(conv=>whnf);refine⟨d.old,?_⟩;unfold BrD;rw[r,l,F_ (.inl (by omega))]<;>rfl
     ·have d3:decide (255<g)=false:=j_ c1;(conv=>whnf);rw[d3];refine M' Dk (by decide) (by decide) ?_;refine lT (v:=A_ (w)) E_ ((d.blk 0 rfl).ce rfl) ?_;by_cases c2:255<n
      ·have d4:decide (255<w)=true:=e_;(conv=>whnf);rw[d4];(conv=>whnf);refine⟨d.old,?_⟩;unfold BrD;rw[r,l,F_ (.inr (.inl c2))]<;>rfl
      ·have d4:decide (255<w)=false:=V_;(conv=>whnf);rw[d4];refine M' Dk (by decide) (by decide) ?_;refine lT (v:=A_ (w)) E_ ((d.blk 0 rfl).ce rfl) ?_;by_cases c3:0≤n
       ·have E:decide (0≤w)=true:=e_;(conv=>whnf);rw[E];refine M' Dk (by decide) (by decide) ?_;refine lT (v:=A_ (w)) E_ ((d.blk 0 rfl).ce rfl) ?_;refine M' Dk (by decide) (by decide) ?_;refine lT (v:=A_ (g)) E_ ((d.blk 0 rfl).ce rfl) ?_;by_cases c4:n<(m:Int)
        ·have F:decide (w<g)=true:=e_;(conv=>whnf);rw[F];(conv=>whnf);refine⟨d.old,?_⟩;unfold BrD;rw[r,l,F_ (.inr (.inr ⟨c3,c4⟩))]<;>rfl
        ·have F:decide (w<g)=false:=V_;(conv=>whnf);rw[F];refine Aq.lex rfl (by kernel_rfl) (M' Dk (by decide) (by decide) ?_);refine lT (v:=A_ (g)) E_ ((d.blk 0 rfl).ce rfl) ?_;refine M' Dk (by decide) (by decide) ?_;refine lT (v:=A_ (w)) E_ ((d.blk 0 rfl).ce rfl) ?_;(conv=>whnf);rw[P_ e (by omega)];(conv=>whnf);refine⟨d.old,?_⟩;unfold BrD;rw[r,l,D_ (by omega),M,A]<;>rfl
       ·have E:decide (0≤w)=false:=V_;(conv=>whnf);rw[E];refine Aq.lex rfl (by kernel_rfl) (M' Dk (by decide) (by decide) ?_);refine lT (v:=A_ (g)) E_ ((d.blk 0 rfl).ce rfl) ?_;refine M' Dk (by decide) (by decide) ?_;refine lT (v:=A_ (w)) E_ ((d.blk 0 rfl).ce rfl) ?_;(conv=>whnf);rw[P_ e (by omega)];(conv=>whnf);refine⟨d.old,?_⟩;unfold BrD;rw[r,l,D_ (by omega),M,A]<;>rfl
    ·have C:(((bt t e:Nat):Int) != 125)=true:=bne_iff_ne.2 (by omega);have l:F0 t i m n e= .inl (20,e):=by unfold F0;rw[D_ b]
     (conv=>whnf);rw[C];(conv=>whnf);refine⟨d.old,?_⟩;unfold BrD;rw[r,l];rfl
   ·have d1:decide ((t.size:Int)≤(e:Int))=true:=e_;have l:F0 t i m n e= .inl (20,e):=by unfold F0;rw[D_ (by rw[C6 N];omega)]
    (conv=>whnf);rw[d1];(conv=>whnf);refine⟨d.old,?_⟩;unfold BrD;rw[r,l];rfl
end
def FV(c m:Nat)(n:Int):Nat:=
 if n<0 then(if m=0 then c+1 else m*c+m+c+1)else if n=0 then 1 else if m=0 then n.toNat*(c+2)+n.toNat-1 else m*c+m-1+(n.toNat-m)*(c+3)
theorem KF(a:ReM)(m:Nat):∀k,1≤k→((BZ a m k).getD .eps).nodes+1=min k m*(a.nodes+1)+(k-m)*(a.nodes+3)
 | 0,h=>absurd h (by decide)
 | 1,_=>by
   rw[Jq];by_cases b:0<m
   ·rw[F_ b,show min 1 m=1 by omega,show 1-m=0 by omega];simp
   ·rw[D_ b,show min 1 m=0 by omega,show 1-m=1 by omega];show 1+a.nodes+1+1=_;omega
 | k+2,_=>by
   have c:=KF a m (k+1) (by omega);rw[D1 a m (k+1) (by omega)];show 1+_+(if k+1<m then a else Bm a).nodes+1=_;by_cases b:k+1<m
   ·rw[F_ b];rw[show min (k+1) m=k+1 by omega,show k+1-m=0 by omega]at c;rw[show min (k+2) m=k+1+1 by omega,show k+2-m=0 by omega,Nat.add_mul (k+1) 1];omega
   ·rw[D_ b];rw[show min (k+1) m=m by omega]at c;rw[show min (k+2) m=m by omega,show k+2-m=(k+1-m)+1 by omega,Nat.add_mul (k+1-m) 1];show 1+_+(1+a.nodes+1)+1=_;omega
theorem Vc(a:ReM)(m:Nat)(n:Int)(e:0≤n→(m:Int)≤n):(Cf a m n).nodes=FV a.nodes m n:=by
 unfold Cf FV;by_cases c:n<0
 ·rw[F_ c,F_ c];by_cases b:m=0
  ·rw[F_ b,F_ b];show 1+a.nodes=_;omega
  ·rw[D_ b,D_ b];have h:=KF a m m (by omega);rw[Nat.min_self,Nat.sub_self,Nat.zero_mul,Ycy]at h;show 1+((BZ a m m).getD .eps).nodes+(1+a.nodes)=_;omega
 ·rw[D_ c,D_ c];by_cases d:n=0
  ·rw[F_ d,F_ d]<;>rfl
  ·rw[D_ d,D_ d];obtain⟨k,rfl⟩:=YbS (show 0≤n by omega);have f:m≤k:=by have:=e (by omega);omega
   have h:=KF a m k (by omega);rw[U'];rw[show min k m=m by omega]at h;by_cases b:m=0
   ·rw[F_ b];subst b;have g:k*(a.nodes+3)=k*(a.nodes+2)+k:=by rw[show a.nodes+3=a.nodes+2+1 by omega,Ycy (k) (a.nodes+2) 1,L']
    simp only[Nat.zero_mul,K_,Nat.sub_zero]at h;omega
   ·rw[D_ b];rw[Ycy,L']at h;have:1≤m*a.nodes+m:=by omega
    omega
theorem AaD(c m:Nat)(n:Int)(d:0≤n→(m:Int)≤n):min (FV (min c 2001) m n) 2001=min (FV c m n) 2001:=by
 by_cases e:c≤2001
 ·rw[Nat.min_eq_left e]
 ·have f:FV 2001 m n≤FV c m n:=by
   unfold FV;split
   ·split
    ·omega
    ·have:=Ycx m (show 2001≤c by omega);omega
   ·split
    ·omega
    ·split
     ·have:=Ycx n.toNat (show 2001+2≤c+2 by omega);omega
     ·have f:=Ycx m (show 2001≤c by omega);have b:=Ycx (n.toNat-m) (show 2001+3≤c+3 by omega);omega
  have b:n≠0→2001≤FV 2001 m n:=by
   intro a;unfold FV;split
   ·split
    ·omega
    ·have:=Ybw 2001 (show 1≤m by omega);omega
   ·have g:1≤n.toNat:=by omega
    split
    ·have:=Ybw (2001+2) g;omega
    ·have:=Ybw 2001 (show 1≤m by omega);have:=t_ ((n.toNat-m)*(2001+3));omega
  rw[Nat.min_eq_right (show 2001≤c by omega)];by_cases a:n=0
  ·subst a;rfl
  ·have:=b a;omega
theorem AeL(a:ReM)(m:Nat)(n:Int)(b:0≤n→(m:Int)≤n):S_ (Cf a m n)=min (FV (S_ a) m n) 2001:=by
 unfold S_;rw[Vc a m n b,AaD _ _ _ b]
theorem Nu(op:ROp)(a b:ReM):S_ (opR op a b)=min (1+S_ a+S_ b) 2001:=by unfold S_;rw[PX];omega
theorem AeO{c:Nat}{m n:Int}(s:c≤2001)(h:V4 m n)(H:Aa):BM prog 135 #[A_ c,A_ m,A_ n] H (.int .i64 ((FV c (AS m) n:Nat):Int)):=by
 refine Ak.of_vc func135 rfl (call135 _) ?_;by_cases i:m= -2
 ·have t:n= -1:=by rcases h with h | h;exact h.2;omega
  subst i t;(conv=>whnf);refine⟨?_,C_.refl _ _⟩
  congr 1
  rw[P_ c (by omega)];rw[W_ (x:=(c:Int)+1+(c:Int)) (by omega)];rw[W_ (x:=(c:Int)+1+(c:Int)+1) (by omega)];show _=((1*c+1+c+1:Nat):Int);omega
 ·obtain⟨l,u,v,w,b⟩:0≤m∧m≤255∧ -1≤n∧n≤255∧(0≤n→m≤n):=by rcases h with h | h;exact absurd h.1 i;exact h
  obtain⟨k,rfl⟩:=YbS l;have d:AS (k:Int)=k:=by unfold AS;rw[D_ i]<;>rfl
  have y:((k:Int)== -2)=false:=beq_eq_false_iff_ne.2 i;have C:k*c≤255*2001:=YbM (by omega) s;rw[d];unfold FV;(conv=>whnf);try rw[y]
  (conv=>whnf);try (refine An.run ?_)
  (conv=>whnf);by_cases a:n<0
  ·have e:decide (n<0)=true:=n_ a;rw[F_ a];rw[e];by_cases f:k=0
   ·subst f;(conv=>whnf);refine⟨?_,C_.refl _ _⟩
    congr 1
    rw[P_ c (by omega)];rfl
   ·have o:((k:Int)==0)=false:=beq_eq_false_iff_ne.2 (by omega);rw[D_ f];(conv=>whnf);try rw[o]
    (conv=>whnf);try (refine An.run ?_)
    (conv=>whnf);try rw[e]
    (conv=>whnf);refine⟨?_,C_.refl _ _⟩
    congr 1
    have g:(k:Int)*(c:Int)=((k*c:Nat):Int):=(Ycr k c).symm;rw[g];generalize k*c=p at*;rw[W_ (x:=(p:Int)) (by omega)];rw[W_ (x:=(p:Int)+k) (by omega)];rw[W_ (x:=(p:Int)+k-1) (by omega)];rw[W_ (x:=(p:Int)+k-1+1) (by omega)];rw[W_ (x:=(p:Int)+k-1+1+c) (by omega)];rw[W_ (x:=(p:Int)+k-1+1+c+1) (by omega)];omega
  ·have e:decide (n<0)=false:=j_ a;rw[D_ a]
   try rw[e]
   (conv=>whnf);try (refine An.run ?_)
   (conv=>whnf);try rw[e]
   (conv=>whnf);try (refine An.run ?_)
   (conv=>whnf);obtain⟨j,rfl⟩:=YbS (show 0≤n by omega);have D:j*(c+2)≤255*2003:=YbM (by omega) (by omega);have E:(j-k)*(c+3)≤255*2004:=YbM (by omega) (by omega);rw[U'];by_cases z:j=0
   ·subst z;(conv=>whnf);exact⟨by rw[F_ (show((0:Nat):Int)=0 from rfl)]<;>rfl,C_.refl _ _⟩
   ·have o:((j:Int)==0)=false:=beq_eq_false_iff_ne.2 (by omega);rw[D_ (show¬(j:Int)=0 by omega)]
    try rw[o]
    (conv=>whnf);try (refine An.run ?_)
    (conv=>whnf);by_cases f:k=0
    ·subst f;(conv=>whnf);refine⟨?_,C_.refl _ _⟩
     congr 1
     rw[F_ (show(0:Nat)=0 from rfl)];rw[W_ (x:=(c:Int)+2) (by omega)];have g:(j:Int)*((c:Int)+2)=((j*(c+2):Nat):Int):=by rw[Ycr];rfl
     rw[g];have A:1≤j*(c+2):=Nat.le_trans (by omega) (YbM (show 1≤j by omega) (show 2≤c+2 by omega));generalize j*(c+2)=p at*;rw[W_ (x:=(p:Int)) (by omega)];rw[W_ (x:=(p:Int)+j) (by omega)];rw[W_ (x:=(p:Int)+j-1) (by omega)];omega
    ·have B:((k:Int)==0)=false:=beq_eq_false_iff_ne.2 (by omega);rw[D_ f]
     try rw[B]
     (conv=>whnf);refine⟨?_,C_.refl _ _⟩
     congr 1
     rw[W_ (x:=(c:Int)+2) (by omega)];rw[W_ (x:=(c:Int)+2+1) (by omega)];rw[W_ (x:=(j:Int)-(k:Int)) (by omega)];have g:(k:Int)*(c:Int)=((k*c:Nat):Int):=(Ycr k c).symm;have eq:((j:Int)-(k:Int))*((c:Int)+2+1)=(((j-k)*(c+3):Nat):Int):=by
      rw[Ycr,show((j-k:Nat):Int)=(j:Int)-k by have:=b (by omega);omega,show(c:Int)+2+1=((c+3:Nat):Int) by omega]
     rw[g,eq];have q:=b (by omega);generalize k*c=p at*;generalize (j-k)*(c+3)=r at*;rw[W_ (x:=(p:Int)) (by omega)];rw[W_ (x:=(p:Int)+k) (by omega)];rw[W_ (x:=(p:Int)+k-1) (by omega)];rw[W_ (x:=(r:Int)) (by omega)];rw[W_ (x:=(p:Int)+k-1+r) (by omega)];omega
def Es(ps:List Pc)(k r:Nat)(t:ByteArray)(q2 q3 i:Nat)(x:BitVec 256):List Pc:=ps.set k (pRd r t i)++[pB 101 q2 (Ad 0),pB 101 q3 (Ad x)]
section
variable{ps:List Pc}
theorem C9{k r a b i:Nat}{t:ByteArray}{x:BitVec 256}{p:Pc}(c:ps[k]?=some p):(Es ps k r t a b i x)[k]?=some (pRd r t i):=lgL (lgS c)
theorem CA{k r a b i j:Nat}{t:ByteArray}{x:BitVec 256}{p:Pc}(c:ps[k]?=some p):(Es ps k r t a b i x).set k (pRd r t j)=Es ps k r t a b j x:=by
 unfold Es;rw[lsL (lgS c),Ycb]
theorem CX{k r b a i:Nat}{t:ByteArray}{x:BitVec 256}:(Es ps k r t b a i x)[(ps.set k (pRd r t i)).length+1]?=some (pB 101 a (Ad x)):=M_ _ _ 1
theorem LI{k r a b i:Nat}{t:ByteArray}{x:BitVec 256}:(Es ps k r t a b i x)[(ps.set k (pRd r t i)).length+0]?=some (pB 101 a (Ad 0)):=M_ _ _ 0
end
theorem Dm{H:Aa}{b:Nat}{x:BitVec 256}(h:Q_ H b 101 (Ad x)):Be H b 0 (Ad x):=h.cells (fun j v a=>by rw[K_];exact a)
structure MemI(B:Nat→Prop)(H0:Aa)(ps:List Pc)(k r:Nat)(t:ByteArray)(q2 q3:Nat)(M:Sum Nat (BitVec 256×Nat))(y:Nat×Nat×BitVec 256)(G:Aa):Prop where
 le:y.1≤t.size
 fuel:t.size<y.2.1+y.1
 eq:Dj t y.2.1 y.1 y.2.2=M
 st:B_ B H0 G (Es ps k r t q2 q3 y.1 y.2.2)
theorem Vf{B:Nat→Prop}{H0 H:Aa}{ps:List Pc}{k r i:Nat}{t:ByteArray}(hE:EH H0)(S:B 0)(ht:t.size≤1152921504606846976)(st:B_ B H0 H ps)(w:ps[k]?=some (pRd r t i))(hi:i≤t.size):
  Ca prog 241 #[U_ r] H (fun v H'=>∃(x:BitVec 256) (j:Nat),IU t i= .inr (x,j)∧v=Bt x∧B_ B H0 H' (ps.set k (pRd r t j)))
   (fun x H'=>∃e j:Nat,IU t i= .inl e∧x=En 10 e∧B_ B H0 H' (ps.set k (pRd r t j))):=by
 refine Ca.of_vc func241 rfl (call241 _) (Am (Bt 0) (Ad 0) rfl rfl ?_);intro K H2 ag ah a1 ai;have aj:=st.box ag ah a1 ai;refine Am (Bt 0) (Ad 0) rfl rfl ?_;intro J H3 ak am a2 ao;have U:=aj.box ak am a2 ao;rw[YaN]at U;replace U:B_ B H0 H3 (Es ps k r t K J i 0#256):=by
  unfold Es;rw[lset w];exact U
 refine Aj.of (Ah (Jo (U.blk k (C9 w))) fun H4 ap=>?_);have Z:=U.call ap;obtain⟨T,V⟩:∃T:Bool,T=decide (bt t i=94):=⟨_,rfl⟩;have A:IU t i=match Dj t (t.size+1) (if T then i+1 else i) 0#256 with | .inl e=>.inl e | .inr (x,k)=>.inr (if T then ~~~x else x,k):=by
  unfold IU;rw[V];by_cases h:bt t i=94
  ·simp only[h,if_true,decide_true];cases Dj t (t.size+1) (i+1) 0#256<;>rfl
  ·simp only[h,if_false,decide_false,Yaw];cases Dj t (t.size+1) i 0#256<;>rfl
 obtain⟨M,hM⟩:∃M,M=Dj t (t.size+1) (if T then i+1 else i) 0#256:=⟨_,rfl⟩;rw[←hM]at A;have a8:(if T then i+1 else i)≤t.size:=by
  cases hn:T with
  | false=>exact hi
  | true=>
    rw[hn]at V;have au:=of_decide_eq_true V.symm;exact D8 (by omega)
 by_cases h0:bt t i=256
 ·have a9:T=false:=by rw[V,j_];omega
  rw[F_ h0,V_];(conv=>whnf);refine Bf.cut [] (fun _:Unit=>[]) (fun _ G=>B_ B H0 G (Es ps k r t K J (if T then i+1 else i) 0#256)) ?_ ?_
  ·(conv=>whnf);exact⟨rfl,(),rfl,by rw[a9];exact Z⟩
  ·rintro⟨⟩ G a3 a4;(conv=>whnf);refine EN.mk [] (fun _:Nat×Nat×BitVec 256=>[]) (fun y G=>MemI B H0 ps k r t K J M y G) (fun y _=>t.size-y.1) ?_ ?_
   ·(conv=>whnf);exact⟨((if T then i+1 else i),t.size+1,0#256),rfl,⟨a8,by simp only;omega,hM.symm,a4⟩⟩
   ·rintro⟨j,n,x⟩ J0 a5 ⟨hj,a6,E,O⟩;simp only at hj a6 E O;obtain⟨n,rfl⟩:∃m,n=m+1:=⟨n-1,by omega⟩;(conv=>whnf);try (refine Bf.run ?_)
    refine Aj.of (Ah (Jo (O.blk k (C9 w))) fun J1 l=>?_);have C:=O.call l;by_cases D:bt t j=256
    ·rw[F_ D,V_];have d:Dj t (n+1) j x= .inl j:=by
      unfold Dj;rw[D_ (by omega)];have:B0 t Cl j= .inl j:=by unfold B0;rw[D,D_ (by decide),F_ (.inr (.inl (by decide)))]
      rw[this]
     (conv=>whnf);try (refine Bf.run ?_)
     refine Aj.mk (Ig (s:=Cl) hE S ht C (C9 w)) ?_ ?_
     ·rintro _ J2 ⟨lo,q,u,rfl,b⟩;exfalso;have:B0 t Cl j= .inl j:=by unfold B0;rw[D,D_ (by decide),F_ (.inr (.inl (by decide)))]
      rw[this]at u;cases u
     ·rintro _ J2 ⟨e,q,u,rfl,b⟩;rw[CA w]at b;refine⟨e,q,?_,rfl,b.lft⟩;have:B0 t Cl j= .inl j:=by unfold B0;rw[D,D_ (by decide),F_ (.inr (.inl (by decide)))]
      rw[this]at u;cases u;rw[A,←E,d]
    ·have a7:=D8 D;have⟨b1,aq,a1,a2⟩:=Dl a7;rw[D_ D,e_];by_cases L:bt t j=93
     ·have d2:((bt t j:Int)==(93:Int))=true:=by rw[L];rfl
      have d:M= .inr (x,j+1):=by rw[←E];unfold Dj;rw[F_ L]
      (conv=>whnf);try (refine Bf.run ?_)
      (conv=>whnf);rw[d2];refine f_ AI ?_;refine G_ (v:=A_ j) E_ (by rw[(C.blk k (C9 w)).cell];rfl) trivial ?_;(conv=>whnf);rw[W_ (x:=(j:Int)+1) (by omega)];refine f_ AI (Bh C k E_ (C9 w) (by simp) rfl fun J2 b=>?_);replace b:B_ B H0 J2 ((Es ps k r t K J j x).set k (pRd r t (j+1))):=b;rw[CA w]at b;rw[d]at A
      ·refine L_ (cs:=Ad x) AT (Dm (b.blk _ CX)) trivial (AN (cs:=Ad x) b _ rfl LI (I_ _) rfl fun J4 c=>?_);have P:Q_ J4 K 101 (Ad x):=by
        have:=c.blk _ (lgS LI);rwa [AH (by rfl)]at this
       unfold Es at c;rw[X']at c;refine lN (cs:=Ad x) AT (Dm P) ?_;exact⟨x,j+1,by rw[A,a9];rfl,rfl,c.lft⟩
     ·have d2:((bt t j:Int)==(93:Int))=false:=beq_eq_false_iff_ne.2 (by omega);(conv=>whnf);try (refine Bf.run ?_)
      (conv=>whnf);rw[d2];refine Aj.mk (Ig (s:=Cl) hE S ht C (C9 w)) ?_ ?_
      ·rintro _ J2 ⟨lo,q,u,rfl,b⟩;rw[CA w]at b;have ar:=Dp u;have d:Dj t (n+1) j x=Hu t lo q x (Dj t n):=by
        rw[Dj,D_ L,u]
       rw[E]at d;(conv=>whnf);try (refine Bf.run ?_)
       refine Aj.of (Ah (Jo (b.blk k (C9 w))) fun J3 p=>?_);have g:=b.call p;by_cases Q:bt t q=45
       ·have ab:q<t.size:=D8 (by omega);rw[D_ (by omega),e_];unfold Hu at d;rw[F_ Q]at d;have d3:((bt t q:Int)==(45:Int))=true:=by rw[Q];rfl
        (conv=>whnf);try (refine Bf.run ?_)
        (conv=>whnf);rw[d3];refine f_ AI ?_;refine G_ (v:=A_ q) E_ (by rw[(g.blk k (C9 w)).cell];rfl) trivial ?_;(conv=>whnf);rw[W_ (x:=(q:Int)+1) (by omega)];refine f_ AI (Bh g k E_ (C9 w) (by simp) rfl fun J4 c=>?_);replace c:B_ B H0 J4 ((Es ps k r t K J q x).set k (pRd r t (q+1))):=c;rw[CA w]at c;refine f_ AI ?_;refine G_ (v:=A_ ((q+1:Nat):Int)) E_ (by rw[(c.blk k (C9 w)).cell];rfl) trivial ?_;refine Aj.mk (Ig (s:=Cl) hE S ht c (C9 w)) ?_ ?_
        ·rintro _ J5 ⟨z,W,N,rfl,o⟩;rw[CA w]at o;have ae:=Dp N;rw[N]at d;by_cases X:z<lo
         ·have d4:decide ((z:Int)<(lo:Int))=true:=e_;simp only[F_ X]at d;(conv=>whnf);rw[d4];refine Aj.mk D5 (fun _ _ h=>h.elim) ?_;rintro _ _ ⟨rfl,rfl⟩;exact⟨q+1,W,by rw[A,d],rfl,o.lft⟩
         ·have d4:decide ((z:Int)<(lo:Int))=false:=V_;simp only[D_ X]at d;(conv=>whnf);rw[d4];refine C3.held (H_ J5) [5] (sq [0,1,2] (.f 3 (.f 4 (.f 5 .e)))) (Dz _ _) rfl (by kernel_rfl) (L_ (cs:=Ad x) AT (Dm (o.blk _ CX)) ((o.in_ _ CX (k:=J) rfl).2) (Aj.of (Ah (F5 lo z (by omega) (by omega) J5) fun J1 l=>(⟨l,?_⟩))));refine Aj.of (Ah (FY x (AC lo z) J1) fun J2 F=>?_);have p:=l.trans (F.mono fun k Y=>Ar l Y);refine⟨p,?_⟩;have I:=o.call p;refine AN (cs:=Ad (x ||| AC lo z)) I _ rfl CX (I_ _) rfl fun J4 a=>?_;rw[AH (by rfl)]at a;replace a:B_ B H0 J4 (Es ps k r t K J W (x ||| AC lo z)):=by
           unfold Es at a ⊢;rw[X']at a;exact a
          (conv=>whnf);exact⟨rfl,(W,n,x ||| AC lo z),rfl,⟨by simp only;omega,by simp only;omega,d.symm,a⟩,by simp only;omega⟩
        ·rintro _ J5 ⟨e,W,N,rfl,o⟩;rw[CA w]at o;rw[N]at d;exact⟨e,W,by rw[A,d],rfl,o.lft⟩
       ·unfold Hu at d;rw[D_ Q]at d;by_cases R:bt t q=256
        ·rw[F_ R,V_];(conv=>whnf);try (refine Bf.run ?_)
         refine C3.held (H_ J3) [5] (sq [0,1,2] (.f 3 (.f 4 (.f 5 .e)))) (Dz _ _) rfl (by kernel_rfl) (L_ (cs:=Ad x) AT (Dm (g.blk _ CX)) ((g.in_ _ CX (k:=J) rfl).2) (Aj.of (Ah (F5 lo lo (by omega) (by omega) J3) fun J1 l=>(⟨l,?_⟩))));refine Aj.of (Ah (FY x (AC lo lo) J1) fun J2 F=>?_);have p:=l.trans (F.mono fun k Y=>Ar l Y);refine⟨p,?_⟩;have I:=g.call p;refine AN (cs:=Ad (x ||| AC lo lo)) I _ rfl CX (I_ _) rfl fun J4 a=>?_;rw[AH (by rfl)]at a;replace a:B_ B H0 J4 (Es ps k r t K J q (x ||| AC lo lo)):=by
          unfold Es at a ⊢;rw[X']at a;exact a
         (conv=>whnf);exact⟨rfl,(q,n,x ||| AC lo lo),rfl,⟨by simp only;omega,by simp only;omega,d.symm,a⟩,by simp only;omega⟩
        ·have P:=Dl (D8 R);rw[D_ R,e_];have d3:((bt t q:Int)==(45:Int))=false:=beq_eq_false_iff_ne.2 (by omega);(conv=>whnf);try (refine Bf.run ?_)
         (conv=>whnf);rw[d3];refine C3.held (H_ J3) [5] (sq [0,1,2] (.f 3 (.f 4 (.f 5 .e)))) (Dz _ _) rfl (by kernel_rfl) (L_ (cs:=Ad x) AT (Dm (g.blk _ CX)) ((g.in_ _ CX (k:=J) rfl).2) (Aj.of (Ah (F5 lo lo (by omega) (by omega) J3) fun J1 l=>(⟨l,?_⟩))));refine Aj.of (Ah (FY x (AC lo lo) J1) fun J2 F=>?_);have p:=l.trans (F.mono fun k Y=>Ar l Y);refine⟨p,?_⟩;have I:=g.call p;refine AN (cs:=Ad (x ||| AC lo lo)) I _ rfl CX (I_ _) rfl fun J4 a=>?_;rw[AH (by rfl)]at a;replace a:B_ B H0 J4 (Es ps k r t K J q (x ||| AC lo lo)):=by
          unfold Es at a ⊢;rw[X']at a;exact a
         (conv=>whnf);exact⟨rfl,(q,n,x ||| AC lo lo),rfl,⟨by simp only;omega,by simp only;omega,d.symm,a⟩,by simp only;omega⟩
      ·rintro _ J2 ⟨e,q,u,rfl,b⟩;rw[CA w]at b;refine⟨e,q,?_,rfl,b.lft⟩;rw[A,←E];unfold Dj;rw[D_ L,u]
 ·have d1:((bt t i:Int)==(94:Int))=T:=by
   rw[V];by_cases h:bt t i=94
   ·rw[h];rfl
   ·rw[j_ h];exact beq_eq_false_iff_ne.2 (by omega)
  rw[D_ h0,e_];(conv=>whnf);rw[d1];(conv=>whnf);refine Bf.cut [] (fun _:Unit=>[]) (fun _ G=>B_ B H0 G (Es ps k r t K J (if T then i+1 else i) 0#256)) ?_ ?_
  ·refine AG.mk (fun hn=>?_) (fun hn=>?_)
   ·(conv=>whnf);refine f_ AI ?_;refine G_ (v:=A_ i) E_ (by rw[(Z.blk k (C9 w)).cell];rfl) trivial ?_;(conv=>whnf);rw[W_ (x:=(i:Int)+1) (by omega)];refine f_ AI (Bh Z k E_ (C9 w) (by simp) rfl fun H5 a0=>?_);replace a0:B_ B H0 H5 ((Es ps k r t K J i 0#256).set k (pRd r t (i+1))):=a0;rw[CA w]at a0;exact⟨rfl,(),rfl,by rw[hn];exact a0⟩
   ·(conv=>whnf);exact⟨rfl,(),rfl,by rw[hn];exact Z⟩
  ·rintro⟨⟩ G a3 a4;(conv=>whnf);refine EN.mk [] (fun _:Nat×Nat×BitVec 256=>[]) (fun y G=>MemI B H0 ps k r t K J M y G) (fun y _=>t.size-y.1) ?_ ?_
   ·(conv=>whnf);exact⟨((if T then i+1 else i),t.size+1,0#256),rfl,⟨a8,by simp only;omega,hM.symm,a4⟩⟩
   ·rintro⟨j,n,x⟩ J0 a5 ⟨hj,a6,E,O⟩;simp only at hj a6 E O;obtain⟨n,rfl⟩:∃m,n=m+1:=⟨n-1,by omega⟩;(conv=>whnf);try (refine Bf.run ?_)
    refine Aj.of (Ah (Jo (O.blk k (C9 w))) fun J1 l=>?_);have C:=O.call l;by_cases D:bt t j=256
    ·rw[F_ D,V_];have d:Dj t (n+1) j x= .inl j:=by
      unfold Dj;rw[D_ (by omega)];have:B0 t Cl j= .inl j:=by unfold B0;rw[D,D_ (by decide),F_ (.inr (.inl (by decide)))]
      rw[this]
     (conv=>whnf);try (refine Bf.run ?_)
     refine Aj.mk (Ig (s:=Cl) hE S ht C (C9 w)) ?_ ?_
     ·rintro _ J2 ⟨lo,q,u,rfl,b⟩;exfalso;have:B0 t Cl j= .inl j:=by unfold B0;rw[D,D_ (by decide),F_ (.inr (.inl (by decide)))]
      rw[this]at u;cases u
     ·rintro _ J2 ⟨e,q,u,rfl,b⟩;rw[CA w]at b;refine⟨e,q,?_,rfl,b.lft⟩;have:B0 t Cl j= .inl j:=by unfold B0;rw[D,D_ (by decide),F_ (.inr (.inl (by decide)))]
      rw[this]at u;cases u;rw[A,←E,d]
    ·have a7:=D8 D;have⟨b1,aq,a1,a2⟩:=Dl a7;rw[D_ D,e_];by_cases L:bt t j=93
     ·have d2:((bt t j:Int)==(93:Int))=true:=by rw[L];rfl
      have d:M= .inr (x,j+1):=by rw[←E];unfold Dj;rw[F_ L]
      (conv=>whnf);try (refine Bf.run ?_)
      (conv=>whnf);rw[d2];refine f_ AI ?_;refine G_ (v:=A_ j) E_ (by rw[(C.blk k (C9 w)).cell];rfl) trivial ?_;(conv=>whnf);rw[W_ (x:=(j:Int)+1) (by omega)];refine f_ AI (Bh C k E_ (C9 w) (by simp) rfl fun J2 b=>?_);replace b:B_ B H0 J2 ((Es ps k r t K J j x).set k (pRd r t (j+1))):=b;rw[CA w]at b;rw[d]at A;refine AG.mk (fun hn=>?_) (fun hn=>?_)
      ·refine L_ (cs:=Ad x) AT (Dm (b.blk _ CX)) trivial (Aj.of (Ah (Wx x J2) fun J3 p=>?_));have g:=b.call p;refine AN (cs:=Ad (~~~x)) g _ rfl LI (I_ _) rfl fun J4 c=>?_;have P:Q_ J4 K 101 (Ad (~~~x)):=by
        have:=c.blk _ (lgS LI);rwa [AH (by rfl)]at this
       unfold Es at c;rw[X']at c;refine lN (cs:=Ad (~~~x)) AT (Dm P) ?_;exact⟨~~~x,j+1,by rw[A,hn];rfl,rfl,c.lft⟩
      ·refine L_ (cs:=Ad x) AT (Dm (b.blk _ CX)) trivial (AN (cs:=Ad x) b _ rfl LI (I_ _) rfl fun J4 c=>?_);have P:Q_ J4 K 101 (Ad x):=by
        have:=c.blk _ (lgS LI);rwa [AH (by rfl)]at this
       unfold Es at c;rw[X']at c;refine lN (cs:=Ad x) AT (Dm P) ?_;exact⟨x,j+1,by rw[A,hn];rfl,rfl,c.lft⟩
     ·have d2:((bt t j:Int)==(93:Int))=false:=beq_eq_false_iff_ne.2 (by omega);(conv=>whnf);try (refine Bf.run ?_)
      (conv=>whnf);rw[d2];refine Aj.mk (Ig (s:=Cl) hE S ht C (C9 w)) ?_ ?_
      ·rintro _ J2 ⟨lo,q,u,rfl,b⟩;rw[CA w]at b;have ar:=Dp u;have d:Dj t (n+1) j x=Hu t lo q x (Dj t n):=by
        rw[Dj,D_ L,u]
       rw[E]at d;(conv=>whnf);try (refine Bf.run ?_)
       refine Aj.of (Ah (Jo (b.blk k (C9 w))) fun J3 p=>?_);have g:=b.call p;by_cases Q:bt t q=45
       ·have ab:q<t.size:=D8 (by omega);rw[D_ (by omega),e_];unfold Hu at d;rw[F_ Q]at d;have d3:((bt t q:Int)==(45:Int))=true:=by rw[Q];rfl
        (conv=>whnf);try (refine Bf.run ?_)
        (conv=>whnf);rw[d3];refine f_ AI ?_;refine G_ (v:=A_ q) E_ (by rw[(g.blk k (C9 w)).cell];rfl) trivial ?_;(conv=>whnf);rw[W_ (x:=(q:Int)+1) (by omega)];refine f_ AI (Bh g k E_ (C9 w) (by simp) rfl fun J4 c=>?_);replace c:B_ B H0 J4 ((Es ps k r t K J q x).set k (pRd r t (q+1))):=c;rw[CA w]at c;refine f_ AI ?_;refine G_ (v:=A_ ((q+1:Nat):Int)) E_ (by rw[(c.blk k (C9 w)).cell];rfl) trivial ?_;refine Aj.mk (Ig (s:=Cl) hE S ht c (C9 w)) ?_ ?_
        ·rintro _ J5 ⟨z,W,N,rfl,o⟩;rw[CA w]at o;have ae:=Dp N;rw[N]at d;by_cases X:z<lo
         ·have d4:decide ((z:Int)<(lo:Int))=true:=e_;simp only[F_ X]at d;(conv=>whnf);rw[d4];refine Aj.mk D5 (fun _ _ h=>h.elim) ?_;rintro _ _ ⟨rfl,rfl⟩;exact⟨q+1,W,by rw[A,d],rfl,o.lft⟩
         ·have d4:decide ((z:Int)<(lo:Int))=false:=V_;simp only[D_ X]at d;(conv=>whnf);rw[d4];refine C3.held (H_ J5) [5] (sq [0,1,2] (.f 3 (.f 4 (.f 5 .e)))) (Dz _ _) rfl (by kernel_rfl) (L_ (cs:=Ad x) AT (Dm (o.blk _ CX)) ((o.in_ _ CX (k:=J) rfl).2) (Aj.of (Ah (F5 lo z (by omega) (by omega) J5) fun J1 l=>(⟨l,?_⟩))));refine Aj.of (Ah (FY x (AC lo z) J1) fun J2 F=>?_);have p:=l.trans (F.mono fun k Y=>Ar l Y);refine⟨p,?_⟩;have I:=o.call p;refine AN (cs:=Ad (x ||| AC lo z)) I _ rfl CX (I_ _) rfl fun J4 a=>?_;rw[AH (by rfl)]at a;replace a:B_ B H0 J4 (Es ps k r t K J W (x ||| AC lo z)):=by
           unfold Es at a ⊢;rw[X']at a;exact a
          (conv=>whnf);exact⟨rfl,(W,n,x ||| AC lo z),rfl,⟨by simp only;omega,by simp only;omega,d.symm,a⟩,by simp only;omega⟩
        ·rintro _ J5 ⟨e,W,N,rfl,o⟩;rw[CA w]at o;rw[N]at d;exact⟨e,W,by rw[A,d],rfl,o.lft⟩
       ·unfold Hu at d;rw[D_ Q]at d;by_cases R:bt t q=256
        ·rw[F_ R,V_];(conv=>whnf);try (refine Bf.run ?_)
         refine C3.held (H_ J3) [5] (sq [0,1,2] (.f 3 (.f 4 (.f 5 .e)))) (Dz _ _) rfl (by kernel_rfl) (L_ (cs:=Ad x) AT (Dm (g.blk _ CX)) ((g.in_ _ CX (k:=J) rfl).2) (Aj.of (Ah (F5 lo lo (by omega) (by omega) J3) fun J1 l=>(⟨l,?_⟩))));refine Aj.of (Ah (FY x (AC lo lo) J1) fun J2 F=>?_);have p:=l.trans (F.mono fun k Y=>Ar l Y);refine⟨p,?_⟩;have I:=g.call p;refine AN (cs:=Ad (x ||| AC lo lo)) I _ rfl CX (I_ _) rfl fun J4 a=>?_;rw[AH (by rfl)]at a;replace a:B_ B H0 J4 (Es ps k r t K J q (x ||| AC lo lo)):=by
          unfold Es at a ⊢;rw[X']at a;exact a
         (conv=>whnf);exact⟨rfl,(q,n,x ||| AC lo lo),rfl,⟨by simp only;omega,by simp only;omega,d.symm,a⟩,by simp only;omega⟩
        ·have P:=Dl (D8 R);rw[D_ R,e_];have d3:((bt t q:Int)==(45:Int))=false:=beq_eq_false_iff_ne.2 (by omega);(conv=>whnf);try (refine Bf.run ?_)
         (conv=>whnf);rw[d3];refine C3.held (H_ J3) [5] (sq [0,1,2] (.f 3 (.f 4 (.f 5 .e)))) (Dz _ _) rfl (by kernel_rfl) (L_ (cs:=Ad x) AT (Dm (g.blk _ CX)) ((g.in_ _ CX (k:=J) rfl).2) (Aj.of (Ah (F5 lo lo (by omega) (by omega) J3) fun J1 l=>(⟨l,?_⟩))));refine Aj.of (Ah (FY x (AC lo lo) J1) fun J2 F=>?_);have p:=l.trans (F.mono fun k Y=>Ar l Y);refine⟨p,?_⟩;have I:=g.call p;refine AN (cs:=Ad (x ||| AC lo lo)) I _ rfl CX (I_ _) rfl fun J4 a=>?_;rw[AH (by rfl)]at a;replace a:B_ B H0 J4 (Es ps k r t K J q (x ||| AC lo lo)):=by
          unfold Es at a ⊢;rw[X']at a;exact a
         (conv=>whnf);exact⟨rfl,(q,n,x ||| AC lo lo),rfl,⟨by simp only;omega,by simp only;omega,d.symm,a⟩,by simp only;omega⟩
      ·rintro _ J2 ⟨e,q,u,rfl,b⟩;rw[CA w]at b;refine⟨e,q,?_,rfl,b.lft⟩;rw[A,←E];unfold Dj;rw[D_ L,u]
end Go.Proofs.YtfbghcpdinlmcaaGreatDoor
namespace Go.VC
theorem TR{P:w_}{t A:x_}{S:Nat→Prop}{H:Aa}{K:v_→Prop}{v:v_}{d:TypeDesc}(a:P.underlying A=some d)(b:∀c,d≠ .interface c)(k:K v):AJ P (Instr.typeAssert (.iface A v) t A false) S H K:=by
 refine AJ.mk _ (fun w _=>?_) k;unfold Instr.typeAssert;simp only[Sem.run_bind,run_underlying a,Result.andThen_ok];cases d<;>first | (exact absurd rfl (b _)) | simp
end Go.VC
namespace Go.Proofs.YtfbghcpdinlmcaaGreatDoor
open Go.VC Go.Lib
theorem Aj0:ofB 0#256 (R_ ⟨#[10]⟩)=AC 10 10:=by decide+kernel
theorem AgK{B:Nat→Prop}{H0 H:Aa}{ps:List Pc}{k r i:Nat}{t:ByteArray}(O:EH H0)(A:B 0)(P:t.size≤1152921504606846976)(st:B_ B H0 H ps)(Q:ps[k]?=some (pRd r t i))(R:i<t.size):
  Ca prog 234 #[U_ r] H (fun v H'=>∃(x:BitVec 256) (j:Nat),BE t i= .inr (x,j)∧v=Bt x∧B_ B H0 H' (ps.set k (pRd r t j)))
   (fun x H'=>∃e j:Nat,BE t i= .inl e∧x=En 10 e∧B_ B H0 H' (ps.set k (pRd r t j))):=by
 refine Ca.of_vc func234 rfl (call234 _) ?_;have⟨b,F,I,S⟩:=Dl R;refine Am (Bt 0) (Ad 0) rfl rfl ?_;intro n H2 J K C L;have m:=st.box J K C L;have h:(ps++[pB 101 n (Ad 0)])[k]?=some (pRd r t i):=lgL Q;have f:∀(j:Nat),(ps++[pB 101 n (Ad 0)]).set k (pRd r t j)=ps.set k (pRd r t j)++[pB 101 n (Ad 0)]:=fun j=>lsL Q;have z:∀(j:Nat),(ps.set k (pRd r t j)++[pB 101 n (Ad 0)])[(ps.set k (pRd r t j)).length]?=some (pB 101 n (Ad 0)):=fun j=>Ep _ _;have D:=m.blk k h;refine C3.of (Aq.lex rfl (by kernel_rfl) (f_ Rf ?_));refine G_ (v:=.string t) ct9 (by rw[D.cell];rfl) trivial ?_;refine f_ AI ?_;refine G_ (v:=A_ i) E_ (by rw[D.cell];rfl) trivial ?_;refine DQ Fw rfl F ?_;rw[←I];have fin:∀(x:BitVec 256) (j:Nat) (G:Aa),BE t i= .inr (x,j)→B_ B H0 G (ps.set k (pRd r t j)++[pB 101 n (Ad 0)])→True:=fun _ _ _ _ _=>trivial;by_cases p:bt t i=46
 ·have E:((bt t i:Int)==(46:Int))=true:=by rw[p];rfl
  (conv=>whnf);try (refine Bf.run ?_)
  (conv=>whnf);rw[E];refine f_ AI ?_;refine lT (v:=A_ i) E_ ((m.blk k h).ce rfl) ?_;(conv=>whnf);rw[W_ (x:=(i:Int)+1) (by omega)];refine f_ AI (Bh m k E_ h (by simp) rfl fun H4 g=>?_);replace g:B_ B H0 H4 ((ps++[pB 101 n (Ad 0)]).set k (pRd r t (i+1))):=g;rw[f]at g;refine Aj.of (Ah (of_p ⟨#[10]⟩ (by decide) H4) fun H5 M=>?_);have a:=g.call M;rw[Aj0];refine Aj.of (Ah (Wx (AC 10 10) H5) fun H6 u=>?_);have w:=a.call u;refine AN (cs:=Ad (~~~(AC 10 10))) w _ rfl (z _) (I_ _) rfl fun H7 d=>?_;have o:Q_ H7 n 101 (Ad (~~~(AC 10 10))):=by
   have:=d.blk _ (lgS (z _));rwa [AH (by rfl)]at this
  rw[Ru]at d;refine lN (cs:=Ad (~~~(AC 10 10))) AT (Dm o) ?_;exact⟨_,i+1,by unfold BE;rw[F_ p],rfl,d.lft⟩
 have E:((bt t i:Int)==(46:Int))=false:=beq_eq_false_iff_ne.2 (by omega);by_cases y:bt t i=91
 ·have N:((bt t i:Int)==(91:Int))=true:=by rw[y];rfl
  have l:BE t i=IU t (i+1):=by unfold BE;rw[D_ p,F_ y]
  (conv=>whnf);try (refine Bf.run ?_)
  (conv=>whnf);rw[E];(conv=>whnf);rw[N];refine f_ AI ?_;refine lT (v:=A_ i) E_ ((m.blk k h).ce rfl) ?_;(conv=>whnf);rw[W_ (x:=(i:Int)+1) (by omega)];refine f_ AI (Bh m k E_ h (by simp) rfl fun H4 g=>?_);replace g:B_ B H0 H4 ((ps++[pB 101 n (Ad 0)]).set k (pRd r t (i+1))):=g;refine Aj.mk (Vf O A P g (lgS h) (by omega)) ?_ ?_
  ·rintro _ H5 ⟨x,j,q,rfl,a⟩;rw[Ycb,f]at a;refine AN (cs:=Ad x) a _ rfl (z _) (I_ _) rfl fun H7 d=>?_;have o:Q_ H7 n 101 (Ad x):=by
    have:=d.blk _ (lgS (z _));rwa [AH (by rfl)]at this
   rw[Ru]at d;refine lN (cs:=Ad x) AT (Dm o) ?_;exact⟨x,j,by rw[l,q],rfl,d.lft⟩
  ·rintro _ H5 ⟨e,j,q,rfl,a⟩;rw[Ycb,f]at a;exact⟨e,j,by rw[l,q],rfl,a.lft⟩
 have N:((bt t i:Int)==(91:Int))=false:=beq_eq_false_iff_ne.2 (by omega);have l:BE t i=match B0 t DP i with | .inl e=>.inl e | .inr (b,k)=>.inr (AC b b,k):=by unfold BE;rw[D_ p,D_ y]<;>rfl
 (conv=>whnf);try (refine Bf.run ?_)
 (conv=>whnf);rw[E];(conv=>whnf);rw[N];refine Aj.mk (Ig (s:=DP) O A P m h) ?_ ?_
 ·rintro _ H5 ⟨c,j,q,rfl,a⟩;have T:=Dp q;rw[f]at a;rw[q]at l;refine Aj.of (Ah (F5 c c (by omega) (by omega) H5) fun H6 u=>?_);have w:=a.call u;refine AN (cs:=Ad (AC c c)) w _ rfl (z _) (I_ _) rfl fun H7 d=>?_;have o:Q_ H7 n 101 (Ad (AC c c)):=by
   have:=d.blk _ (lgS (z _));rwa [AH (by rfl)]at this
  rw[Ru]at d;refine lN (cs:=Ad (AC c c)) AT (Dm o) ?_;exact⟨_,j,l,rfl,d.lft⟩
 ·rintro _ H5 ⟨e,j,q,rfl,a⟩;rw[f]at a;rw[q]at l;exact⟨e,j,l,rfl,a.lft⟩
def EQ(c i:Nat):v_:=.agg #[A_ c,A_ i,.string ⟨#[]⟩]
def Ap(c i:Nat):List v_:=[A_ c,A_ i,.string ⟨#[]⟩]
def W8(q4 q5 q6:Nat)(x:BitVec 256)(j c e:Nat):List Pc:=[pB 101 q4 (Ad x),pB 3 q5 [A_ j],pB 68 q6 (Ap c e)]
theorem Ae3{H:Aa}{q4 q5 q6:Nat}{K:Aa→Prop}(k:K H):Fh prog 233 #[U_ q4,U_ q5,U_ q6] .returning .returning H K:=by
 refine Fh.mk (R:=fun H'=>H'=H) (HP (R:=fun H'=>H'=H) func233 rfl ⟨⟨_,rfl⟩,rfl,rfl,rfl,rfl,rfl⟩ .ret rfl ?_) (fun H' h=>by rw[h];exact k);(conv=>whnf);refine⟨rfl,?_⟩;refine Rm underlying20 ?_;(conv=>whnf)
theorem Ae2{B:Nat→Prop}{H0 H:Aa}{q4 q5 q6 e j c0 e0:Nat}{x:BitVec 256}{ps:List Pc}{K:Aa→Prop}(st:B_ B H0 H (W8 q4 q5 q6 x j c0 e0++ps))(k:∀H',B_ B H0 H' (W8 q4 q5 q6 0 0 10 e++ps)→K H'):
  Fh prog 233 #[U_ q4,U_ q5,U_ q6] (.panicking (pe (En 10 e))) (.panicking [{v:=En 10 e,recovered:=true}]) H K:=by
 refine Fh.mk (R:=fun H'=>B_ B H0 H' (W8 q4 q5 q6 0 0 10 e++ps)) (HP (R:=fun H'=>B_ B H0 H' (W8 q4 q5 q6 0 0 10 e++ps)) func233 rfl ⟨⟨_,rfl⟩,rfl,rfl,rfl,rfl,rfl⟩ (.pan _) rfl ?_) k;(conv=>whnf);refine⟨rfl,?_⟩;refine Wn underlying20 (Aq.held (fun _=>False) 6 (sq [0,1,2] (.f 3 (.f 4 (.f 5 .e)))) rfl (by kernel_rfl) (Cz Ch (Bt 0) rfl (Ad 0) rfl (TR underlying68 (fun g h=>by cases h) (AN (cs:=Ad 0) st 0 rfl rfl (I_ _) rfl fun H1 st1=>(⟨fun k b=>b.elim,?_⟩)))));refine Bh st1 1 E_ rfl (by simp) rfl fun H2 c=>(⟨fun k b=>b.elim,?_⟩);refine AN (cs:=Ap 10 e) c 2 rfl rfl (I_ _) rfl fun H3 a=>(⟨fun k b=>b.elim,?_⟩);(conv=>whnf);have d:Ai (Ad x) 0 (Ad 0)=Ad 0:=AH rfl;have e2:Ai (Ap c0 e0) 0 (Ap 10 e)=Ap 10 e:=AH rfl;rw[e2]at a;rw[d]at a;exact a
def N2(t:ByteArray)(i:Nat)(v:v_):Prop:=match BE t i with
 | .inl e=>v= .tuple #[Bt 0,A_ 0,EQ 10 e]
 | .inr (x,j)=>v= .tuple #[Bt x,A_ j,EQ 0 0]
theorem Fi{H:Aa}{t:ByteArray}{i:Nat}(Q:EH H)(V:t.size≤1152921504606846976)(W:i<t.size):
  Ak prog 218 #[.string t,A_ i] H fun v H'=>C_ (H_ H) H H'∧N2 t i v:=by
 refine Ak.of_defer func218 rfl (call218 _) ⟨rfl,rfl,rfl,⟨_,rfl⟩,rfl,rfl⟩ (fun vs w=>call233 _ w) (Am (Bt 0) (Ad 0) rfl rfl ?_);intro q4 H1 o p q s;have st1:=(St.nil H).box o p q s;refine Am (.int .i64 0) [A_ 0] rfl rfl ?_;intro q5 H2 g u y z;have A:=st1.box g u y z;refine Am (EQ 0 0) (Ap 0 0) rfl rfl ?_;intro q6 H3 l B C D;have E:=A.box l B C D;have X:decide ((i:Int)<0)=false:=V_;have Y:decide ((i:Int)≥(t.size:Int))=false:=V_;(conv=>whnf);rw[X];(conv=>whnf);rw[Y];(conv=>whnf);refine⟨rfl,?_⟩;refine Ax underlying357 rfl _ rfl (rdL t i) rfl (Ct (rdL t i) rfl ?_);intro r H4 m F G I;have J:=E.box m F G I;have o3:q4<q5:=by have:q5=H1.size:=g;omega
 have o4:q5<q6:=by have:q6=H2.size:=l;omega
 have o5:q6<r:=by have:r=H3.size:=m;omega
 refine Aj.mk (AgK (k:=3) Q Q.2 V J rfl W) ?_ ?_
 ·rintro _ H5 ⟨x,j,K,rfl,c⟩;refine AN (cs:=Ad x) c 0 rfl rfl (I_ _) rfl fun H6 a=>?_;have Z:Ai (Ad 0) 0 (Ad x)=Ad x:=AH rfl;rw[Z]at a;have S:=a.blk 0 rfl;have br:Q_ H6 r 357 (rdL t j):=a.blk 3 rfl;refine C3.held (fun k=>k=q4∨k=r) [] (sq [0,1,2,3,4,5] (.f 6 (.f 7 (.f 8 .e)))) (Uk (R:=fun v H5=>C_ (H_ H) H H5∧N2 t i v) (by kernel_rfl)) rfl (by kernel_rfl) (L_ (cs:=Ad x) AT (Dm S) (.inl rfl) (f_ AI ?_));refine G_ (v:=A_ j) E_ (by rw[br.cell];rfl) (.inr rfl) ?_;refine Ax underlying68 rfl _ rfl (Ap 0 0) rfl (Bw (cs:=Ad x) a 0 rfl rfl (I_ _) rfl fun H7 d L a0=>?_);have e2:Ai (Ad x) 0 (Ad x)=Ad x:=AH rfl;rw[e2]at d;have T:C_ (fun k=>k=q4∨k=r) H6 H7:=fun k n=>by
   rcases n with h | h
   ·rw[h];exact(d.blk 0 rfl).trans S.symm
   ·exact L _ (show k≠q4 by omega)
  refine⟨T,?_⟩;refine WH d 1 E_ rfl (by simp) rfl fun H8 M N a1=>?_;have U:C_ (fun k=>k=q4∨k=r) H6 H8:=T.trans (N.mono fun k n=>by rcases n with rfl | rfl<;>omega);refine⟨U,?_⟩;refine Bw (cs:=Ap 0 0) M 2 rfl rfl (I_ _) rfl fun H9 b O a2=>?_;have a9:C_ (fun k=>k=q4∨k=r) H6 H9:=U.trans (O.mono fun k n=>by rcases n with rfl | rfl<;>omega);refine⟨a9,?_⟩;(conv=>whnf);refine Ae3 (L_ (cs:=Ad x) AT (Dm (b.blk 0 rfl)) trivial ?_);refine lT (v:=A_ j) E_ ((b.blk 1 rfl).ce rfl) ?_;refine L_ (cs:=Ap 0 0) N8 ((b.blk 2 rfl).cells (fun j v P=>by rw[K_];exact P)) trivial ?_;refine⟨b.old,?_⟩;unfold N2;rw[K];rfl
 ·rintro _ H5 ⟨e,j,K,rfl,c⟩;refine Ae2 (q4:=q4) (q5:=q5) (q6:=q6) (x:=0) (j:=0) (c0:=0) (e0:=0) c fun H6 a=>(L_ (cs:=Ad 0) AT (Dm (a.blk 0 rfl)) trivial ?_);refine lT (v:=A_ 0) E_ ((a.blk 1 rfl).ce rfl) ?_;refine L_ (cs:=Ap 10 e) N8 ((a.blk 2 rfl).cells (fun j v P=>by rw[K_];exact P)) trivial ?_;refine⟨a.old,?_⟩;unfold N2;rw[K];rfl
end Go.Proofs.YtfbghcpdinlmcaaGreatDoor
namespace Go.VC
inductive Sc3 where
 | e
 | q (i:Nat) (s:Sc3)
 | f (i:Nat) (s:Sc3)
 | b (i:Nat) (s:Sc3) (j:Nat) (s':Sc3)
 | t (i:Nat) (s:Sc3) (j:Nat) (s':Sc3) (k:Nat) (s'':Sc3)
def sq3:List Nat→Sc3→Sc3
 | [],s=>s
 | i::l,s=>.q i (sq3 l s)
def Sc3.len:Sc3→Nat
 | .e=>0
 | .q _ s=>s.len+1
 | .f _ s=>s.len+1
 | .b _ s _ _=>s.len+1
 | .t _ s _ _ _ _=>s.len+1
def Sc3.even:Sc3→Bool
 | .e=>true
 | .q _ s=>s.even
 | .f _ s=>s.even
 | .b _ s _ s'=>s.even&&s'.even&&s.len==s'.len
 | .t _ s _ s' _ s''=>s.even&&s'.even&&s''.even&&s.len==s'.len&&s.len==s''.len
def EA(ops:Array Oper):Sc3→Array Bool→Bool
 | .e,listed=>(Region.ready .any ops listed).isEmpty
 | .q i s,listed=>(Region.ready .any ops listed).contains i&&Region.free .any ops listed i&&EA ops s (listed.setIfInBounds i true)
 | .f i s,listed=>Region.ready .any ops listed==[i]&&EA ops s (listed.setIfInBounds i true)
 | .b i s j s',listed=>Region.ready .any ops listed==[i,j]&&EA ops s (listed.setIfInBounds i true)&&EA ops s' (listed.setIfInBounds j true)
 | .t i s j s' k s'',listed=>Region.ready .any ops listed==[i,j,k]&&EA ops s (listed.setIfInBounds i true)&&EA ops s' (listed.setIfInBounds j true)&&EA ops s'' (listed.setIfInBounds k true)
def held3(P:w_)(S:Nat→Prop)(H0:Aa)(all:List Oper)(s:Sc3):Fr→Aa→(Fr→Aa→Prop)→Prop:=
 Sc3.rec (motive:=fun _=>Fr→Aa→(Fr→Aa→Prop)→Prop) (fun fr H K=>K fr H)
  (fun i _ ih fr H K=>match all[i]? with
   | none=>False
   | some o=>OX all o fr (LR P S o H fun fr' H'=>ih fr' H' K) (M1 o H fun fr' H'=>ih fr' H' K))
  (fun i _ ih fr H K=>Jy P S [] H0 all i fr H fun fr' H'=>ih fr' H' K)
  (fun i _ j _ ih ih' fr H K=>(Jy P S [] H0 all i fr H fun fr' H'=>ih fr' H' K)∧Jy P S [] H0 all j fr H fun fr' H'=>ih' fr' H' K)
  (fun i _ j _ k _ ih ih' ih'' fr H K=>(Jy P S [] H0 all i fr H fun fr' H'=>ih fr' H' K)∧(Jy P S [] H0 all j fr H fun fr' H'=>ih' fr' H' K)∧Jy P S [] H0 all k fr H fun fr' H'=>ih'' fr' H' K) s
theorem Ad0(P:w_)(S:Nat→Prop)(H0:Aa)(all:List Oper)(i:Nat)(s:Sc3)(fr:Fr)(H:Aa)(K:Fr→Aa→Prop):held3 P S H0 all (.q i s) fr H K=
  (match all[i]? with
   | none=>False
   | some o=>OX all o fr (LR P S o H fun a H'=>held3 P S H0 all s a H' K) (M1 o H fun a H'=>held3 P S H0 all s a H' K)):=rfl
theorem CO{P:w_}{S:Nat→Prop}{w0:y_}{all:List Oper}{Q:Exit→Act→y_→Prop}(hs:Region.noSelect all.toArray=true)
  (C:∀c a w,¬Q (.panic c) a w):∀(l:Sc3) (d:Array Bool) (fr:Fr) (a:Act) (w:y_) (K:Fr→Aa→Prop),At fr a→d_ w0 w→Cls w0 S w→IM all.toArray d→
  (∀p a' g,At p a'→d_ w0 g→K p g.heap→Q .normal a' g)→EA all.toArray l d=true→l.even=true→
  held3 P S w0.heap all l fr w.heap K→JG P all.toArray Q (Cls w0 S) [] l.len d a w
 | .e,d,fr,a,w,K,hat,he,_,_,hq,hB,_,h=>⟨by simpa [EA]using hB,hq fr a w hat he h⟩
 | .q i s,d,fr,a,w,K,hat,he,hc,hsh,hq,hB,hev,h=>by
   simp only[EA,r_]at hB;obtain⟨⟨D,T⟩,r⟩:=hB;rw[Ad0]at h;split at h
   ·exact h.elim
   ·rename_i o U;have E:all.toArray[i]?=some o:=by simpa using U
    have F:i∈Region.ready .any all.toArray d:=by simpa using D
    rcases JF hat h with⟨x,h⟩ | ⟨x,h⟩
    ·unfold LR at h;split at h
     ·have⟨v,V,n⟩:=Em h;rw[Ce]at n;refine DK (v:=v) (f:=all.toArray.size) E (Region.noSelect_spec hs) (fun c a' g J=>(C _ _ _ J).elim) rfl (fun j H=>by cases H) s.len d a w hsh (Region.free_spec E T) F
       (.inl ⟨x,fun g L=>?_⟩) hc ?_
      ·rw[hat.evalF];exact V g fun k n=>(L.2 k n).trans (hc.2 k n).symm
      ·exact CO hs C s _ _ _ w K (hat.put o.dst v) he hc (hsh.put F) hq r hev n
     ·exact h.elim
    ·unfold M1 at h;rw[Ce]at h;exact DK (v:=undef) (f:=all.toArray.size) E (Region.noSelect_spec hs) (fun c a' g J=>(C _ _ _ J).elim) rfl (fun j H=>by cases H) s.len d a w hsh (Region.free_spec E T) F
      (.inr ⟨x,rfl⟩) hc (CO hs C s _ _ _ w K (hat.put o.dst undef) he hc (hsh.put F) hq r hev h)
 | .f i s,d,fr,a,w,K,hat,he,hc,hsh,hq,hB,hev,h=>by
   simp only[EA,r_,beq_iff_eq]at hB;have⟨D,r⟩:=hB;refine⟨(fun G=>by rw[D]at G;cases G),fun j H=>?_⟩;have M:=H;rw[D]at H;obtain rfl:j=i:=by simpa using H
   exact CT (Z:=[]) hat he (fun _=>hc) h fun p a' g z A u B=>⟨u,CO hs C s _ _ _ g K z A (u rfl) (hsh.put M) hq r hev B⟩
 | .b i s j s',d,fr,a,w,K,hat,he,hc,hsh,hq,hB,hev,h=>by
   simp only[EA,r_,beq_iff_eq]at hB;obtain⟨⟨D,r⟩,I⟩:=hB;simp only[Sc3.even,r_,beq_iff_eq]at hev;obtain⟨⟨N,e2⟩,O⟩:=hev;refine⟨(fun G=>by rw[D]at G;cases G),fun k n=>?_⟩;have y:=n;rw[D]at n;rcases YaP.1 n with rfl | n
   ·exact CT (Z:=[]) hat he (fun _=>hc) h.1 fun p a' g z A u B=>⟨u,CO hs C s _ _ _ g K z A (u rfl) (hsh.put y) hq r N B⟩
   ·obtain rfl:k=j:=by simpa using n
    rw[O];exact CT (Z:=[]) hat he (fun _=>hc) h.2 fun p a' g z A u B=>⟨u,CO hs C s' _ _ _ g K z A (u rfl) (hsh.put y) hq I e2 B⟩
 | .t i s j s' m s'',d,fr,a,w,K,hat,he,hc,hsh,hq,hB,hev,h=>by
   simp only[EA,r_,beq_iff_eq]at hB;obtain⟨⟨⟨D,r⟩,I⟩,R⟩:=hB;simp only[Sc3.even,r_,beq_iff_eq]at hev;obtain⟨⟨⟨⟨N,e2⟩,O⟩,W⟩,X⟩:=hev;refine⟨(fun G=>by rw[D]at G;cases G),fun k n=>?_⟩;have y:=n;rw[D]at n;rcases YaP.1 n with rfl | n
   ·exact CT (Z:=[]) hat he (fun _=>hc) h.1 fun p a' g z A u B=>⟨u,CO hs C s _ _ _ g K z A (u rfl) (hsh.put y) hq r N B⟩
   ·rcases YaP.1 n with rfl | n
    ·rw[W];exact CT (Z:=[]) hat he (fun _=>hc) h.2.1 fun p a' g z A u B=>⟨u,CO hs C s' _ _ _ g K z A (u rfl) (hsh.put y) hq I e2 B⟩
    ·obtain rfl:k=m:=by simpa using n
     rw[X];exact CT (Z:=[]) hat he (fun _=>hc) h.2.2 fun p a' g z A u B=>⟨u,CO hs C s'' _ _ _ g K z A (u rfl) (hsh.put y) hq R O B⟩
theorem Aq.held3{P:w_}{l:List Oper}{fr:Fr}{H:Aa}{K:Fr→Aa→Prop}(S:Nat→Prop)(b:Sc3)(g:P.follows .mixedOrders=true)
  (c:(Region.noSelect l.toArray&&(b.len==l.length)&&b.even&&EA l.toArray b (Ak4 l.length false))=true)
  (h:VC.held3 P S H l b fr H K):Aq P l fr H K:=by
 refine⟨?_⟩;intro id Q a w d i k m;subst i;simp only[r_,beq_iff_eq]at c;refine wp_region_any g (GF (S:=Cls w S) (Z:=[]) _ _ _ _ ?_);have e:IM l.toArray (Ak4 l.length false):=fun j o _ f=>by
  rw[Array.getD_eq_getD_getElem?,Array.getElem?_replicate]at f;split at f<;>simp at f
 have:=CO (P:=P) (S:=S) (w0:=w) (Q:=Q) c.1.1.1 k b (Ak4 l.length false) fr a {w with drawn:=w.drawn+1} K d ⟨rfl,rfl,rfl⟩ ⟨⟨rfl,rfl,rfl⟩,C_.refl _ _⟩ e m c.2 c.1.2 h;rw[c.1.1.2]at this;simpa using this
theorem B_.capT{α:Type}{T:Ty α}{S:Nat→Prop}{B:Nat→Prop}{H0 H:Aa}{ps:List Pc}{e:x_}{a:Option Addr}{n cap:Nat}{xs:List α}(st:B_ B H0 H ps)(i:Nat)(f:ps[i]?=some (pN T S e a n cap xs)):xs.length≤cap:=by
 obtain⟨h,⟨j,c⟩,k⟩:=(st.at_ i f).1;rcases c with⟨c,g⟩ | ⟨b,d,l,c,m,o,p,q,r,s⟩
 ·rw[g];exact t_ _
 ·cases c;omega
theorem B_.popT{α:Type}{T:Ty α}{B:Nat→Prop}{H0 H:Aa}{ps:List Pc}{e:x_}{a:Option Addr}{n cap:Nat}{xs:List α}{x:α}(st:B_ B H0 H ps)(i:Nat)(f:ps[i]?=some (pS T e a n cap (xs++[x]))):B_ B H0 H (ps.set i (pS T e a xs.length cap xs)):=by
 have d:=(st.at_ i f).1;refine st.say i f _ ⟨d.pop,fun k b=>b.elim⟩ fun k b=>?_;rcases b with⟨o,m,c,b⟩ | b
 ·injection b with e1 e2 e3
  subst e1;exact .inl ⟨o,n,cap,rfl⟩
 ·exact b.elim
theorem Q_.ne{H:Aa}{b b':Nat}{e a:x_}{l c:List v_}(h:Q_ H b e l)(d:Q_ H b' a c)(f:e≠a):b≠b':=by
 rintro rfl;have g:=Option.some.inj (h.symm.trans d);injection g with _ e2 _
 exact f e2
end Go.VC
namespace Go.Proofs.YtfbghcpdinlmcaaGreatDoor
open Go.VC Go.Lib
section
variable{t:ByteArray}{i:Nat}{f:AF}{fs:List AF}
theorem OB(h:bt t i=40)(a:fs.length<1000):Cm t ⟨i,f,fs⟩= .inr ⟨i+1,EB i,A7 f::fs⟩:=by
 unfold Cm;simp only[h];rw[D_ (by decide),D_ (by decide),D_ (by decide),D_ (by decide),F_ trivial,D_ (by omega)]
theorem OA(h:bt t i=40)(a:1000≤fs.length):Cm t ⟨i,f,fs⟩= .inl (23,i):=by
 unfold Cm;simp only[h];rw[D_ (by decide),D_ (by decide),D_ (by decide),D_ (by decide),F_ trivial,F_ a]
theorem Mw{g:AF}(h:bt t i=41):Cm t ⟨i,f,g::fs⟩= .inr ⟨i+1,{g with factor:=(CH f).alt},fs⟩:=by
 unfold Cm;simp only[h];rw[D_ (by decide),D_ (by decide),D_ (by decide),F_ trivial]
theorem Ll(h:bt t i=41):Cm t ⟨i,f,[]⟩= .inl (20,i):=by
 unfold Cm;simp only[h];rw[D_ (by decide),D_ (by decide),D_ (by decide),F_ trivial]
theorem Qe(h:bt t i=124):Cm t ⟨i,f,fs⟩= .inr ⟨i+1,CH f,fs⟩:=by
 unfold Cm;simp only[h];rw[D_ (by decide),F_ trivial]
theorem Ij(h:bt t i=38∨bt t i=45):Cm t ⟨i,f,fs⟩= .inr ⟨i+1,{Cu f with sign:=bt t i},fs⟩:=by
 unfold Cm;rcases h with h | h<;>(simp only[h];rw[D_ (by decide),D_ (by decide),F_ (by decide)])
theorem Ft(h:FF (bt t i)=true)(a:f.factor=none):Cm t ⟨i,f,fs⟩= .inl (20,i):=by
 unfold Cm;simp only[a];rw[F_ h]
def NV(c:Nat):Prop:=c≠124∧c≠38∧c≠45∧c≠41∧FF c=false
theorem Qf(h:NV (bt t i))(a:bt t i≠40){x:BitVec 256}{k:Nat}(b:BE t i= .inr (x,k)):Cm t ⟨i,f,fs⟩= .inr ⟨k,{A7 f with factor:=some (.cls x)},fs⟩:=by
 unfold Cm;simp only[b];rw[D_ (by rw[h.2.2.2.2];decide),D_ h.1,D_ (by rintro(e | e);exact h.2.1 e;exact h.2.2.1 e),D_ h.2.2.2.1,D_ a]
theorem O9(h:NV (bt t i))(a:bt t i≠40){e:Nat}(b:BE t i= .inl e):Cm t ⟨i,f,fs⟩= .inl (10,e):=by
 unfold Cm;simp only[b];rw[D_ (by rw[h.2.2.2.2];decide),D_ h.1,D_ (by rintro(e | e);exact h.2.1 e;exact h.2.2.1 e),D_ h.2.2.2.1,D_ a]
theorem AcH{e:Nat}(h:Hw t i= .inl e):e≤i+2:=by
 unfold Hw at h;split at h
 ·cases h;omega
 ·split at h
  ·cases h
  ·split at h
   ·cases h
   ·split at h
    ·cases h
    ·split at h
     ·split at h
      ·cases h;omega
      ·split at h
       ·cases h;omega
       ·cases h
     ·split at h
      ·cases h;omega
      ·cases h
theorem R6{u:ByteArray}{e:Nat}(h:B0 t u i= .inl e):e≤i+3:=by
 unfold B0 at h;split at h
 ·have:=AcH h;omega
 ·split at h
  ·cases h;omega
  ·cases h
theorem Ry:∀{n i e:Nat} {x:BitVec 256},Dj t n i x= .inl e→i≤t.size+2→e≤t.size+6
 | 0,i,e,x,h,hi=>by cases h;omega
 | n+1,i,e,x,h,hi=>by
   unfold Dj at h;split at h
   ·cases h
   ·split at h
    ·rename_i d a;cases h;have:=R6 a;omega
    ·rename_i lo j a;have:=Dp a;unfold Hu at h;split at h
     ·split at h
      ·rename_i e2 b;cases h;have:=R6 b;omega
      ·rename_i c f b;have:=Dp b;split at h
       ·cases h;omega
       ·exact Ry h (by omega)
     ·exact Ry h (by omega)
theorem OC{e:Nat}(h:BE t i= .inl e)(c:i<t.size):e≤t.size+6:=by
 unfold BE at h;split at h
 ·cases h
 ·split at h
  ·unfold IU at h;split at h
   ·rename_i b a;cases h;exact Ry a (by split<;>omega)
   ·cases h
  ·split at h
   ·rename_i b a;cases h;have:=R6 a;omega
   ·cases h
end
abbrev tPl:Ty Int:=GB .i64
abbrev sP(s:Nat)(t:ByteArray)(i:Nat)(a:Option Addr)(n cap:Nat)(os:List Int)(ps:List Pc):List Pc:=pSc s t i (.slice a n cap)::pS tPl 3 a n cap os::ps
structure Sc(B:Nat→Prop)(H:Aa)(s:Nat)(t:ByteArray)(i:Nat)(os:List Int)(ps:List Pc):Prop where
 ex:∃a n cap,B_ B H H (sP s t i a n cap os ps)
structure SR(B:Nat→Prop)(H:Aa)(s:Nat)(t:ByteArray)(j:Nat)(os:List Int)(ps:List Pc)(r:ReM)(v:v_)(H':Aa):Prop where
 ex:∃(B':Nat→Prop) (fn:v_),v= .agg (Ab r fn).toArray∧(∀k,B k→B' k)∧C_ B H H'∧Sc B' H' s t j os ps∧CF B' H' fn r
structure SE(B:Nat→Prop)(H:Aa)(t:ByteArray)(st:RdS)(x:v_)(H':Aa):Prop where
 ex:∃c p:Nat,Cb t st= .inl (c,(p:Int))∧x=En c p∧C_ B H H'
theorem SE.from{B B':Nat→Prop}{H H1 H':Aa}{t:ByteArray}{st a:RdS}{x:v_}(h:SE B' H1 t a x H')(b:Cb t st=Cb t a)(d:C_ B H H1)(hs:∀k,B k→B' k):SE B H t st x H':=by
 have⟨c,p,e,f,g⟩:=h;exact⟨c,p,b.trans e,f,d.trans fun k i=>g k (hs k i)⟩
def KJ(t:ByteArray)(i:Nat):Prop:=∀(B:Nat→Prop) (H:Aa) (s:Nat) (os:List Int) (ps:List Pc) (f:AF) (fs:List AF),EH H→B 0→i≤t.size→os.length=fs.length→fs.length≤1000→
 f.alt=none→f.meet=none→f.row=none→f.factor=none→Sc B H s t i os ps→
 Ca prog 72 #[U_ s] H
  (fun v H'=>∃j f' r,i≤j∧j≤t.size∧(j=t.size∨bt t j=41)∧Cb t ⟨i,f,fs⟩=Cb t ⟨j,f',fs⟩∧(CH f').alt=some r∧f'.place=f.place∧SR B H s t j os ps r v H')
  (fun x H'=>SE B H t ⟨i,f,fs⟩ x H')
theorem Nj{x:Int}(h:J' .i64 x):(Lit.int .i64 x).wf=true:=by
 unfold Lit.wf;simp only[r_,Zzj];exact h
def K3(c e:Nat):List Lit:=[.int .i64 (c:Int),.int .i64 (e:Int),.string []]
theorem Wi{c e:Nat}(b:c<9223372036854775808)(d:e<9223372036854775808):prog.keyLits 3 68 (Ap c e)=some (K3 c e):=by
 have f:prog.cellsOf 68=3:=by kernel_rfl
 have g:prog.cellsOf 24=1:=by kernel_rfl
 have h:prog.cellsOf 3=1:=by kernel_rfl
 have i:prog.cellsOf 9=1:=by kernel_rfl
 have j:(0:Nat)≤maxLen:=t_ _;have a:(⟨#[]⟩:ByteArray).size≤maxLen:=t_ _;simp[Program.keyLits,underlying68,underlying24,underlying3,underlying9,f,g,h,i,Ap,K3,a,Nj (BX b),Nj (BX d)]
theorem U8{c e c' a:Nat}:decide (c=c'∧e=a)=true↔K3 c e=K3 c' a:=by
 unfold K3;rw[Zzj];constructor
 ·rintro⟨rfl,rfl⟩;rfl
 ·intro h;simp only[List.cons.injEq,Lit.int.injEq,true_and,and_true]at h;exact⟨by omega,by omega⟩
theorem AgF{c e c' a:Nat}(f:c<9223372036854775808)(g:e<9223372036854775808)(b:c'<9223372036854775808)(d:a<9223372036854775808){x y:z_}{S:Nat→Prop}{H:Aa}{K:v_→Prop}(k:K (.bool (!decide (c=c'∧e=a)))):
  AJ prog (do eqGuard .neq 68 x y (.agg (Ap c e).toArray) (.agg (Ap c' a).toArray);binOp .neq 68 (.agg (Ap c e).toArray) (.agg (Ap c' a).toArray)) S H K:=
 vneq (m:=3) (la:=K3 c e) (lb:=K3 c' a) (by kernel_rfl) (by decide) (eqGuardType68) rfl rfl (Wi f g) (Wi b d) U8 k
theorem Ag7{B:Nat→Prop}{H:Aa}{s i:Nat}{t:ByteArray}{os:List Int}{ps:List Pc}{f:AF}{fs:List AF}(hE:EH H)(L:B 0)(ht:t.size≤1048576)(V:i<t.size)(c8:os.length=fs.length)(c9:fs.length≤1000)
  (ao:NV (bt t i)) (IH:∀i',i<i'→KJ t i') (sc:Sc B H s t i os ps):
  Ca prog 193 #[U_ s] H
   (fun v H'=>∃j r,i<j∧j≤t.size∧Cb t ⟨i,f,fs⟩=Cb t ⟨j,{A7 f with factor:=some r},fs⟩∧SR B H s t j os ps r v H')
   (fun x H'=>SE B H t ⟨i,f,fs⟩ x H'):=by
 have⟨a,n,cap,st⟩:=sc;refine Ca.of_vc func193 rfl (call193 _) (Am (.agg Al.toArray) Al Dq rfl ?_);intro A H1 b9 bd be bf;have st1:=st.box b9 bd be bf;refine Aj.of (Ah (DC (st1.blk 0 rfl) V) fun H2 bg=>?_);have g:=st1.call bg;by_cases W:bt t i=40
 ·have d1:(((bt t i:Nat):Int) != 40)=false:=by rw[W];rfl
  (conv=>whnf);rw[d1];obtain rfl:n=os.length:=g.len 1 rfl;replace g:B_ B H H2 (sP s t i a os.length cap os ps++[pB 142 A Al]):=g;refine Bf.run (f_ GL ?_);refine lT (v:=.slice a os.length cap) FK ((g.blk 0 rfl).ce rfl) ?_;by_cases hd:1000≤fs.length
  ·have d2:decide (1000≤(os.length:Int))=true:=e_;(conv=>whnf);rw[d2];refine f_ AK ?_;refine lT (v:=A_ i) E_ ((g.blk 0 rfl).ce rfl) ?_;refine Aj.mk (Df (c:=23) (e:=i)) (fun _ _ h=>h.elim) ?_;rintro _ _ ⟨rfl,rfl⟩;exact⟨23,i,EE V (OA W hd),rfl,g.old⟩
  ·have d2:decide (1000≤(os.length:Int))=false:=V_;(conv=>whnf);rw[d2];refine C3.of (Aq.heldZ (fun k=>k=s) [13] (sq [0,1,2,3,4,5,6,7,8] (.f 9 (.f 10 (sq [11,12] (.f 13 .e))))) rfl (by kernel_rfl) (f_ GL ?_));refine G_ (v:=.slice a os.length cap) FK ((g.blk 0 rfl).ce rfl) rfl ?_;refine f_ AK ?_;refine G_ (v:=A_ i) E_ ((g.blk 0 rfl).ce rfl) rfl ?_;refine Ay AU [A_ i] rfl rfl (by decide) (by decide) ?_;intro w H3 bh cd a5 bi;have ap:=g.skip bh bi;refine⟨fun k m=>by rw[show k=s from m];exact(ap.blk 0 rfl).trans (g.blk 0 rfl).symm,?_⟩;refine IN (x:=(i:Int)) ap 1 AU rfl a5 ⟨rfl,BX (by omega)⟩ rfl (by omega) (by decide) fun a4 Y H4 aq ce=>?_;refine⟨fun k m=>by rw[show k=s from m];exact(aq.blk 0 rfl).trans (g.blk 0 rfl).symm,?_⟩;refine f_ GL (Bh aq 0 FK rfl (by simp) rfl fun H5 a6=>?_);replace a6:B_ B H H5 (sP s t i a4 (os.length+1) Y (os++[(i:Int)]) ps++[pB 142 A Al]):=a6;refine f_ AK ?_;refine lT (v:=A_ i) E_ ((a6.blk 0 rfl).ce rfl) ?_;(conv=>whnf);rw[W_ (x:=(i:Int)+1) (by omega)];refine f_ AK (Bh a6 0 E_ rfl (by simp) rfl fun H6 U=>?_);replace U:B_ B H H6 (sP s t (i+1) a4 (os.length+1) Y (os++[(i:Int)]) ps++[pB 142 A Al]):=U;have ab:Cb t ⟨i,f,fs⟩=Cb t ⟨i+1,EB i,A7 f::fs⟩:=Ey V (OB W (by omega));refine Aj.mk (IH (i+1) (by omega) B H6 s (os++[(i:Int)]) (ps++[pB 142 A Al]) (EB i) (A7 f::fs) (Kw hE L U) L (by omega) (by simp;omega) (by simp;omega) rfl rfl rfl rfl ⟨a4,_,Y,U.rebase⟩) ?_ ?_
   rotate_left
   ·intro x H7 h;exact h.from ab U.old fun k m=>m
   rintro _ H7 ⟨j,f',r,cg,hj,ar,au,bj,bm,⟨B1,f1,rfl,s1,a7,⟨a2,n2,E,a8⟩,gv⟩⟩;obtain⟨g1,c1,rfl⟩:=gv.fn;have bn:n2=os.length+1:=by have:=a8.len 1 rfl;rw[this];simp
   subst bn;replace a8:B_ B1 H7 H7 (sP s t j a2 (os.length+1) E (os++[(i:Int)]) ps++[pB 142 A Al]):=a8;have aw:C_ B H H7:=U.old.trans a7;refine Am (.agg Al.toArray) Al Dq rfl ?_;intro q6 H8 bo bp bq br;have ax:=a8.box bo bp bq br;rw[YaN]at ax;refine Bw (cs:=Ab r (.func (.func g1) #[] c1)) ax _ rfl (M_ _ _ 1) (by simp[Ab,Al]) rfl fun H9 Z ch cj=>?_;rw[X',C2 rfl]at Z;replace Z:B_ B1 H7 H9 (sP s t j a2 (os.length+1) E (os++[(i:Int)]) ps++[pB 142 A Al,pB 142 q6 (Ab r (.func (.func g1) #[] c1))]):=Z;refine Bf.run (Aj.of (Ah (Fc (Z.blk 0 rfl)) fun H10 ay=>?_));have F:=Z.call ay;have bu:C_ B H H10:=aw.trans fun k m=>F.old k (s1 k m);by_cases az:j<t.size
   ·rw[j_ (show¬t.size≤j by omega)];have bv:bt t j=41:=by rcases ar with h | h;omega;exact h
    (conv=>whnf);refine f_ AK ?_;refine lT (v:=A_ j) E_ ((F.blk 0 rfl).ce rfl) ?_;(conv=>whnf);rw[W_ (x:=(j:Int)+1) (by omega)];refine f_ AK (Bh F 0 E_ rfl (by simp) rfl fun H11 I=>?_);replace I:B_ B1 H7 H11 (sP s t (j+1) a2 (os.length+1) E (os++[(i:Int)]) ps++[pB 142 A Al,pB 142 q6 (Ab r (.func (.func g1) #[] c1))]):=I;have b0:=I.capT 1 rfl;rw[J_,h_]at b0;refine C3.of (Aq.heldZ (fun k=>k=s) [14] (sq [0,1,2,3,4,5,6,7,8,9,10,11,12,13] (.f 14 .e)) rfl (by kernel_rfl) (f_ GL ?_));refine G_ (v:=.slice a2 (os.length+1) E) FK ((I.blk 0 rfl).ce rfl) rfl ?_;refine f_ GL ?_;refine G_ (v:=.slice a2 (os.length+1) E) FK ((I.blk 0 rfl).ce rfl) rfl ?_;(conv=>whnf);rw[W_ (x:=((os.length+1:Nat):Int)-1) (by omega)];rw[show((os.length+1:Nat):Int)-1=(os.length:Int) by omega];refine WO AU (by omega) (by omega) (f_ GL ?_);have b4:=I.popT 1 rfl;refine Bh b4 0 FK rfl (by simp) rfl fun H13 J=>?_;rw[U']at J;replace J:B_ B1 H7 H13 (sP s t (j+1) a2 os.length E os ps++[pB 142 A Al,pB 142 q6 (Ab r (.func (.func g1) #[] c1))]):=J;refine L_ (cs:=Ab r (.func (.func g1) #[] c1)) AX (Av (J.blk _ (M_ _ _ 1))) trivial (Bw (cs:=Ab r (.func (.func g1) #[] c1)) J _ rfl (M_ _ _ 0) (by simp[Ab,Al]) rfl fun H14 K c5 c6=>?_);rw[X',C2 rfl]at K;refine L_ (cs:=Ab r (.func (.func g1) #[] c1)) AX (Av (K.blk _ (M_ _ _ 0))) trivial (⟨j+1,r,by omega,by omega,?_,B1,_,rfl,s1,aw.trans fun k m=>K.old k (s1 k m),⟨a2,_,E,K.lft.rebase⟩,gv.frame K.old fun k m=>m⟩);rw[ab,au,Ey (s:=⟨j,f',A7 f::fs⟩) az (Mw bv),bj]
   ·rw[n_ (show t.size≤j by omega)];refine C3.held (H_ H10) [] (sq [0,1,2,3,4,5,6,7,8,9,10,11,12] (.f 13 .e)) (Dz _ _) rfl (by kernel_rfl) (f_ GL ?_);refine G_ (v:=.slice a2 (os.length+1) E) FK ((F.blk 0 rfl).ce rfl) (F.blk 0 rfl).lt ?_;refine f_ GL ?_;refine G_ (v:=.slice a2 (os.length+1) E) FK ((F.blk 0 rfl).ce rfl) (F.blk 0 rfl).lt ?_;(conv=>whnf);rw[W_ (x:=((os.length+1:Nat):Int)-1) (by omega)];rw[show((os.length+1:Nat):Int)-1=(os.length:Int) by omega];refine ixO (j:=os.length) (x:=(i:Int)) AU F 1 rfl (by simp) rfl fun b5 o5 ck bw bx bz=>?_;obtain⟨rfl,-⟩:=bz;refine G_ (v:=A_ i) E_ bx.one bw (Aj.mk (Df (c:=21) (e:=i)) (fun _ _ h=>h.elim) ?_);rintro _ _ ⟨rfl,rfl⟩;refine⟨21,i,?_,rfl,bu⟩;rw[ab,au,O8 (s:=⟨j,f',A7 f::fs⟩) az];show Sum.inl (21,f'.place)=_;rw[bm];rfl
 ·have d1:(((bt t i:Nat):Int) != 40)=true:=bne_iff_ne.2 (by omega);(conv=>whnf);rw[d1];obtain⟨X,j,D,C,hX,cm,co,hj⟩:∃(X:BitVec 256) (j D C:Nat),(∀v,N2 t i v→v= .tuple #[Bt X,A_ j,EQ D C])∧D≤10∧C≤t.size+10∧(BE t i= .inl C∧D=10∨BE t i= .inr (X,j)∧D=0∧C=0):=by
   cases hr:BE t i with
   | inl e=>exact⟨0,0,10,e,fun v hv=>by unfold N2 at hv;rw[hr]at hv;exact hv,by omega,by have:=OC hr V;omega,.inl ⟨rfl,rfl⟩⟩
   | inr y=>exact⟨y.1,y.2,0,0,fun v hv=>by unfold N2 at hv;rw[hr]at hv;exact hv,by omega,by omega,.inr ⟨rfl,rfl,rfl⟩⟩
  have a9:B_ B H H2 (sP s t i a n cap os ps++[pB 142 A Al]):=g;refine C3.of (Aq.cut [3,4,5] (fun x:Nat×Nat=>match x with | (w,z)=>[U_ w,A_ j,U_ z]) (fun x G=>match x with | (w,z)=>B_ B H G (sP s t i a n cap os ps++[pB 142 A Al])∧Q_ G w 101 (Ad X)∧Q_ G z 68 (Ap D C)) ?_ ?_)
  ·refine Aq.held3 (fun k=>k=s) (sq3 [0,1,2,3,4,5,6,7] (.t 8 (sq3 [9,10,11,12] (.b 13 (.f 14 (.f 15 (.q 16 (.f 17 .e)))) 14 (.f 13 (.f 15 (.q 16 (.f 17 .e)))))) 13 (.b 8 (sq3 [9,10,11,12] (.f 14 (.f 15 (.q 16 (.f 17 .e))))) 14 (.f 8 (sq3 [9,10,11,12] (.f 15 (.q 16 (.f 17 .e)))))) 14 (.b 8 (sq3 [9,10,11,12] (.f 13 (.f 15 (.q 16 (.f 17 .e))))) 13 (.f 8 (sq3 [9,10,11,12] (.f 15 (.q 16 (.f 17 .e)))))))) rfl (by kernel_rfl) (f_ MW ?_);refine G_ (v:=.string t) ct9 ((g.blk 0 rfl).ce rfl) rfl ?_;refine f_ AK ?_;refine G_ (v:=A_ i) E_ ((g.blk 0 rfl).ce rfl) rfl ?_;(conv=>whnf);refine⟨?_,?_,?_⟩
   ·refine Ae.mk (Fi (Kw hE L a9) (by omega) V) ?_;rintro _ J1 ⟨c2,hR⟩;obtain rfl:=hX _ hR;have u:=a9.call c2;refine⟨fun k m=>by rw[show k=s from m];exact(u.blk 0 rfl).trans (g.blk 0 rfl).symm,?_⟩;(conv=>whnf);refine⟨?_,?_⟩
    ·refine Am (Bt 0) (Ad 0) rfl rfl ?_;intro w J2 M N O P;have o:=u.box M N O P;rw[YaN]at o;replace o:B_ B H J2 (sP s t i a n cap os ps++[pB 142 A Al,pB 101 w (Ad 0)]):=o;refine⟨fun k m=>by rw[show k=s from m];exact(o.blk 0 rfl).trans (g.blk 0 rfl).symm,?_⟩;(conv=>whnf);refine Am (EQ 0 0) (Ap 0 0) rfl rfl ?_;intro z J3 Q R S T;have p:=o.box Q R S T;rw[YaN]at p;replace p:B_ B H J3 (sP s t i a n cap os ps++[pB 142 A Al,pB 101 w (Ad 0),pB 68 z (Ap 0 0)]):=p;refine⟨fun k m=>by rw[show k=s from m];exact(p.blk 0 rfl).trans (g.blk 0 rfl).symm,?_⟩;(conv=>whnf);refine AN (cs:=Ad X) p _ rfl (M_ _ _ 1) (I_ _) rfl fun J4 l=>?_;rw[X']at l;have e4:Ai (Ad 0) 0 (Ad X)=Ad X:=AH rfl;replace l:B_ B H J4 (sP s t i a n cap os ps++[pB 142 A Al,pB 101 w (Ai (Ad 0) 0 (Ad X)),pB 68 z (Ap 0 0)]):=l;rw[e4]at l;refine⟨fun k m=>by rw[show k=s from m];exact(l.blk 0 rfl).trans (g.blk 0 rfl).symm,?_⟩;refine AN (cs:=Ap D C) l _ rfl (M_ _ _ 2) (I_ _) rfl fun J5 d=>?_;rw[X']at d;have e5:Ai (Ap 0 0) 0 (Ap D C)=Ap D C:=AH rfl;replace d:B_ B H J5 (sP s t i a n cap os ps++[pB 142 A Al,pB 101 w (Ad X),pB 68 z (Ai (Ap 0 0) 0 (Ap D C))]):=d;rw[e5]at d;refine⟨fun k m=>by rw[show k=s from m];exact(d.blk 0 rfl).trans (g.blk 0 rfl).symm,?_⟩;(conv=>whnf);exact⟨rfl,(w,z),rfl,d.subl ((Yct _).2 (List.Sublist.cons_cons _ (Ycw _))),d.blk _ (M_ _ _ 1),d.blk _ (M_ _ _ 2)⟩
    ·refine Am (EQ 0 0) (Ap 0 0) rfl rfl ?_;intro z J2 M N O P;have o:=u.box M N O P;rw[YaN]at o;replace o:B_ B H J2 (sP s t i a n cap os ps++[pB 142 A Al,pB 68 z (Ap 0 0)]):=o;refine⟨fun k m=>by rw[show k=s from m];exact(o.blk 0 rfl).trans (g.blk 0 rfl).symm,?_⟩;(conv=>whnf);refine Am (Bt 0) (Ad 0) rfl rfl ?_;intro w J3 Q R S T;have p:=o.box Q R S T;rw[YaN]at p;replace p:B_ B H J3 (sP s t i a n cap os ps++[pB 142 A Al,pB 68 z (Ap 0 0),pB 101 w (Ad 0)]):=p;refine⟨fun k m=>by rw[show k=s from m];exact(p.blk 0 rfl).trans (g.blk 0 rfl).symm,?_⟩;(conv=>whnf);refine AN (cs:=Ad X) p _ rfl (M_ _ _ 2) (I_ _) rfl fun J4 l=>?_;rw[X']at l;have e4:Ai (Ad 0) 0 (Ad X)=Ad X:=AH rfl;replace l:B_ B H J4 (sP s t i a n cap os ps++[pB 142 A Al,pB 68 z (Ap 0 0),pB 101 w (Ai (Ad 0) 0 (Ad X))]):=l;rw[e4]at l;refine⟨fun k m=>by rw[show k=s from m];exact(l.blk 0 rfl).trans (g.blk 0 rfl).symm,?_⟩;refine AN (cs:=Ap D C) l _ rfl (M_ _ _ 1) (I_ _) rfl fun J5 d=>?_;rw[X']at d;have e5:Ai (Ap 0 0) 0 (Ap D C)=Ap D C:=AH rfl;replace d:B_ B H J5 (sP s t i a n cap os ps++[pB 142 A Al,pB 68 z (Ai (Ap 0 0) 0 (Ap D C)),pB 101 w (Ad X)]):=d;rw[e5]at d;refine⟨fun k m=>by rw[show k=s from m];exact(d.blk 0 rfl).trans (g.blk 0 rfl).symm,?_⟩;(conv=>whnf);exact⟨rfl,(w,z),rfl,d.subl ((Yct _).2 (List.Sublist.cons_cons _ (Ycw _))),d.blk _ (M_ _ _ 2),d.blk _ (M_ _ _ 1)⟩
   ·refine Am (Bt 0) (Ad 0) rfl rfl ?_;intro w J1 ae ag ah ai;have u:=a9.box ae ag ah ai;rw[YaN]at u;replace u:B_ B H J1 (sP s t i a n cap os ps++[pB 142 A Al,pB 101 w (Ad 0)]):=u;refine⟨fun k m=>by rw[show k=s from m];exact(u.blk 0 rfl).trans (g.blk 0 rfl).symm,?_⟩;(conv=>whnf);refine⟨?_,?_⟩
    ·refine Ae.mk (Fi (Kw hE L u) (by omega) V) ?_;rintro _ J2 ⟨aj,hR⟩;obtain rfl:=hX _ hR;have o:=u.call aj;refine⟨fun k m=>by rw[show k=s from m];exact(o.blk 0 rfl).trans (g.blk 0 rfl).symm,?_⟩;(conv=>whnf);refine Am (EQ 0 0) (Ap 0 0) rfl rfl ?_;intro z J3 Q R S T;have p:=o.box Q R S T;rw[YaN]at p;replace p:B_ B H J3 (sP s t i a n cap os ps++[pB 142 A Al,pB 101 w (Ad 0),pB 68 z (Ap 0 0)]):=p;refine⟨fun k m=>by rw[show k=s from m];exact(p.blk 0 rfl).trans (g.blk 0 rfl).symm,?_⟩;(conv=>whnf);refine AN (cs:=Ad X) p _ rfl (M_ _ _ 1) (I_ _) rfl fun J4 l=>?_;rw[X']at l;have e4:Ai (Ad 0) 0 (Ad X)=Ad X:=AH rfl;replace l:B_ B H J4 (sP s t i a n cap os ps++[pB 142 A Al,pB 101 w (Ai (Ad 0) 0 (Ad X)),pB 68 z (Ap 0 0)]):=l;rw[e4]at l;refine⟨fun k m=>by rw[show k=s from m];exact(l.blk 0 rfl).trans (g.blk 0 rfl).symm,?_⟩;refine AN (cs:=Ap D C) l _ rfl (M_ _ _ 2) (I_ _) rfl fun J5 d=>?_;rw[X']at d;have e5:Ai (Ap 0 0) 0 (Ap D C)=Ap D C:=AH rfl;replace d:B_ B H J5 (sP s t i a n cap os ps++[pB 142 A Al,pB 101 w (Ad X),pB 68 z (Ai (Ap 0 0) 0 (Ap D C))]):=d;rw[e5]at d;refine⟨fun k m=>by rw[show k=s from m];exact(d.blk 0 rfl).trans (g.blk 0 rfl).symm,?_⟩;(conv=>whnf);exact⟨rfl,(w,z),rfl,d.subl ((Yct _).2 (List.Sublist.cons_cons _ (Ycw _))),d.blk _ (M_ _ _ 1),d.blk _ (M_ _ _ 2)⟩
    ·refine Am (EQ 0 0) (Ap 0 0) rfl rfl ?_;intro z J2 M N O P;have o:=u.box M N O P;rw[YaN]at o;replace o:B_ B H J2 (sP s t i a n cap os ps++[pB 142 A Al,pB 101 w (Ad 0),pB 68 z (Ap 0 0)]):=o;refine⟨fun k m=>by rw[show k=s from m];exact(o.blk 0 rfl).trans (g.blk 0 rfl).symm,?_⟩;(conv=>whnf);refine Ae.mk (Fi (Kw hE L o) (by omega) V) ?_;rintro _ J3 ⟨ak,hR⟩;obtain rfl:=hX _ hR;have p:=o.call ak;refine⟨fun k m=>by rw[show k=s from m];exact(p.blk 0 rfl).trans (g.blk 0 rfl).symm,?_⟩;(conv=>whnf);refine AN (cs:=Ad X) p _ rfl (M_ _ _ 1) (I_ _) rfl fun J4 l=>?_;rw[X']at l;have e4:Ai (Ad 0) 0 (Ad X)=Ad X:=AH rfl;replace l:B_ B H J4 (sP s t i a n cap os ps++[pB 142 A Al,pB 101 w (Ai (Ad 0) 0 (Ad X)),pB 68 z (Ap 0 0)]):=l;rw[e4]at l;refine⟨fun k m=>by rw[show k=s from m];exact(l.blk 0 rfl).trans (g.blk 0 rfl).symm,?_⟩;refine AN (cs:=Ap D C) l _ rfl (M_ _ _ 2) (I_ _) rfl fun J5 d=>?_;rw[X']at d;have e5:Ai (Ap 0 0) 0 (Ap D C)=Ap D C:=AH rfl;replace d:B_ B H J5 (sP s t i a n cap os ps++[pB 142 A Al,pB 101 w (Ad X),pB 68 z (Ai (Ap 0 0) 0 (Ap D C))]):=d;rw[e5]at d;refine⟨fun k m=>by rw[show k=s from m];exact(d.blk 0 rfl).trans (g.blk 0 rfl).symm,?_⟩;(conv=>whnf);exact⟨rfl,(w,z),rfl,d.subl ((Yct _).2 (List.Sublist.cons_cons _ (Ycw _))),d.blk _ (M_ _ _ 1),d.blk _ (M_ _ _ 2)⟩
   ·refine Am (EQ 0 0) (Ap 0 0) rfl rfl ?_;intro z J1 ae ag ah ai;have u:=a9.box ae ag ah ai;rw[YaN]at u;replace u:B_ B H J1 (sP s t i a n cap os ps++[pB 142 A Al,pB 68 z (Ap 0 0)]):=u;refine⟨fun k m=>by rw[show k=s from m];exact(u.blk 0 rfl).trans (g.blk 0 rfl).symm,?_⟩;(conv=>whnf);refine⟨?_,?_⟩
    ·refine Ae.mk (Fi (Kw hE L u) (by omega) V) ?_;rintro _ J2 ⟨aj,hR⟩;obtain rfl:=hX _ hR;have o:=u.call aj;refine⟨fun k m=>by rw[show k=s from m];exact(o.blk 0 rfl).trans (g.blk 0 rfl).symm,?_⟩;(conv=>whnf);refine Am (Bt 0) (Ad 0) rfl rfl ?_;intro w J3 Q R S T;have p:=o.box Q R S T;rw[YaN]at p;replace p:B_ B H J3 (sP s t i a n cap os ps++[pB 142 A Al,pB 68 z (Ap 0 0),pB 101 w (Ad 0)]):=p;refine⟨fun k m=>by rw[show k=s from m];exact(p.blk 0 rfl).trans (g.blk 0 rfl).symm,?_⟩;(conv=>whnf);refine AN (cs:=Ad X) p _ rfl (M_ _ _ 2) (I_ _) rfl fun J4 l=>?_;rw[X']at l;have e4:Ai (Ad 0) 0 (Ad X)=Ad X:=AH rfl;replace l:B_ B H J4 (sP s t i a n cap os ps++[pB 142 A Al,pB 68 z (Ap 0 0),pB 101 w (Ai (Ad 0) 0 (Ad X))]):=l;rw[e4]at l;refine⟨fun k m=>by rw[show k=s from m];exact(l.blk 0 rfl).trans (g.blk 0 rfl).symm,?_⟩;refine AN (cs:=Ap D C) l _ rfl (M_ _ _ 1) (I_ _) rfl fun J5 d=>?_;rw[X']at d;have e5:Ai (Ap 0 0) 0 (Ap D C)=Ap D C:=AH rfl;replace d:B_ B H J5 (sP s t i a n cap os ps++[pB 142 A Al,pB 68 z (Ai (Ap 0 0) 0 (Ap D C)),pB 101 w (Ad X)]):=d;rw[e5]at d;refine⟨fun k m=>by rw[show k=s from m];exact(d.blk 0 rfl).trans (g.blk 0 rfl).symm,?_⟩;(conv=>whnf);exact⟨rfl,(w,z),rfl,d.subl ((Yct _).2 (List.Sublist.cons_cons _ (Ycw _))),d.blk _ (M_ _ _ 2),d.blk _ (M_ _ _ 1)⟩
    ·refine Am (Bt 0) (Ad 0) rfl rfl ?_;intro w J2 M N O P;have o:=u.box M N O P;rw[YaN]at o;replace o:B_ B H J2 (sP s t i a n cap os ps++[pB 142 A Al,pB 68 z (Ap 0 0),pB 101 w (Ad 0)]):=o;refine⟨fun k m=>by rw[show k=s from m];exact(o.blk 0 rfl).trans (g.blk 0 rfl).symm,?_⟩;(conv=>whnf);refine Ae.mk (Fi (Kw hE L o) (by omega) V) ?_;rintro _ J3 ⟨ak,hR⟩;obtain rfl:=hX _ hR;have p:=o.call ak;refine⟨fun k m=>by rw[show k=s from m];exact(p.blk 0 rfl).trans (g.blk 0 rfl).symm,?_⟩;(conv=>whnf);refine AN (cs:=Ad X) p _ rfl (M_ _ _ 2) (I_ _) rfl fun J4 l=>?_;rw[X']at l;have e4:Ai (Ad 0) 0 (Ad X)=Ad X:=AH rfl;replace l:B_ B H J4 (sP s t i a n cap os ps++[pB 142 A Al,pB 68 z (Ap 0 0),pB 101 w (Ai (Ad 0) 0 (Ad X))]):=l;rw[e4]at l;refine⟨fun k m=>by rw[show k=s from m];exact(l.blk 0 rfl).trans (g.blk 0 rfl).symm,?_⟩;refine AN (cs:=Ap D C) l _ rfl (M_ _ _ 1) (I_ _) rfl fun J5 d=>?_;rw[X']at d;have e5:Ai (Ap 0 0) 0 (Ap D C)=Ap D C:=AH rfl;replace d:B_ B H J5 (sP s t i a n cap os ps++[pB 142 A Al,pB 68 z (Ai (Ap 0 0) 0 (Ap D C)),pB 101 w (Ad X)]):=d;rw[e5]at d;refine⟨fun k m=>by rw[show k=s from m];exact(d.blk 0 rfl).trans (g.blk 0 rfl).symm,?_⟩;(conv=>whnf);exact⟨rfl,(w,z),rfl,d.subl ((Yct _).2 (List.Sublist.cons_cons _ (Ycw _))),d.blk _ (M_ _ _ 2),d.blk _ (M_ _ _ 1)⟩
  ·rintro⟨w,z⟩ G c7 ⟨am,a5,b6⟩;refine Bf.run ?_;refine L_ (cs:=Ap D C) N8 (b6.cells (fun j v hv=>by rw[K_];exact hv)) trivial ?_;refine Ax underlying68 rfl _ rfl (Ap 0 0) rfl (AgF (by omega) (by omega) (by decide) (by decide) ?_);rcases hj with⟨hr,rfl⟩ | ⟨hr,rfl,rfl⟩
   ·rw[V_];refine L_ (cs:=Ap 10 C) N8 (b6.cells (fun j v hv=>by rw[K_];exact hv)) trivial ?_;(conv=>whnf);exact⟨10,C,EE V (O9 ao W hr),rfl,am.old⟩
   ·have b7:=KE hr;rw[n_ ⟨rfl,rfl⟩];refine f_ AK (WH am 0 E_ rfl (by simp) rfl fun G2 a0 c3 cp=>?_);replace a0:B_ B H G2 (sP s t j a n cap os ps++[pB 142 A Al]):=a0;have b8:=a5.agr c3 (a5.ne (am.blk 0 rfl) (by decide));refine L_ (cs:=Ad X) AT (Dm b8) trivial (Ax underlying104 rfl _ rfl (Ad X) rfl (Aj.of (Ae.mk (Rq (r:=.cls X) a0 rfl) ?_)));rintro _ G3 ⟨B1,f1,rfl,s1,a3,c4,gs⟩;obtain⟨g1,c1,rfl⟩:=gs.fn;refine Bw (cs:=Ab (.cls X) (.func (.func g1) #[] c1)) c4 _ rfl (M_ _ _ 0) (by simp[Ab,Al]) rfl fun G4 a1 cq cr=>?_;rw[X',C2 rfl]at a1;refine lN (cs:=Ab (.cls X) (.func (.func g1) #[] c1)) AX (Av (a1.blk _ (M_ _ _ 0))) ?_;exact⟨j,.cls X,b7.1,b7.2,Ey V (Qf ao W hr),B1,_,rfl,s1,(a0.old.trans (a3.mono fun k m=>a0.up m)).trans fun k m=>a1.old k (s1 k m),⟨a,n,cap,a1.lft.rebase⟩,gs.frame a1.old fun k m=>m⟩
theorem rn_m(d:p_):(X_ d)[259]?=some (.int .i64 d.m):=by
 unfold X_ Bp;rw[YaE (by simp),YaE (by simp[Au])];simp[Au]
theorem Tv(d:p_):(X_ d)[260]?=some (.int .i64 d.n):=by
 unfold X_ Bp;rw[YaE (by simp),YaE (by simp[Au])];simp[Au]
theorem Ae6{c:Nat}{m n:Int}(a:c≤2001)(h:V4 m n):FV c (AS m) n≤2000000:=by
 have b:AS m≤255:=by unfold AS;split<;>rcases h with h | h<;>omega
 have d:n.toNat≤255:=by rcases h with h | h<;>omega
 have e:AS m*c≤255*2001:=YbM b a;have f:n.toNat*(c+2)≤255*2003:=YbM d (by omega);have g:(n.toNat-AS m)*(c+3)≤255*2004:=YbM (by omega) (by omega);unfold FV;split
 ·split<;>omega
 ·split
  ·omega
  ·split<;>omega
def k_(w:RwM):Int:=((S_ w.den:Nat):Int)
def szL(ws:List RwM)(j:Nat):List Int:=(ws.take j).map k_++AkD (ws.length-j) 0
theorem Bg(a:List RwM){j:Nat}(b:j≤a.length):(szL a j).length=a.length:=by unfold szL;simp;omega
theorem RO{a:List RwM}{j i:Nat}{w:RwM}(h:a[i]?=some w)(b:i<j):(szL a j)[i]?=some (k_ w):=by
 have c:=(O_.1 h).1;unfold szL;rw[YaG (by simp;omega),o_,YaK,F_ b,h]<;>rfl
theorem Dy{a:List RwM}{j:Nat}{w:RwM}(h:a[j]?=some w):(szL a j).set j (k_ w)=szL a (j+1):=by
 have e:=(O_.1 h).1;apply YaJ;intro i;have f:=Bg a (j:=j) (by omega);by_cases c:i=j
 ·subst c;rw[YaA (by omega),RO h (by omega)]
 ·rw[YaC (by omega)];unfold szL;by_cases b:i<j
  ·rw[YaG (by simp;omega),YaG (by simp;omega),o_,o_,YaK,YaK,F_ b,F_ (by omega)]
  ·rw[YaE (by simp;omega),YaE (by simp;omega),YaO,YaO];simp only[List.length_map,List.length_take];by_cases d:i<a.length
   ·rw[F_ (by omega),F_ (by omega)]
   ·rw[D_ (by omega),D_ (by omega)]
abbrev pSz(b n:Nat)(xs:List Int):Pc:=pS tPl 3 (T_ b) n n xs
theorem AeB{S:Nat→Prop}{H:Aa}{na:Option Addr}{nc:Nat}{ds:List p_}{r:List RwM}(hS:∀k,S k→k<H.size)(hR:Raw ds r)(hl:ds.length≤16777216)(hd:g_ tRn S H na nc ds):
  Ak prog 82 #[.slice na ds.length nc] H (fun v H'=>∃b,v= .slice (T_ b) ds.length ds.length∧St H H' [pSz b ds.length (szL r r.length)]):=by
 have W:=hR.len;refine Ak.of_vc func82 rfl (call82 _) (AbF (T:=tPl) (v:=0) (S:=none_) AU ⟨rfl,BX (x:=0) (by decide)⟩ (by omega) rfl (by omega) (by omega) ?_);intro b H1 hb a5 a2 a6;rw[U']at a2 ⊢;have st1:St H H1 [pSz b ds.length (szL r 0)]:=by
  have:=(St.nil H).new (T:=tPl) (n:=ds.length) (xs:=AkD r.length (0:Int)) hb a5 a2 a6 (by rw[W];exact EF (T:=tPl) (c:=[A_ 0]) ⟨rfl,BX (x:=0) (by decide)⟩ _) (by simp[W]) (by unfold maxLen;omega);unfold szL;simpa using this
 have ah:r.length≤16777216:=by omega
 (conv=>whnf);refine A0.mk [4] (fun j:Nat=>[A_ j]) (fun j G=>j≤r.length∧St H G [pSz b ds.length (szL r j)]) (fun j _=>r.length-j) ?_ ?_
 ·(conv=>whnf);exact⟨0,rfl,by omega,st1⟩
 ·rintro j G ai ⟨u,l⟩;have hv:(r.length:Int)=(ds.length:Int):=by rw[W]
  refine AG.m2 (fun hz=>?_) (fun hz=>?_)
  ·have o:j<r.length:=by omega
   obtain⟨w,U⟩:∃w,r[j]?=some w:=⟨_,List.getElem?_eq_getElem o⟩;have⟨d,us,vs,a7,a8,aj,M⟩:=hR.at_ U;have ak:=Bg r u;have C:∀{i:Nat} {a:RwM},us[i]?=some a→(szL r j)[i]?=some (k_ a)∧i<r.length:=fun{i a} h=>by
    have hi:=(O_.1 h).1;have:r[i]?=some a:=by rw[a8];exact HA h
    exact⟨RO this (by omega),by omega⟩
   have D:∀{G':Aa} {S0:Nat→Prop} {K:v_→Prop},St H G' [pSz b ds.length (szL r j)]→(∀Z o2,Be G' Z o2 (X_ d)→H_ G' Z→K (.pointer (some ⟨Z,o2,none⟩)))→AJ prog (Instr.indexAt 54 (.slice na ds.length nc) (.int .i64 (j:Int))) S0 G' K:=fun st k=>by
    refine ixr (i:=j) EZ (hd.frame (st.old.mono hS)) a7 rfl ?_;rintro Z o2 c2 a9 a0 ⟨rfl,am⟩;exact k Z o2 a0 (st.up (hS Z a9))
   refine An.run (An.run (D l fun Z o2 a0 ao=>(f_ BI (G_ (v:=A_ d.op) E_ (a0 0 _ (DN d)) trivial ?_))));cases w with
   | eps=>
     obtain rfl:d=AA 0 0 0:=M;(conv=>whnf);try (refine An.run ?_)
     (conv=>whnf);try (refine An.run ?_)
     refine D l fun b3 o3 B V=>(f_ BI (G_ (v:=A_ (AA 0 0 0).op) E_ (B 0 _ (DN _)) trivial ?_));(conv=>whnf);try (refine An.run ?_)
     refine ixE (T:=tPl) (j:=j) AU l 0 rfl (by rw[Bg r u];exact o) rfl ?_;refine GA (T:=tPl) (j:=j) (x:=1) l 0 E_ rfl rfl (L' _) (by rw[Bg r u];exact o) rfl (fun _ _=>⟨rfl,BX (x:=1) (by decide)⟩) fun G3 t=>?_;(conv=>whnf);try (refine An.run ?_)
     refine ixO (j:=j) (x:=(1:Int)) AU t 0 rfl (by exact YaA (by rw[Bg r u];exact o)) rfl fun N O y z p q=>?_;obtain⟨rfl,-⟩:=q;refine lT (v:=A_ 1) E_ p.one ?_;(conv=>whnf);rw[P_ j (by omega)];refine⟨rfl,j+1,rfl,⟨by omega,?_⟩,by omega⟩;have e:(1:Int)=k_ (.eps):=by unfold k_;show(1:Int)=((S_ (RwM.eps).den:Nat):Int);rw[show S_ (RwM.eps).den=1 from rfl];rfl
     have g:=t;replace g:St H _ [pSz b ds.length ((szL r j).set j 1)]:=g;rw[e,Dy U]at g;exact g
   | cls s=>
     obtain rfl:d=DG s:=M;(conv=>whnf);try (refine An.run ?_)
     (conv=>whnf);try (refine An.run ?_)
     refine D l fun b3 o3 B V=>(f_ BI (G_ (v:=A_ (DG s).op) E_ (B 0 _ (DN _)) trivial ?_));(conv=>whnf);try (refine An.run ?_)
     refine ixE (T:=tPl) (j:=j) AU l 0 rfl (by rw[Bg r u];exact o) rfl ?_;refine GA (T:=tPl) (j:=j) (x:=1) l 0 E_ rfl rfl (L' _) (by rw[Bg r u];exact o) rfl (fun _ _=>⟨rfl,BX (x:=1) (by decide)⟩) fun G3 t=>?_;(conv=>whnf);try (refine An.run ?_)
     refine ixO (j:=j) (x:=(1:Int)) AU t 0 rfl (by exact YaA (by rw[Bg r u];exact o)) rfl fun N O y z p q=>?_;obtain⟨rfl,-⟩:=q;refine lT (v:=A_ 1) E_ p.one ?_;(conv=>whnf);rw[P_ j (by omega)];refine⟨rfl,j+1,rfl,⟨by omega,?_⟩,by omega⟩;have e:(1:Int)=k_ (.cls s):=by unfold k_;show(1:Int)=((S_ (RwM.cls s).den:Nat):Int);rw[show S_ (RwM.cls s).den=1 from rfl];rfl
     have g:=t;replace g:St H _ [pSz b ds.length ((szL r j).set j 1)]:=g;rw[e,Dy U]at g;exact g
   | cat a c=>
     obtain⟨E,P,rfl,F,Q⟩:=M;have⟨g1,l1⟩:=C F;have⟨g2,l2⟩:=C Q;have za:=F7 a.den;have zc:=F7 c.den;have A:S_ (RwM.cat a c).den=min (1+S_ a.den+S_ c.den) 2001:=Nu .cat a.den c.den;(conv=>whnf);try (refine An.run ?_)
     refine D l fun b3 o3 B V=>(f_ Ci (G_ (v:=A_ E) E_ (B 257 _ (Jr _)) trivial (ixO (j:=E) (x:=k_ a) AU l 0 rfl g1 rfl fun N O y z p q=>?_)));obtain⟨rfl,-⟩:=q;refine lT (v:=A_ (k_ a)) E_ p.one ?_;(conv=>whnf);try (refine An.run ?_)
     refine D l fun b4 o4 I Y=>(f_ BI (G_ (v:=A_ (AA 2 (E:Int) (P:Int)).op) E_ (I 0 _ (DN _)) trivial ?_));(conv=>whnf);try (refine An.run ?_)
     (conv=>whnf);rw[w64 (x:=1+k_ a) (by unfold k_;omega) (by unfold k_;omega)];refine D l fun b5 o5 J X=>(f_ Ej (G_ (v:=A_ P) E_ (J 258 _ (RH _)) trivial (ixO (j:=P) (x:=k_ c) AU l 0 rfl g2 rfl fun N O y z p q=>?_)));obtain⟨rfl,-⟩:=q;refine lT (v:=A_ (k_ c)) E_ p.one ?_;(conv=>whnf);rw[w64 (x:=1+k_ a+k_ c) (by unfold k_;omega) (by unfold k_;omega)];rw[show 1+k_ a+k_ c=((1+S_ a.den+S_ c.den:Nat):Int) by unfold k_;omega];refine ixE (T:=tPl) (j:=j) AU l 0 rfl (by rw[Bg r u];exact o) rfl ?_;refine GA (T:=tPl) (j:=j) (x:=((1+S_ a.den+S_ c.den:Nat):Int)) l 0 E_ rfl rfl (L' _) (by rw[Bg r u];exact o) rfl (fun _ _=>⟨rfl,BX (by omega)⟩) fun G3 t=>?_;(conv=>whnf);try (refine An.run ?_)
     refine ixO (j:=j) (x:=(((1+S_ a.den+S_ c.den:Nat):Int):Int)) AU t 0 rfl (by exact YaA (by rw[Bg r u];exact o)) rfl fun N O y z p q=>?_;obtain⟨rfl,-⟩:=q;refine lT (v:=A_ ((((1+S_ a.den+S_ c.den:Nat):Int):Int))) E_ p.one ?_;by_cases R:2001<1+S_ a.den+S_ c.den
     ·have L:decide (2001<(((1+S_ a.den+S_ c.den:Nat):Int):Int))=true:=e_;(conv=>whnf);rw[L];refine ixE (T:=tPl) (j:=j) AU t 0 rfl (by rw[YaH,Bg r u];exact o) rfl ?_;refine GA (T:=tPl) (j:=j) (x:=2001) t 0 E_ rfl rfl (L' _) (by rw[YaH,Bg r u];exact o) rfl (fun _ _=>⟨rfl,BX (x:=2001) (by decide)⟩) fun G8 g=>?_;(conv=>whnf);rw[P_ j (by omega)];refine⟨rfl,j+1,rfl,⟨by omega,?_⟩,by omega⟩;have e:(2001:Int)=k_ (.cat a c):=by unfold k_;rw[A];omega
      replace g:St H G8 [pSz b ds.length (((szL r j).set j ((1+S_ a.den+S_ c.den:Nat):Int)).set j 2001)]:=g;rw[Ycb,e,Dy U]at g;exact g
     ·have L:decide (2001<(((1+S_ a.den+S_ c.den:Nat):Int):Int))=false:=V_;(conv=>whnf);rw[L];(conv=>whnf);rw[P_ j (by omega)];refine⟨rfl,j+1,rfl,⟨by omega,?_⟩,by omega⟩;have e:(((1+S_ a.den+S_ c.den:Nat):Int):Int)=k_ (.cat a c):=by unfold k_;rw[A];omega
      have g:=t;replace g:St H _ [pSz b ds.length ((szL r j).set j ((1+S_ a.den+S_ c.den:Nat):Int))]:=g;rw[e,Dy U]at g;exact g
   | alt a c=>
     obtain⟨E,P,rfl,F,Q⟩:=M;have⟨g1,l1⟩:=C F;have⟨g2,l2⟩:=C Q;have za:=F7 a.den;have zc:=F7 c.den;have A:S_ (RwM.alt a c).den=min (1+S_ a.den+S_ c.den) 2001:=Nu .alt a.den c.den;(conv=>whnf);try (refine An.run ?_)
     refine D l fun b3 o3 B V=>(f_ Ci (G_ (v:=A_ E) E_ (B 257 _ (Jr _)) trivial (ixO (j:=E) (x:=k_ a) AU l 0 rfl g1 rfl fun N O y z p q=>?_)));obtain⟨rfl,-⟩:=q;refine lT (v:=A_ (k_ a)) E_ p.one ?_;(conv=>whnf);try (refine An.run ?_)
     refine D l fun b4 o4 I Y=>(f_ BI (G_ (v:=A_ (AA 3 (E:Int) (P:Int)).op) E_ (I 0 _ (DN _)) trivial ?_));(conv=>whnf);try (refine An.run ?_)
     (conv=>whnf);rw[w64 (x:=1+k_ a) (by unfold k_;omega) (by unfold k_;omega)];refine D l fun b5 o5 J X=>(f_ Ej (G_ (v:=A_ P) E_ (J 258 _ (RH _)) trivial (ixO (j:=P) (x:=k_ c) AU l 0 rfl g2 rfl fun N O y z p q=>?_)));obtain⟨rfl,-⟩:=q;refine lT (v:=A_ (k_ c)) E_ p.one ?_;(conv=>whnf);rw[w64 (x:=1+k_ a+k_ c) (by unfold k_;omega) (by unfold k_;omega)];rw[show 1+k_ a+k_ c=((1+S_ a.den+S_ c.den:Nat):Int) by unfold k_;omega];refine ixE (T:=tPl) (j:=j) AU l 0 rfl (by rw[Bg r u];exact o) rfl ?_;refine GA (T:=tPl) (j:=j) (x:=((1+S_ a.den+S_ c.den:Nat):Int)) l 0 E_ rfl rfl (L' _) (by rw[Bg r u];exact o) rfl (fun _ _=>⟨rfl,BX (by omega)⟩) fun G3 t=>?_;(conv=>whnf);try (refine An.run ?_)
     refine ixO (j:=j) (x:=(((1+S_ a.den+S_ c.den:Nat):Int):Int)) AU t 0 rfl (by exact YaA (by rw[Bg r u];exact o)) rfl fun N O y z p q=>?_;obtain⟨rfl,-⟩:=q;refine lT (v:=A_ ((((1+S_ a.den+S_ c.den:Nat):Int):Int))) E_ p.one ?_;by_cases R:2001<1+S_ a.den+S_ c.den
     ·have L:decide (2001<(((1+S_ a.den+S_ c.den:Nat):Int):Int))=true:=e_;(conv=>whnf);rw[L];refine ixE (T:=tPl) (j:=j) AU t 0 rfl (by rw[YaH,Bg r u];exact o) rfl ?_;refine GA (T:=tPl) (j:=j) (x:=2001) t 0 E_ rfl rfl (L' _) (by rw[YaH,Bg r u];exact o) rfl (fun _ _=>⟨rfl,BX (x:=2001) (by decide)⟩) fun G8 g=>?_;(conv=>whnf);rw[P_ j (by omega)];refine⟨rfl,j+1,rfl,⟨by omega,?_⟩,by omega⟩;have e:(2001:Int)=k_ (.alt a c):=by unfold k_;rw[A];omega
      replace g:St H G8 [pSz b ds.length (((szL r j).set j ((1+S_ a.den+S_ c.den:Nat):Int)).set j 2001)]:=g;rw[Ycb,e,Dy U]at g;exact g
     ·have L:decide (2001<(((1+S_ a.den+S_ c.den:Nat):Int):Int))=false:=V_;(conv=>whnf);rw[L];(conv=>whnf);rw[P_ j (by omega)];refine⟨rfl,j+1,rfl,⟨by omega,?_⟩,by omega⟩;have e:(((1+S_ a.den+S_ c.den:Nat):Int):Int)=k_ (.alt a c):=by unfold k_;rw[A];omega
      have g:=t;replace g:St H _ [pSz b ds.length ((szL r j).set j ((1+S_ a.den+S_ c.den:Nat):Int))]:=g;rw[e,Dy U]at g;exact g
   | and_ a c=>
     obtain⟨E,P,rfl,F,Q⟩:=M;have⟨g1,l1⟩:=C F;have⟨g2,l2⟩:=C Q;have za:=F7 a.den;have zc:=F7 c.den;have A:S_ (RwM.and_ a c).den=min (1+S_ a.den+S_ c.den) 2001:=Nu .and_ a.den c.den;(conv=>whnf);try (refine An.run ?_)
     refine D l fun b3 o3 B V=>(f_ Ci (G_ (v:=A_ E) E_ (B 257 _ (Jr _)) trivial (ixO (j:=E) (x:=k_ a) AU l 0 rfl g1 rfl fun N O y z p q=>?_)));obtain⟨rfl,-⟩:=q;refine lT (v:=A_ (k_ a)) E_ p.one ?_;(conv=>whnf);try (refine An.run ?_)
     refine D l fun b4 o4 I Y=>(f_ BI (G_ (v:=A_ (AA 5 (E:Int) (P:Int)).op) E_ (I 0 _ (DN _)) trivial ?_));(conv=>whnf);try (refine An.run ?_)
     (conv=>whnf);rw[w64 (x:=1+k_ a) (by unfold k_;omega) (by unfold k_;omega)];refine D l fun b5 o5 J X=>(f_ Ej (G_ (v:=A_ P) E_ (J 258 _ (RH _)) trivial (ixO (j:=P) (x:=k_ c) AU l 0 rfl g2 rfl fun N O y z p q=>?_)));obtain⟨rfl,-⟩:=q;refine lT (v:=A_ (k_ c)) E_ p.one ?_;(conv=>whnf);rw[w64 (x:=1+k_ a+k_ c) (by unfold k_;omega) (by unfold k_;omega)];rw[show 1+k_ a+k_ c=((1+S_ a.den+S_ c.den:Nat):Int) by unfold k_;omega];refine ixE (T:=tPl) (j:=j) AU l 0 rfl (by rw[Bg r u];exact o) rfl ?_;refine GA (T:=tPl) (j:=j) (x:=((1+S_ a.den+S_ c.den:Nat):Int)) l 0 E_ rfl rfl (L' _) (by rw[Bg r u];exact o) rfl (fun _ _=>⟨rfl,BX (by omega)⟩) fun G3 t=>?_;(conv=>whnf);try (refine An.run ?_)
     refine ixO (j:=j) (x:=(((1+S_ a.den+S_ c.den:Nat):Int):Int)) AU t 0 rfl (by exact YaA (by rw[Bg r u];exact o)) rfl fun N O y z p q=>?_;obtain⟨rfl,-⟩:=q;refine lT (v:=A_ ((((1+S_ a.den+S_ c.den:Nat):Int):Int))) E_ p.one ?_;by_cases R:2001<1+S_ a.den+S_ c.den
     ·have L:decide (2001<(((1+S_ a.den+S_ c.den:Nat):Int):Int))=true:=e_;(conv=>whnf);rw[L];refine ixE (T:=tPl) (j:=j) AU t 0 rfl (by rw[YaH,Bg r u];exact o) rfl ?_;refine GA (T:=tPl) (j:=j) (x:=2001) t 0 E_ rfl rfl (L' _) (by rw[YaH,Bg r u];exact o) rfl (fun _ _=>⟨rfl,BX (x:=2001) (by decide)⟩) fun G8 g=>?_;(conv=>whnf);rw[P_ j (by omega)];refine⟨rfl,j+1,rfl,⟨by omega,?_⟩,by omega⟩;have e:(2001:Int)=k_ (.and_ a c):=by unfold k_;rw[A];omega
      replace g:St H G8 [pSz b ds.length (((szL r j).set j ((1+S_ a.den+S_ c.den:Nat):Int)).set j 2001)]:=g;rw[Ycb,e,Dy U]at g;exact g
     ·have L:decide (2001<(((1+S_ a.den+S_ c.den:Nat):Int):Int))=false:=V_;(conv=>whnf);rw[L];(conv=>whnf);rw[P_ j (by omega)];refine⟨rfl,j+1,rfl,⟨by omega,?_⟩,by omega⟩;have e:(((1+S_ a.den+S_ c.den:Nat):Int):Int)=k_ (.and_ a c):=by unfold k_;rw[A];omega
      have g:=t;replace g:St H _ [pSz b ds.length ((szL r j).set j ((1+S_ a.den+S_ c.den:Nat):Int))]:=g;rw[e,Dy U]at g;exact g
   | minus a c=>
     obtain⟨E,P,rfl,F,Q⟩:=M;have⟨g1,l1⟩:=C F;have⟨g2,l2⟩:=C Q;have za:=F7 a.den;have zc:=F7 c.den;have A:S_ (RwM.minus a c).den=min (1+S_ a.den+S_ c.den) 2001:=Nu .minus a.den c.den;(conv=>whnf);try (refine An.run ?_)
     refine D l fun b3 o3 B V=>(f_ Ci (G_ (v:=A_ E) E_ (B 257 _ (Jr _)) trivial (ixO (j:=E) (x:=k_ a) AU l 0 rfl g1 rfl fun N O y z p q=>?_)));obtain⟨rfl,-⟩:=q;refine lT (v:=A_ (k_ a)) E_ p.one ?_;(conv=>whnf);try (refine An.run ?_)
     refine D l fun b4 o4 I Y=>(f_ BI (G_ (v:=A_ (AA 6 (E:Int) (P:Int)).op) E_ (I 0 _ (DN _)) trivial ?_));(conv=>whnf);try (refine An.run ?_)
     (conv=>whnf);rw[w64 (x:=1+k_ a) (by unfold k_;omega) (by unfold k_;omega)];refine D l fun b5 o5 J X=>(f_ Ej (G_ (v:=A_ P) E_ (J 258 _ (RH _)) trivial (ixO (j:=P) (x:=k_ c) AU l 0 rfl g2 rfl fun N O y z p q=>?_)));obtain⟨rfl,-⟩:=q;refine lT (v:=A_ (k_ c)) E_ p.one ?_;(conv=>whnf);rw[w64 (x:=1+k_ a+k_ c) (by unfold k_;omega) (by unfold k_;omega)];rw[show 1+k_ a+k_ c=((1+S_ a.den+S_ c.den:Nat):Int) by unfold k_;omega];refine ixE (T:=tPl) (j:=j) AU l 0 rfl (by rw[Bg r u];exact o) rfl ?_;refine GA (T:=tPl) (j:=j) (x:=((1+S_ a.den+S_ c.den:Nat):Int)) l 0 E_ rfl rfl (L' _) (by rw[Bg r u];exact o) rfl (fun _ _=>⟨rfl,BX (by omega)⟩) fun G3 t=>?_;(conv=>whnf);try (refine An.run ?_)
     refine ixO (j:=j) (x:=(((1+S_ a.den+S_ c.den:Nat):Int):Int)) AU t 0 rfl (by exact YaA (by rw[Bg r u];exact o)) rfl fun N O y z p q=>?_;obtain⟨rfl,-⟩:=q;refine lT (v:=A_ ((((1+S_ a.den+S_ c.den:Nat):Int):Int))) E_ p.one ?_;by_cases R:2001<1+S_ a.den+S_ c.den
     ·have L:decide (2001<(((1+S_ a.den+S_ c.den:Nat):Int):Int))=true:=e_;(conv=>whnf);rw[L];refine ixE (T:=tPl) (j:=j) AU t 0 rfl (by rw[YaH,Bg r u];exact o) rfl ?_;refine GA (T:=tPl) (j:=j) (x:=2001) t 0 E_ rfl rfl (L' _) (by rw[YaH,Bg r u];exact o) rfl (fun _ _=>⟨rfl,BX (x:=2001) (by decide)⟩) fun G8 g=>?_;(conv=>whnf);rw[P_ j (by omega)];refine⟨rfl,j+1,rfl,⟨by omega,?_⟩,by omega⟩;have e:(2001:Int)=k_ (.minus a c):=by unfold k_;rw[A];omega
      replace g:St H G8 [pSz b ds.length (((szL r j).set j ((1+S_ a.den+S_ c.den:Nat):Int)).set j 2001)]:=g;rw[Ycb,e,Dy U]at g;exact g
     ·have L:decide (2001<(((1+S_ a.den+S_ c.den:Nat):Int):Int))=false:=V_;(conv=>whnf);rw[L];(conv=>whnf);rw[P_ j (by omega)];refine⟨rfl,j+1,rfl,⟨by omega,?_⟩,by omega⟩;have e:(((1+S_ a.den+S_ c.den:Nat):Int):Int)=k_ (.minus a c):=by unfold k_;rw[A];omega
      have g:=t;replace g:St H _ [pSz b ds.length ((szL r j).set j ((1+S_ a.den+S_ c.den:Nat):Int))]:=g;rw[e,Dy U]at g;exact g
   | rep a m n=>
     obtain⟨E,rfl,F,a1⟩:=M;have⟨g1,l1⟩:=C F;have za:=F7 a.den;have ab:0≤n→((AS m:Nat):Int)≤n:=by intro h0;unfold AS;rcases a1 with h | h<;>split<;>omega
     have A:S_ (RwM.rep a m n).den=min (FV (S_ a.den) (AS m) n) 2001:=AeL a.den (AS m) n ab;have ap:=Ae6 za a1;(conv=>whnf);try (refine An.run ?_)
     refine D l fun b3 o3 B V=>(f_ Ci (G_ (v:=A_ E) E_ (B 257 _ (Jr _)) trivial (ixO (j:=E) (x:=k_ a) AU l 0 rfl g1 rfl fun N O y z p q=>?_)));obtain⟨rfl,-⟩:=q;refine lT (v:=A_ (k_ a)) E_ p.one ?_;(conv=>whnf);try (refine An.run ?_)
     refine D l fun b4 o4 I Y=>(f_ BI (G_ (v:=A_ (BY (E:Int) m n).op) E_ (I 0 _ (DN _)) trivial ?_));(conv=>whnf);try (refine An.run ?_)
     refine Aq.heldZ (H_ G) [15] (sq [0,1,2,3,4,5,6,7,8,9,10,11,12] (.f 13 (sq [14] (.f 15 .e)))) rfl (by kernel_rfl) (D l fun b5 o5 J X=>(f_ VS (G_ (v:=A_ m) E_ (J 259 _ (rn_m _)) X (D l fun b6 o6 ae ag=>(f_ GM (G_ (v:=A_ n) E_ (ae 260 _ (Tv _)) ag (Ah (AeO (c:=S_ a.den) za a1 G) fun G7 a3=>?_)))))));have a4:=l.call a3;refine⟨a3,?_⟩;refine ixE (T:=tPl) (j:=j) AU a4 0 rfl (by rw[Bg r u];exact o) rfl ?_;refine GA (T:=tPl) (j:=j) (x:=((FV (S_ a.den) (AS m) n:Nat):Int)) a4 0 E_ rfl rfl (L' _) (by rw[Bg r u];exact o) rfl (fun _ _=>⟨rfl,BX (by omega)⟩) fun G3 t=>?_;(conv=>whnf);try (refine An.run ?_)
     refine ixO (j:=j) (x:=(((FV (S_ a.den) (AS m) n:Nat):Int):Int)) AU t 0 rfl (by exact YaA (by rw[Bg r u];exact o)) rfl fun N O y z p q=>?_;obtain⟨rfl,-⟩:=q;refine lT (v:=A_ ((((FV (S_ a.den) (AS m) n:Nat):Int):Int))) E_ p.one ?_;by_cases R:2001<FV (S_ a.den) (AS m) n
     ·have L:decide (2001<(((FV (S_ a.den) (AS m) n:Nat):Int):Int))=true:=e_;(conv=>whnf);rw[L];refine ixE (T:=tPl) (j:=j) AU t 0 rfl (by rw[YaH,Bg r u];exact o) rfl ?_;refine GA (T:=tPl) (j:=j) (x:=2001) t 0 E_ rfl rfl (L' _) (by rw[YaH,Bg r u];exact o) rfl (fun _ _=>⟨rfl,BX (x:=2001) (by decide)⟩) fun G8 g=>?_;(conv=>whnf);rw[P_ j (by omega)];refine⟨rfl,j+1,rfl,⟨by omega,?_⟩,by omega⟩;have e:(2001:Int)=k_ (.rep a m n):=by unfold k_;rw[A];omega
      replace g:St H G8 [pSz b ds.length (((szL r j).set j ((FV (S_ a.den) (AS m) n:Nat):Int)).set j 2001)]:=g;rw[Ycb,e,Dy U]at g;exact g
     ·have L:decide (2001<(((FV (S_ a.den) (AS m) n:Nat):Int):Int))=false:=V_;(conv=>whnf);rw[L];(conv=>whnf);rw[P_ j (by omega)];refine⟨rfl,j+1,rfl,⟨by omega,?_⟩,by omega⟩;have e:(((FV (S_ a.den) (AS m) n:Nat):Int):Int)=k_ (.rep a m n):=by unfold k_;rw[A];omega
      have g:=t;replace g:St H _ [pSz b ds.length ((szL r j).set j ((FV (S_ a.den) (AS m) n:Nat):Int))]:=g;rw[e,Dy U]at g;exact g
  ·obtain rfl:j=r.length:=by omega
   (conv=>whnf);exact⟨b,rfl,l⟩
abbrev reP(bb:Nat)(a:Option Addr)(c:Nat)(ns:List p_)(Az:Int)(rest:List Pc):List Pc:=pB tRe bb (reL (.slice a ns.length c) Az)::pS tRn 159 a ns.length c ns::rest
section
variable{B:Nat→Prop}{H0 H:Aa}{bb c:Nat}{a:Option Addr}{ns:List p_}{Az:Int}{rest:List Pc}
theorem Fu{op x y:Int}(st:B_ B H0 H (reP bb a c ns Az rest))(i:AO op)(k:AO x)(l:AO y)(A:ns.length≤16777216):
  Ak prog 137 #[U_ bb,A_ op,A_ x,A_ y] H
   (fun v H'=>v= .int .i64 (ns.length:Int)∧∃a' m,B_ B H0 H' (reP bb a' m (ns++[AA op x y]) Az rest)):=by
 refine Ak.of_vc func137 rfl (call137 _) (f_ F1 ?_);refine lT (v:=.slice a ns.length c) DZ ((st.blk 0 rfl).ce rfl) ?_;refine Qj op x y (Ay EZ (X_ (AA op x y)) rfl (AV _) (by decide) (by decide) ?_);intro z H1 n p e f;have st1:=st.skip n f;refine Kj (ys:=[AA op x y]) st1 1 EZ rfl (e.cells (o:=0) (cs:=X_ (AA op x y)) fun j v q=>by rw[K_];exact q) (Ty.reps_one ⟨rfl,YF i k l⟩) rfl (fun u r=>Ybl.1 (CP _) u r) (by simp[maxLen];omega) (by simp;omega) fun g h H9 d s=>?_;have t:ns.length+[AA op x y].length=(ns++[AA op x y]).length:=by simp
 rw[t]at d ⊢;refine f_ F1 (Bh d 0 DZ rfl (show 0<2 by decide) rfl fun H10 b=>(f_ F1 ?_));refine lT (v:=.slice g (ns++[AA op x y]).length h) DZ ((b.blk 0 rfl).ce rfl) ?_;have w:IntKind.wrap .i64 (((ns++[AA op x y]).length:Int)-1)=(ns.length:Int):=by
  rw[J_,h_,w64 (by omega) (by omega)];omega
 (conv=>whnf);rw[w];(conv=>whnf);exact⟨rfl,g,h,b⟩
def WS(r:ReM)(ms:List p_):Prop:=r.plain=true→∀d∈ms,d.op≠5∧d.op≠6
structure GrP(B:Nat→Prop)(H0:Aa)(bb:Nat)(Az:Int)(rest:List Pc)(ns:List p_)(r:ReM)(v:v_)(H':Aa):Prop where
 ex:∃(ms:List p_) (a':Option Addr) (c':Nat),ms.length=r.nodes∧WS r ms∧v= .int .i64 ((ns.length+ms.length-1:Nat):Int)∧BA (ns++ms) r (ns.length+ms.length-1)∧B_ B H0 H' (reP bb a' c' (ns++ms) Az rest)
def TV(w:RwM):Prop:=∀(B:Nat→Prop) (H0 H:Aa) (bb c:Nat) (a:Option Addr) (ns:List p_) (Az:Int) (rest:List Pc) (na:Option Addr) (nc i:Nat) (ds:List p_) (ws:List RwM),Raw ds ws→g_ tRn B H0 na nc ds→(∀k,B k→k<H0.size)→ws[i]?=some w→
 ns.length+w.den.nodes≤4194304→B_ B H0 H (reP bb a c ns Az rest)→
 Ak prog 83 #[.slice na ds.length nc,A_ i,U_ bb] H (GrP B H0 bb Az rest ns w.den)
theorem Bn(r:ReM):1≤r.nodes:=by cases r<;>simp[ReM.nodes]<;>omega
theorem Ng{α:Type}(l:List α)(x:α):(l++[x])[l.length]?=some x:=by simp
theorem BJ{n:Nat}(h:n≤4194304):AO (n:Int):=by unfold AO;omega
theorem O3{w:RwM}(IH:TV w){na:Option Addr}{nc i:Nat}{ds:List p_}{g:List RwM}(o:Raw ds g)(f:g_ tRn B H0 na nc ds)(p:∀k,B k→k<H0.size)(q:g[i]?=some w)(v:ns.length+w.den.nodes+2≤4194304)(st:B_ B H0 H (reP bb a c ns Az rest)):
  Ak prog 174 #[.slice na ds.length nc,A_ i,U_ bb] H (GrP B H0 bb Az rest ns (Bm w.den)):=by
 refine Ak.of_vc func174 rfl (call174 _) (Ae.mk (IH B H0 H bb c a ns Az rest na nc i ds g o f p q (by omega) st) ?_);rintro _ H1 ⟨b,z,A,r,h,rfl,s,st1⟩;have n:=Bn w.den;refine Ae.mk (Fu (op:=0) (x:=0) (y:=0) st1 (by unfold AO;omega) (by unfold AO;omega) (by unfold AO;omega) (by simp;omega)) ?_;rintro _ H2 ⟨rfl,C,D,j⟩;refine Ae.mk (Fu (op:=3) (x:=((ns.length+b.length-1:Nat):Int)) (y:=((ns++b).length:Int)) j (by unfold AO;omega) (BJ (by omega)) (BJ (by simp;omega)) (by simp;omega)) ?_;rintro _ H3 ⟨rfl,t,u,l⟩;(conv=>whnf);refine⟨b++[AA 0 0 0]++[AA 3 ((ns.length+b.length-1:Nat):Int) ((ns++b).length:Int)],t,u,?_,?_,?_,?_,?_⟩
 ·simp[Bm,ReM.nodes,r];omega
 ·intro n d f;have m:w.den.plain=true:=by simpa [Bm,ReM.plain]using n
  simp only[q_,Y_]at f;rcases f with(f | rfl) | rfl
  ·exact h m d f
  ·exact⟨show(0:Int)≠5 by decide,show(0:Int)≠6 by decide⟩
  ·exact⟨show(3:Int)≠5 by decide,show(3:Int)≠6 by decide⟩
 ·congr 1;simp only[J_,h_];omega
 ·have e:ns++(b++[AA 0 0 0]++[AA 3 ((ns.length+b.length-1:Nat):Int) ((ns++b).length:Int)])=((ns++b)++[AA 0 0 0])++[AA 3 ((ns.length+b.length-1:Nat):Int) ((ns++b).length:Int)]:=by simp[YaN]
  rw[e];refine⟨AA 3 ((ns.length+b.length-1:Nat):Int) ((ns++b).length:Int),ns.length+b.length-1,(ns++b).length,?_,rfl,rfl,rfl,s.more.more,⟨AA 0 0 0,HA (Ng _ _),rfl⟩⟩;have:=Ng ((ns++b)++[AA 0 0 0]) (AA 3 ((ns.length+b.length-1:Nat):Int) ((ns++b).length:Int));rw[show ns.length+(b++[AA 0 0 0]++[AA 3 ((ns.length+b.length-1:Nat):Int) ((ns++b).length:Int)]).length-1=((ns++b)++[AA 0 0 0]).length by simp only[J_,h_];omega];exact this
 ·have e:ns++(b++[AA 0 0 0]++[AA 3 ((ns.length+b.length-1:Nat):Int) ((ns++b).length:Int)])=((ns++b)++[AA 0 0 0])++[AA 3 ((ns.length+b.length-1:Nat):Int) ((ns++b).length:Int)]:=by simp[YaN]
  rw[e];exact l
end
def rO(r:ReM)(m k:Nat):ReM:=(BZ r m k).getD .eps
theorem LS(r:ReM)(m:Nat):rO r m 1=if 0<m then r else Bm r:=rfl
theorem Ik(r:ReM)(m k:Nat)(h:1≤k):rO r m (k+1)= .cat (rO r m k) (if k<m then r else Bm r):=D1 r m k h
theorem RC(r:ReM)(m:Nat){k:Nat}(h:1≤k):∀j,(rO r m k).nodes≤(rO r m (k+j)).nodes
 | 0=>I_ _
 | j+1=>by
   have a:=RC r m h j;have e:(rO r m (k+(j+1))).nodes=1+(rO r m (k+j)).nodes+(if k+j<m then r else Bm r).nodes:=by
    rw[show k+(j+1)=(k+j)+1 by omega,Ik r m (k+j) (by omega)];rfl
   omega
section
variable{B:Nat→Prop}{H0 H:Aa}{bb c:Nat}{a:Option Addr}{ns:List p_}{Az:Int}{rest:List Pc}
structure UnI(B:Nat→Prop)(H0:Aa)(bb:Nat)(Az:Int)(rest:List Pc)(ns:List p_)(r:ReM)(m k:Nat)(out:Int)(G:Aa):Prop where
 ex:∃(ms:List p_) (a:Option Addr) (c:Nat),(k=0→ms=[]∧out= -1)∧(0<k→ms.length=(rO r m k).nodes∧WS (rO r m k) ms∧out=((ns.length+ms.length-1:Nat):Int)∧BA (ns++ms) (rO r m k) (ns.length+ms.length-1))∧B_ B H0 G (reP bb a c (ns++ms) Az rest)
theorem Ff{g r2:ReM}{a b:List p_}{op:Int}{R:ReM}{G:Aa}{a':Option Addr}{c':Nat}(i:a.length=g.nodes)(l:WS g a)(m:b.length=r2.nodes)(n:WS r2 b)(o:R.plain=true→g.plain=true∧r2.plain=true∧op≠5∧op≠6)
  (y:R.nodes=1+g.nodes+r2.nodes)
  (p:∀c d j k,c[ns.length+(a++b++[d]).length-1]?=some d→d=AA op ((j:Nat):Int) ((k:Nat):Int)→BA c g j→BA c r2 k→BA c R (ns.length+(a++b++[d]).length-1))
  (q:BA (ns++a) g (ns.length+a.length-1)) (r:BA (ns++a++b) r2 ((ns++a).length+b.length-1))
  (st:B_ B H0 G (reP bb a' c' (ns++a++b++[AA op ((ns.length+a.length-1:Nat):Int) (((ns++a).length+b.length-1:Nat):Int)]) Az rest)):
  GrP B H0 bb Az rest ns R (.int .i64 ((ns++a++b).length:Int)) G:=by
 have p1:=Bn g;have p2:=Bn r2;obtain⟨d,h⟩:∃d,d=AA op ((ns.length+a.length-1:Nat):Int) (((ns++a).length+b.length-1:Nat):Int):=⟨_,rfl⟩;rw[←h]at st;have e:ns++(a++b++[d])=ns++a++b++[d]:=by simp[YaN]
 refine⟨a++b++[d],a',c',?_,?_,?_,?_,?_⟩
 ·simp only[J_,h_,i,m];omega
 ·intro s x f;have⟨t,u,v,w⟩:=o s;simp only[q_,Y_]at f;rcases f with(f | f) | f
  ·exact l t x f
  ·exact n u x f
  ·rw[f,h];exact⟨v,w⟩
 ·congr 1;simp only[J_,h_];omega
 ·rw[e];refine p _ d _ _ ?_ h q.more.more r.more;rw[show ns.length+(a++b++[d]).length-1=(ns++a++b).length by simp only[J_,h_];omega];exact Ng _ _
 ·rw[e];exact st
theorem Ob{b:ReM}{a:List p_}{G:Aa}{a':Option Addr}{c':Nat}(d:a.length=b.nodes)(f:WS b a)(g:BA (ns++a) b (ns.length+a.length-1))
  (st:B_ B H0 G (reP bb a' c' (ns++a++[AA 4 ((ns.length+a.length-1:Nat):Int) 0]) Az rest)):
  GrP B H0 bb Az rest ns (.star b) (.int .i64 ((ns++a).length:Int)) G:=by
 have p1:=Bn b;have e:ns++(a++[AA 4 ((ns.length+a.length-1:Nat):Int) 0])=ns++a++[AA 4 ((ns.length+a.length-1:Nat):Int) 0]:=by simp[YaN]
 refine⟨a++[AA 4 ((ns.length+a.length-1:Nat):Int) 0],a',c',?_,?_,?_,?_,?_⟩
 ·simp only[J_,h_,d,ReM.nodes];omega
 ·intro h x c;simp only[q_,Y_]at c;rcases c with c | rfl
  ·exact f h x c
  ·exact⟨show(4:Int)≠5 by decide,show(4:Int)≠6 by decide⟩
 ·congr 1;simp only[J_,h_];omega
 ·rw[e];refine⟨AA 4 ((ns.length+a.length-1:Nat):Int) 0,ns.length+a.length-1,?_,rfl,rfl,g.more⟩;rw[show ns.length+(a++[AA 4 ((ns.length+a.length-1:Nat):Int) 0]).length-1=(ns++a).length by simp only[J_,h_];omega];exact Ng _ _
 ·rw[e];exact st
theorem Wk{G:Aa}{a':Option Addr}{c':Nat}(st:B_ B H0 G (reP bb a' c' (ns++[AA 0 0 0]) Az rest)):GrP B H0 bb Az rest ns .eps (.int .i64 (ns.length:Int)) G:=
 ⟨[AA 0 0 0],a',c',rfl,fun _ x a=>by rcases Y_.1 a with rfl;exact⟨show(0:Int)≠5 by decide,show(0:Int)≠6 by decide⟩,by simp,⟨AA 0 0 0,by simp,rfl⟩,st⟩
theorem GrP.drop{b:List Pc}{r:ReM}{v:v_}{G:Aa}(h:GrP B H0 bb Az (rest++b) ns r v G):GrP B H0 bb Az rest ns r v G:=by
 have⟨a,c,d,e,hs,f,g,st⟩:=h;exact⟨a,c,d,e,hs,f,g,st.subl (List.Sublist.cons_cons _ (List.Sublist.cons_cons _ (List.sublist_append_left _ _)))⟩
theorem Ab7{w:RwM}(IH:TV w){na:Option Addr}{nc i:Nat}{ds:List p_}{ws:List RwM}{m n:Int}(hR:Raw ds ws)(hd:g_ tRn B H0 na nc ds)(hB:∀k,B k→k<H0.size)(hw:ws[i]?=some w)(W:V4 m n)(hl:ns.length+(Cf w.den (AS m) n).nodes≤4194304)(st:B_ B H0 H (reP bb a c ns Az rest)):
  Ak prog 136 #[.slice na ds.length nc,.agg (X_ (BY (i:Int) m n)).toArray,U_ bb] H (GrP B H0 bb Az rest ns (Cf w.den (AS m) n)):=by
 have b5:AS m≤255:=by unfold AS;split<;>rcases W with h | h<;>omega
 have ay:n≤255:=by rcases W with h | h<;>omega
 have az: -1≤n:=by rcases W with h | h<;>omega
 have b6:0≤n→((AS m:Nat):Int)≤n:=by intro V;unfold AS;rcases W with h | h<;>split<;>omega
 have b0:=Bn w.den;refine Ak.of_vc func136 rfl (call136 _) (Ct (X_ (BY (i:Int) m n)) rfl ?_);intro x H1 hx p am ao;have st1:=st.box hx p am ao;replace st1:B_ B H0 H1 (reP bb a c ns Az (rest++[pB 159 x (X_ (BY (i:Int) m n))])):=st1;refine f_ VS ?_;refine G_ (v:=A_ m) E_ (by rw[(st1.blk _ (M_ (_::_::rest) _ 0)).cell,K_];exact rn_m _) trivial ?_;(conv=>whnf);refine An.cut [7] (fun _:Unit=>[A_ ((AS m:Nat):Int)]) (fun _ G=>B_ B H0 G (reP bb a c ns Az (rest++[pB 159 x (X_ (BY (i:Int) m n))]))) ?_ ?_
 ·by_cases C:m= -2
  ·subst C;(conv=>whnf);exact⟨rfl,(),rfl,st1⟩
  ·have l:(m== -2)=false:=beq_eq_false_iff_ne.2 C;(conv=>whnf);rw[l];(conv=>whnf);refine⟨rfl,(),?_,st1⟩;have:((AS m:Nat):Int)=m:=by
    unfold AS;rw[D_ C];have:0≤m:=by rcases W with h | h<;>omega
    omega
   rw[this]
 rintro⟨⟩ G b4 A;clear st st1 am ao;refine f_ GM ?_;refine G_ (v:=A_ n) E_ (by rw[(A.blk _ (M_ (_::_::rest) _ 0)).cell,K_];exact Tv _) trivial ?_;(conv=>whnf);by_cases b:n<0
 ·have l:decide (n<0)=true:=n_ b;rw[l];by_cases V:AS m=0
  ·have g:Cf w.den (AS m) n= .star w.den:=by unfold Cf;rw[F_ b,F_ V]
   rw[g]at hl ⊢;simp only[ReM.nodes]at hl;have d2:(((AS m:Nat):Int)==0)=true:=by rw[V];rfl
   (conv=>whnf);rw[d2];refine f_ Ci ?_;refine G_ (v:=A_ i) E_ (by rw[(A.blk _ (M_ (_::_::rest) _ 0)).cell,K_];exact Jr _) trivial ?_;refine Ae.mk (IH B H0 _ bb _ _ (ns) Az (rest++[pB 159 x (X_ (BY (i:Int) m n))]) na nc i ds ws hR hd hB hw (by omega) A) ?_;rintro _ G1 ⟨Q,a1,c1,q,p,rfl,s,ap⟩;refine Ae.mk (Fu (op:=4) (x:=((ns.length+Q.length-1:Nat):Int)) (y:=0) ap (by unfold AO;omega) (BJ (by omega)) (by unfold AO;omega) (by simp;omega)) ?_;rintro _ G2 ⟨rfl,a2,c2,aq⟩;(conv=>whnf);exact(Ob q p s aq).drop
  ·have d2:(((AS m:Nat):Int)==0)=false:=beq_eq_false_iff_ne.2 (by omega);(conv=>whnf);rw[d2];have ar:¬(n<0∧AS m=0):=fun h=>V h.2;clear l d2;refine f_ GM ?_;refine G_ (v:=A_ n) E_ (by rw[(A.blk _ (M_ (_::_::rest) _ 0)).cell,K_];exact Tv _) trivial ?_;(conv=>whnf);by_cases V:n=0
   ·have l:(n==0)=true:=by rw[V];rfl
    have g:Cf w.den (AS m) n= .eps:=by unfold Cf;rw[D_ (by omega),F_ V]
    rw[g]at hl ⊢;simp only[ReM.nodes]at hl;rw[l];refine Ae.mk (Fu (op:=0) (x:=0) (y:=0) A (by unfold AO;omega) (by unfold AO;omega) (by unfold AO;omega) (by omega)) ?_;rintro _ G3 ⟨rfl,a2,c2,D⟩;(conv=>whnf);exact(Wk D).drop
   ·have l:(n==0)=false:=beq_eq_false_iff_ne.2 V;rw[l];have X:n≠0:=V;have D:=A;clear A;obtain⟨K,O⟩:∃K:Nat,K=if n<0 then AS m else n.toNat:=⟨_,rfl⟩
    have au:1≤K:=by rw[O];split<;>omega
    have aw:K≤255:=by rw[O];split<;>omega
    have ax:(rO w.den (AS m) K).nodes≤(Cf w.den (AS m) n).nodes:=by
     unfold Cf;by_cases b:n<0
     ·rw[F_ b,D_ (by omega),O,F_ b];show _≤1+((BZ w.den (AS m) (AS m)).getD .eps).nodes+_;unfold rO;omega
     ·rw[D_ b,D_ X,O,D_ b];exact I_ _
    refine f_ GM ?_;refine G_ (v:=A_ n) E_ (by rw[(D.blk _ (M_ (_::_::rest) _ 0)).cell,K_];exact Tv _) trivial ?_;(conv=>whnf);refine An.cut [8] (fun _:Unit=>[A_ K]) (fun _ G=>B_ B H0 G (reP bb a c ns Az (rest++[pB 159 x (X_ (BY (i:Int) m n))]))) ?_ ?_
    ·(conv=>whnf);by_cases b:n<0
     ·have l:decide (n<0)=true:=n_ b;rw[l];(conv=>whnf);exact⟨rfl,(),by rw[O,F_ b],D⟩
     ·have l:decide (n<0)=false:=j_ b;rw[l];(conv=>whnf);exact⟨rfl,(),by rw[O,D_ b,Ycs (by omega)],D⟩
    rintro⟨⟩ G4 a5 Y;clear D;(conv=>whnf);refine A0.mk [9,10] (fun y:Nat×Int=>match y with | (k,out)=>[A_ out,A_ k]) (fun y G=>match y with | (k,out)=>k≤K∧UnI B H0 bb Az (rest++[pB 159 x (X_ (BY (i:Int) m n))]) ns w.den (AS m) k out G) (fun y _=>match y with | (k,_)=>K-k) ?_ ?_
    ·(conv=>whnf);exact⟨(0,-1),rfl,t_ _,⟨[],_,_,fun _=>⟨rfl,rfl⟩,fun h=>absurd h (by decide),by simpa using Y⟩⟩
    ·rintro⟨k,out⟩ G ab ⟨hk,⟨o,a1,c1,S,P,A⟩⟩;clear Y;have t:k<K→(rO w.den (AS m) (k+1)).nodes≤(Cf w.den (AS m) n).nodes:=fun h=>by
      have:=RC w.den (AS m) (k:=k+1) (by omega) (K-(k+1));rw[show k+1+(K-(k+1))=K by omega]at this;omega
     have f:k<K→(ns++o).length+(if k<AS m then w.den else Bm w.den).nodes≤4194304:=fun h=>by
      have b:=t h;by_cases r:k=0
      ·obtain⟨rfl,-⟩:=S r;subst r;rw[LS]at b;simp only[YaX];omega
      ·obtain⟨q,-,-,-⟩:=P (by omega);rw[Ik _ _ _ (by omega)]at b;simp only[ReM.nodes]at b;simp only[J_];omega
     refine AG.m2 (fun hz=>?_) (fun hz=>?_)
     ·have Z:k<K:=by omega
      replace t:=t Z;replace f:=f Z;(conv=>whnf);try (refine An.run ?_)
      (conv=>whnf);try (refine An.run ?_)
      (conv=>whnf);by_cases E:k<AS m
      ·have l:decide ((k:Int)<((AS m:Nat):Int))=true:=e_;rw[F_ E]at f;rw[l];refine f_ Ci ?_;refine G_ (v:=A_ i) E_ (by rw[(A.blk _ (M_ (_::_::rest) _ 0)).cell,K_];exact Jr _) trivial ?_;refine Ae.mk (IH B H0 _ bb _ _ (ns++o) Az (rest++[pB 159 x (X_ (BY (i:Int) m n))]) na nc i ds ws hR hd hB hw (by omega) A) ?_;rintro _ G1 ⟨e,a2,c2,F,I,rfl,u,J⟩;have p2:=Bn (w.den);(conv=>whnf);try (refine An.run ?_)
       (conv=>whnf);by_cases r:k=0
       ·obtain⟨rfl,rfl⟩:=S r;subst r;(conv=>whnf);rw[W_ (x:=((0:Nat):Int)+1) (by omega)];have e1:rO w.den (AS m) 1=w.den:=by rw[LS];exact F_ E
        refine⟨rfl,(1,_),rfl,⟨by omega,⟨e,a2,c2,fun h=>absurd h (by decide),fun _=>?_,by simpa using J⟩⟩,by show K-1<K-0;omega⟩;rw[e1];simp only[YaX]at u;exact⟨F,I,by simp,u⟩
       ·obtain⟨q,p,rfl,s⟩:=P (by omega);have z:rO w.den (AS m) (k+1)= .cat (rO w.den (AS m) k) (w.den):=by rw[Ik _ _ _ (by omega)];rw[F_ E]
        have T:(rO w.den (AS m) (k+1)).nodes=1+(rO w.den (AS m) k).nodes+(w.den).nodes:=by rw[z];rfl
        have p1:=Bn (rO w.den (AS m) k);have L:decide (((ns.length+o.length-1:Nat):Int)<0)=false:=V_
        try rw[L]
        refine Ae.mk (Fu (op:=2) (x:=((ns.length+o.length-1:Nat):Int)) (y:=(((ns++o).length+e.length-1:Nat):Int)) J (by unfold AO;omega) (BJ (by omega)) (BJ (by simp;omega)) (by simp;omega)) ?_;rintro _ G2 ⟨rfl,a3,c3,U⟩;(conv=>whnf);rw[P_ k (by omega)];have⟨M,a4,c4,g1,gs,g2,g3,g4⟩:=Ff (R:=rO w.den (AS m) (k+1)) q p F I (fun h=>by rw[z]at h;simp only[ReM.plain,r_]at h;exact⟨h.1,h.2,by decide,by decide⟩) T (fun a0 d j k' b C h3 h4=>by rw[z];exact⟨d,j,k',b,by rw[C];rfl,by rw[C];rfl,by rw[C];rfl,h3,h4⟩) s u U;have N:((ns++o++e).length:Int)=((ns.length+M.length-1:Nat):Int):=by injection g2
        refine⟨rfl,(k+1,((ns++o++e).length:Int)),rfl,⟨by omega,⟨M,a4,c4,fun h=>absurd h (by omega),fun _=>⟨g1,gs,N,g3⟩,g4⟩⟩,by show K-(k+1)<K-k;omega⟩
      ·have l:decide ((k:Int)<((AS m:Nat):Int))=false:=V_;rw[D_ E]at f;rw[l];refine f_ Ci ?_;refine G_ (v:=A_ i) E_ (by rw[(A.blk _ (M_ (_::_::rest) _ 0)).cell,K_];exact Jr _) trivial ?_;refine Ae.mk (O3 IH hR hd hB hw (by simp only[Bm,ReM.nodes]at f;omega) A) ?_;rintro _ G1 ⟨e,a2,c2,F,I,rfl,u,J⟩;have p2:=Bn (Bm w.den);(conv=>whnf);try (refine An.run ?_)
       (conv=>whnf);by_cases r:k=0
       ·obtain⟨rfl,rfl⟩:=S r;subst r;(conv=>whnf);rw[W_ (x:=((0:Nat):Int)+1) (by omega)];have e1:rO w.den (AS m) 1=Bm w.den:=by rw[LS];exact D_ E
        refine⟨rfl,(1,_),rfl,⟨by omega,⟨e,a2,c2,fun h=>absurd h (by decide),fun _=>?_,by simpa using J⟩⟩,by show K-1<K-0;omega⟩;rw[e1];simp only[YaX]at u;exact⟨F,I,by simp,u⟩
       ·obtain⟨q,p,rfl,s⟩:=P (by omega);have z:rO w.den (AS m) (k+1)= .cat (rO w.den (AS m) k) (Bm w.den):=by rw[Ik _ _ _ (by omega)];rw[D_ E]
        have T:(rO w.den (AS m) (k+1)).nodes=1+(rO w.den (AS m) k).nodes+(Bm w.den).nodes:=by rw[z];rfl
        have p1:=Bn (rO w.den (AS m) k);have L:decide (((ns.length+o.length-1:Nat):Int)<0)=false:=V_
        try rw[L]
        refine Ae.mk (Fu (op:=2) (x:=((ns.length+o.length-1:Nat):Int)) (y:=(((ns++o).length+e.length-1:Nat):Int)) J (by unfold AO;omega) (BJ (by omega)) (BJ (by simp;omega)) (by simp;omega)) ?_;rintro _ G2 ⟨rfl,a3,c3,U⟩;(conv=>whnf);rw[P_ k (by omega)];have⟨M,a4,c4,g1,gs,g2,g3,g4⟩:=Ff (R:=rO w.den (AS m) (k+1)) q p F I (fun h=>by rw[z]at h;simp only[ReM.plain,r_]at h;exact⟨h.1,h.2,by decide,by decide⟩) T (fun a0 d j k' b C h3 h4=>by rw[z];exact⟨d,j,k',b,by rw[C];rfl,by rw[C];rfl,by rw[C];rfl,h3,h4⟩) s u U;have N:((ns++o++e).length:Int)=((ns.length+M.length-1:Nat):Int):=by injection g2
        refine⟨rfl,(k+1,((ns++o++e).length:Int)),rfl,⟨by omega,⟨M,a4,c4,fun h=>absurd h (by omega),fun _=>⟨g1,gs,N,g3⟩,g4⟩⟩,by show K-(k+1)<K-k;omega⟩
     ·obtain rfl:k=K:=by omega
      obtain⟨q,p,rfl,s⟩:=P (by omega);have p1:=Bn (rO w.den (AS m) k);(conv=>whnf);try (refine An.run ?_)
      refine f_ GM ?_;refine G_ (v:=A_ n) E_ (by rw[(A.blk _ (M_ (_::_::rest) _ 0)).cell,K_];exact Tv _) trivial ?_;(conv=>whnf);by_cases b:n<0
      ·have l:decide (n<0)=true:=n_ b;rw[F_ b]at O;have g:Cf w.den (AS m) n= .cat (rO w.den (AS m) k) (.star w.den):=by unfold Cf;rw[F_ b,D_ (by omega),O]<;>rfl
       rw[g]at hl ⊢;simp only[ReM.nodes]at hl;rw[l];refine f_ Ci ?_;refine G_ (v:=A_ i) E_ (by rw[(A.blk _ (M_ (_::_::rest) _ 0)).cell,K_];exact Jr _) trivial ?_;refine Ae.mk (IH B H0 _ bb _ _ (ns++o) Az (rest++[pB 159 x (X_ (BY (i:Int) m n))]) na nc i ds ws hR hd hB hw (by simp only[J_];omega) A) ?_;rintro _ G6 ⟨Q,a6,c6,ae,ag,rfl,ah,ai⟩;refine Ae.mk (Fu (op:=4) (x:=(((ns++o).length+Q.length-1:Nat):Int)) (y:=0) ai (by unfold AO;omega) (BJ (by simp only[J_];omega)) (by unfold AO;omega) (by simp only[J_];omega)) ?_;rintro _ G7 ⟨rfl,a7,c7,aj⟩;have⟨e,a8,c8,g1,gs,g2,g3,g4⟩:=Ob ae ag ah aj;have N:((ns++o++Q).length:Int)=(((ns++o).length+e.length-1:Nat):Int):=by injection g2
       rw[N];simp only[ReM.nodes]at g1;refine Ae.mk (Fu (op:=2) (x:=((ns.length+o.length-1:Nat):Int)) (y:=(((ns++o).length+e.length-1:Nat):Int)) g4 (by unfold AO;omega) (BJ (by omega)) (BJ (by simp only[J_];omega)) (by simp only[J_];omega)) ?_;rintro _ G8 ⟨rfl,a9,c9,ak⟩;(conv=>whnf);exact(Ff (R:=.cat (rO w.den (AS m) k) (.star w.den)) q p (r2:=.star w.den) (by simp only[ReM.nodes];exact g1) gs (fun h=>by simp only[ReM.plain,r_]at h ⊢;exact⟨h.1,h.2,by decide,by decide⟩) rfl (fun a0 d j k' b C h3 h4=>⟨d,j,k',b,by rw[C];rfl,by rw[C];rfl,by rw[C];rfl,h3,h4⟩) s g3 ak).drop
      ·have l:decide (n<0)=false:=j_ b;rw[D_ b]at O;have g:Cf w.den (AS m) n=rO w.den (AS m) k:=by unfold Cf;rw[D_ b,D_ X,O]<;>rfl
       rw[g];rw[l];(conv=>whnf);exact GrP.drop ⟨o,a1,c1,q,p,rfl,s,A⟩
 ·have l:decide (n<0)=false:=j_ b;rw[l];have ar:¬(n<0∧AS m=0):=fun h=>b h.1;clear l;refine f_ GM ?_;refine G_ (v:=A_ n) E_ (by rw[(A.blk _ (M_ (_::_::rest) _ 0)).cell,K_];exact Tv _) trivial ?_;(conv=>whnf);by_cases V:n=0
  ·have l:(n==0)=true:=by rw[V];rfl
   have g:Cf w.den (AS m) n= .eps:=by unfold Cf;rw[D_ (by omega),F_ V]
   rw[g]at hl ⊢;simp only[ReM.nodes]at hl;rw[l];refine Ae.mk (Fu (op:=0) (x:=0) (y:=0) A (by unfold AO;omega) (by unfold AO;omega) (by unfold AO;omega) (by omega)) ?_;rintro _ G3 ⟨rfl,a2,c2,D⟩;(conv=>whnf);exact(Wk D).drop
  ·have l:(n==0)=false:=beq_eq_false_iff_ne.2 V;rw[l];have X:n≠0:=V;have D:=A;clear A;obtain⟨K,O⟩:∃K:Nat,K=if n<0 then AS m else n.toNat:=⟨_,rfl⟩
   have au:1≤K:=by rw[O];split<;>omega
   have aw:K≤255:=by rw[O];split<;>omega
   have ax:(rO w.den (AS m) K).nodes≤(Cf w.den (AS m) n).nodes:=by
    unfold Cf;by_cases b:n<0
    ·rw[F_ b,D_ (by omega),O,F_ b];show _≤1+((BZ w.den (AS m) (AS m)).getD .eps).nodes+_;unfold rO;omega
    ·rw[D_ b,D_ X,O,D_ b];exact I_ _
   refine f_ GM ?_;refine G_ (v:=A_ n) E_ (by rw[(D.blk _ (M_ (_::_::rest) _ 0)).cell,K_];exact Tv _) trivial ?_;(conv=>whnf);refine An.cut [8] (fun _:Unit=>[A_ K]) (fun _ G=>B_ B H0 G (reP bb a c ns Az (rest++[pB 159 x (X_ (BY (i:Int) m n))]))) ?_ ?_
   ·(conv=>whnf);by_cases b:n<0
    ·have l:decide (n<0)=true:=n_ b;rw[l];(conv=>whnf);exact⟨rfl,(),by rw[O,F_ b],D⟩
    ·have l:decide (n<0)=false:=j_ b;rw[l];(conv=>whnf);exact⟨rfl,(),by rw[O,D_ b,Ycs (by omega)],D⟩
   rintro⟨⟩ G4 a5 Y;clear D;(conv=>whnf);refine A0.mk [9,10] (fun y:Nat×Int=>match y with | (k,out)=>[A_ out,A_ k]) (fun y G=>match y with | (k,out)=>k≤K∧UnI B H0 bb Az (rest++[pB 159 x (X_ (BY (i:Int) m n))]) ns w.den (AS m) k out G) (fun y _=>match y with | (k,_)=>K-k) ?_ ?_
   ·(conv=>whnf);exact⟨(0,-1),rfl,t_ _,⟨[],_,_,fun _=>⟨rfl,rfl⟩,fun h=>absurd h (by decide),by simpa using Y⟩⟩
   ·rintro⟨k,out⟩ G ab ⟨hk,⟨o,a1,c1,S,P,A⟩⟩;clear Y;have t:k<K→(rO w.den (AS m) (k+1)).nodes≤(Cf w.den (AS m) n).nodes:=fun h=>by
     have:=RC w.den (AS m) (k:=k+1) (by omega) (K-(k+1));rw[show k+1+(K-(k+1))=K by omega]at this;omega
    have f:k<K→(ns++o).length+(if k<AS m then w.den else Bm w.den).nodes≤4194304:=fun h=>by
     have b:=t h;by_cases r:k=0
     ·obtain⟨rfl,-⟩:=S r;subst r;rw[LS]at b;simp only[YaX];omega
     ·obtain⟨q,-,-,-⟩:=P (by omega);rw[Ik _ _ _ (by omega)]at b;simp only[ReM.nodes]at b;simp only[J_];omega
    refine AG.m2 (fun hz=>?_) (fun hz=>?_)
    ·have Z:k<K:=by omega
     replace t:=t Z;replace f:=f Z;(conv=>whnf);try (refine An.run ?_)
     (conv=>whnf);try (refine An.run ?_)
     (conv=>whnf);by_cases E:k<AS m
     ·have l:decide ((k:Int)<((AS m:Nat):Int))=true:=e_;rw[F_ E]at f;rw[l];refine f_ Ci ?_;refine G_ (v:=A_ i) E_ (by rw[(A.blk _ (M_ (_::_::rest) _ 0)).cell,K_];exact Jr _) trivial ?_;refine Ae.mk (IH B H0 _ bb _ _ (ns++o) Az (rest++[pB 159 x (X_ (BY (i:Int) m n))]) na nc i ds ws hR hd hB hw (by omega) A) ?_;rintro _ G1 ⟨e,a2,c2,F,I,rfl,u,J⟩;have p2:=Bn (w.den);(conv=>whnf);try (refine An.run ?_)
      (conv=>whnf);by_cases r:k=0
      ·obtain⟨rfl,rfl⟩:=S r;subst r;(conv=>whnf);rw[W_ (x:=((0:Nat):Int)+1) (by omega)];have e1:rO w.den (AS m) 1=w.den:=by rw[LS];exact F_ E
       refine⟨rfl,(1,_),rfl,⟨by omega,⟨e,a2,c2,fun h=>absurd h (by decide),fun _=>?_,by simpa using J⟩⟩,by show K-1<K-0;omega⟩;rw[e1];simp only[YaX]at u;exact⟨F,I,by simp,u⟩
      ·obtain⟨q,p,rfl,s⟩:=P (by omega);have z:rO w.den (AS m) (k+1)= .cat (rO w.den (AS m) k) (w.den):=by rw[Ik _ _ _ (by omega)];rw[F_ E]
       have T:(rO w.den (AS m) (k+1)).nodes=1+(rO w.den (AS m) k).nodes+(w.den).nodes:=by rw[z];rfl
       have p1:=Bn (rO w.den (AS m) k);have L:decide (((ns.length+o.length-1:Nat):Int)<0)=false:=V_
       try rw[L]
       refine Ae.mk (Fu (op:=2) (x:=((ns.length+o.length-1:Nat):Int)) (y:=(((ns++o).length+e.length-1:Nat):Int)) J (by unfold AO;omega) (BJ (by omega)) (BJ (by simp;omega)) (by simp;omega)) ?_;rintro _ G2 ⟨rfl,a3,c3,U⟩;(conv=>whnf);rw[P_ k (by omega)];have⟨M,a4,c4,g1,gs,g2,g3,g4⟩:=Ff (R:=rO w.den (AS m) (k+1)) q p F I (fun h=>by rw[z]at h;simp only[ReM.plain,r_]at h;exact⟨h.1,h.2,by decide,by decide⟩) T (fun a0 d j k' b C h3 h4=>by rw[z];exact⟨d,j,k',b,by rw[C];rfl,by rw[C];rfl,by rw[C];rfl,h3,h4⟩) s u U;have N:((ns++o++e).length:Int)=((ns.length+M.length-1:Nat):Int):=by injection g2
       refine⟨rfl,(k+1,((ns++o++e).length:Int)),rfl,⟨by omega,⟨M,a4,c4,fun h=>absurd h (by omega),fun _=>⟨g1,gs,N,g3⟩,g4⟩⟩,by show K-(k+1)<K-k;omega⟩
     ·have l:decide ((k:Int)<((AS m:Nat):Int))=false:=V_;rw[D_ E]at f;rw[l];refine f_ Ci ?_;refine G_ (v:=A_ i) E_ (by rw[(A.blk _ (M_ (_::_::rest) _ 0)).cell,K_];exact Jr _) trivial ?_;refine Ae.mk (O3 IH hR hd hB hw (by simp only[Bm,ReM.nodes]at f;omega) A) ?_;rintro _ G1 ⟨e,a2,c2,F,I,rfl,u,J⟩;have p2:=Bn (Bm w.den);(conv=>whnf);try (refine An.run ?_)
      (conv=>whnf);by_cases r:k=0
      ·obtain⟨rfl,rfl⟩:=S r;subst r;(conv=>whnf);rw[W_ (x:=((0:Nat):Int)+1) (by omega)];have e1:rO w.den (AS m) 1=Bm w.den:=by rw[LS];exact D_ E
       refine⟨rfl,(1,_),rfl,⟨by omega,⟨e,a2,c2,fun h=>absurd h (by decide),fun _=>?_,by simpa using J⟩⟩,by show K-1<K-0;omega⟩;rw[e1];simp only[YaX]at u;exact⟨F,I,by simp,u⟩
      ·obtain⟨q,p,rfl,s⟩:=P (by omega);have z:rO w.den (AS m) (k+1)= .cat (rO w.den (AS m) k) (Bm w.den):=by rw[Ik _ _ _ (by omega)];rw[D_ E]
       have T:(rO w.den (AS m) (k+1)).nodes=1+(rO w.den (AS m) k).nodes+(Bm w.den).nodes:=by rw[z];rfl
       have p1:=Bn (rO w.den (AS m) k);have L:decide (((ns.length+o.length-1:Nat):Int)<0)=false:=V_
       try rw[L]
       refine Ae.mk (Fu (op:=2) (x:=((ns.length+o.length-1:Nat):Int)) (y:=(((ns++o).length+e.length-1:Nat):Int)) J (by unfold AO;omega) (BJ (by omega)) (BJ (by simp;omega)) (by simp;omega)) ?_;rintro _ G2 ⟨rfl,a3,c3,U⟩;(conv=>whnf);rw[P_ k (by omega)];have⟨M,a4,c4,g1,gs,g2,g3,g4⟩:=Ff (R:=rO w.den (AS m) (k+1)) q p F I (fun h=>by rw[z]at h;simp only[ReM.plain,r_]at h;exact⟨h.1,h.2,by decide,by decide⟩) T (fun a0 d j k' b C h3 h4=>by rw[z];exact⟨d,j,k',b,by rw[C];rfl,by rw[C];rfl,by rw[C];rfl,h3,h4⟩) s u U;have N:((ns++o++e).length:Int)=((ns.length+M.length-1:Nat):Int):=by injection g2
       refine⟨rfl,(k+1,((ns++o++e).length:Int)),rfl,⟨by omega,⟨M,a4,c4,fun h=>absurd h (by omega),fun _=>⟨g1,gs,N,g3⟩,g4⟩⟩,by show K-(k+1)<K-k;omega⟩
    ·obtain rfl:k=K:=by omega
     obtain⟨q,p,rfl,s⟩:=P (by omega);have p1:=Bn (rO w.den (AS m) k);(conv=>whnf);try (refine An.run ?_)
     refine f_ GM ?_;refine G_ (v:=A_ n) E_ (by rw[(A.blk _ (M_ (_::_::rest) _ 0)).cell,K_];exact Tv _) trivial ?_;(conv=>whnf);by_cases b:n<0
     ·have l:decide (n<0)=true:=n_ b;rw[F_ b]at O;have g:Cf w.den (AS m) n= .cat (rO w.den (AS m) k) (.star w.den):=by unfold Cf;rw[F_ b,D_ (by omega),O]<;>rfl
      rw[g]at hl ⊢;simp only[ReM.nodes]at hl;rw[l];refine f_ Ci ?_;refine G_ (v:=A_ i) E_ (by rw[(A.blk _ (M_ (_::_::rest) _ 0)).cell,K_];exact Jr _) trivial ?_;refine Ae.mk (IH B H0 _ bb _ _ (ns++o) Az (rest++[pB 159 x (X_ (BY (i:Int) m n))]) na nc i ds ws hR hd hB hw (by simp only[J_];omega) A) ?_;rintro _ G6 ⟨Q,a6,c6,ae,ag,rfl,ah,ai⟩;refine Ae.mk (Fu (op:=4) (x:=(((ns++o).length+Q.length-1:Nat):Int)) (y:=0) ai (by unfold AO;omega) (BJ (by simp only[J_];omega)) (by unfold AO;omega) (by simp only[J_];omega)) ?_;rintro _ G7 ⟨rfl,a7,c7,aj⟩;have⟨e,a8,c8,g1,gs,g2,g3,g4⟩:=Ob ae ag ah aj;have N:((ns++o++Q).length:Int)=(((ns++o).length+e.length-1:Nat):Int):=by injection g2
      rw[N];simp only[ReM.nodes]at g1;refine Ae.mk (Fu (op:=2) (x:=((ns.length+o.length-1:Nat):Int)) (y:=(((ns++o).length+e.length-1:Nat):Int)) g4 (by unfold AO;omega) (BJ (by omega)) (BJ (by simp only[J_];omega)) (by simp only[J_];omega)) ?_;rintro _ G8 ⟨rfl,a9,c9,ak⟩;(conv=>whnf);exact(Ff (R:=.cat (rO w.den (AS m) k) (.star w.den)) q p (r2:=.star w.den) (by simp only[ReM.nodes];exact g1) gs (fun h=>by simp only[ReM.plain,r_]at h ⊢;exact⟨h.1,h.2,by decide,by decide⟩) rfl (fun a0 d j k' b C h3 h4=>⟨d,j,k',b,by rw[C];rfl,by rw[C];rfl,by rw[C];rfl,h3,h4⟩) s g3 ak).drop
     ·have l:decide (n<0)=false:=j_ b;rw[D_ b]at O;have g:Cf w.den (AS m) n=rO w.den (AS m) k:=by unfold Cf;rw[D_ b,D_ X,O]<;>rfl
      rw[g];rw[l];(conv=>whnf);exact GrP.drop ⟨o,a1,c1,q,p,rfl,s,A⟩
end
theorem SL{B:Nat→Prop}{H0 G:Aa}{bb:Nat}{Az:Int}{rest:List Pc}{ns:List p_}{d:p_}{r:ReM}{a':Option Addr}{c':Nat}(c:r.nodes=1)(b:d.op≠5∧d.op≠6)(e:∀a k,a[k]?=some d→BA a r k)(st:B_ B H0 G (reP bb a' c' (ns++[d]) Az rest)):
  GrP B H0 bb Az rest ns r (.int .i64 (ns.length:Int)) G:=
 ⟨[d],a',c',c.symm,fun _ x f=>by rcases Y_.1 f with rfl;exact b,by simp,e _ _ (by simp),st⟩
theorem AgG:∀w:RwM,TV w:=fun w=>by
 induction w with
 | eps=>
   intro B H0 H bb c a ns Az rest na nc i ds ws M N S hw T st;have⟨d,C,D⟩:=M.at2 hw;refine Ak.of_vc func83 rfl (call83 _) ?_;obtain rfl:d=AA 0 0 0:=D;refine ixr (i:=i) EZ (N.frame (st.old.mono fun k q=>q)) C rfl ?_;rintro b2 o2 c2 ae E ⟨rfl,Q⟩;refine L_ (cs:=X_ (AA 0 0 0)) (by rw[AV];exact KN) E trivial ?_;refine Am _ rnZ OF rfl ?_;intro x H3 hx F G I;have J:=st.box hx F G I;refine AN (cs:=X_ (AA 0 0 0)) J _ (by rw[AV];rfl) (M_ (_::_::rest) _ 0) (by rw[AV,Cy];decide) (CP _) fun H4 b=>?_;rw[Aw (show(X_ (AA 0 0 0)).length=rnZ.length by rw[AV,Cy])]at b;replace b:B_ B H0 H4 (reP bb a c ns Az (rest++[pB 159 x (X_ (AA 0 0 0))])):=by
    have e:=X' (pB tRe bb (reL (.slice a ns.length c) Az)::pS tRn 159 a ns.length c ns::rest) [pB 159 x rnZ] 0 (pB 159 x (X_ (AA 0 0 0)));rw[e]at b;exact b
   have p:Q_ H4 x 159 (X_ (AA 0 0 0)):=b.blk _ (M_ (_::_::rest) _ 0);refine f_ BI ?_;refine G_ (v:=A_ (AA 0 0 0).op) E_ (by rw[p.cell];exact DN _) trivial ?_;(conv=>whnf);try (refine An.run ?_)
   (conv=>whnf);try (refine An.run ?_)
   have bl:=(b.blk 0 rfl).lt;have f1:bb≠x:=fun e=>b.apart2 (i:=0) (j:=(pB tRe bb (reL (.slice a ns.length c) Az)::pS tRn 159 a ns.length c ns::rest).length+0) rfl (M_ (_::_::rest) _ 0) (by simp) bb rfl e;refine Aq.heldZ (fun k=>k=bb∨k=x) [14] (sq [0,1,2,3,4,5,6,7,8,9] (.f 10 (.f 11 (sq [12,13] (.f 14 .e))))) rfl (by kernel_rfl) (f_ F1 ?_);refine G_ (v:=.slice a ns.length c) DZ ((b.blk 0 rfl).ce rfl) (.inl rfl) ?_;refine f_ BI ?_;refine G_ (v:=A_ (AA 0 0 0).op) E_ (by rw[p.cell];exact DN _) (.inr rfl) ?_;refine f_ Rb ?_;refine L_ (cs:=A9 (0#256)) (by rw[Au];exact Y6) (p.cells (o:=0+1) fun j v hv=>Vg (AA 0 0 0) j v hv) (.inr rfl) ?_;refine LV 0 (0#256) (Ay EZ (X_ (AA 0 0 0)) rfl (AV _) (by decide) (by decide) ?_);intro z H5 hz am ah ai;have U:=b.skip hz ai;have aj:Q_ H5 x 159 (X_ (AA 0 0 0)):=U.blk _ (M_ (_::_::rest) _ 0);refine⟨fun k q=>by
    rcases q with q | q
    ·rw[show k=bb from q];exact(U.blk 0 rfl).trans (b.blk 0 rfl).symm
    ·rw[show k=x from q];exact aj.trans p.symm,?_⟩
   refine QF (ys:=[AA 0 0 0]) U 1 EZ rfl (ah.cells (o:=0) (cs:=X_ (AA 0 0 0)) fun j v hv=>by rw[K_];exact hv) (Ty.reps_one ⟨rfl,Q⟩) rfl (fun u hu=>Ybl.1 (CP _) u hu) (by simp[RwM.den,ReM.nodes]at T ⊢;omega) (by decide) fun a9 c9 H9 O ao=>?_;have el:ns.length+[AA 0 0 0].length=(ns++[AA 0 0 0]).length:=by simp
   rw[el]at O ⊢;have ak:Q_ H9 x 159 (X_ (AA 0 0 0)):=O.blk _ (M_ (_::_::rest) _ 0);refine⟨fun k q=>by
    rcases q with q | q
    ·rw[show k=bb from q];exact(O.blk 0 rfl).trans (b.blk 0 rfl).symm
    ·rw[show k=x from q];exact ak.trans p.symm,?_⟩
   refine f_ F1 (Bh O 0 DZ rfl (show 0<2 by decide) rfl fun H10 A=>(f_ F1 ?_));refine lT (v:=.slice a9 (ns++[AA 0 0 0]).length c9) DZ ((A.blk 0 rfl).ce rfl) ?_;have V:IntKind.wrap .i64 (((ns++[AA 0 0 0]).length:Int)-1)=(ns.length:Int):=by
    simp only[RwM.den,ReM.nodes]at T;rw[J_,h_,w64 (by omega) (by omega)];omega
   (conv=>whnf);rw[V];(conv=>whnf);replace A:B_ B H0 H10 (reP bb a9 c9 (ns++[AA 0 0 0]) Az (rest++[pB 159 x (X_ (AA 0 0 0))])):=A;exact(SL (r:=.eps) rfl ⟨show(0:Int)≠5 by decide,show(0:Int)≠6 by decide⟩ (fun ag k h=>⟨_,h,rfl⟩) A).drop
 | cls s=>
   intro B H0 H bb c a ns Az rest na nc i ds ws M N S hw T st;have⟨d,C,D⟩:=M.at2 hw;refine Ak.of_vc func83 rfl (call83 _) ?_;obtain rfl:d=DG s:=D;refine ixr (i:=i) EZ (N.frame (st.old.mono fun k q=>q)) C rfl ?_;rintro b2 o2 c2 ae E ⟨rfl,Q⟩;refine L_ (cs:=X_ (DG s)) (by rw[AV];exact KN) E trivial ?_;refine Am _ rnZ OF rfl ?_;intro x H3 hx F G I;have J:=st.box hx F G I;refine AN (cs:=X_ (DG s)) J _ (by rw[AV];rfl) (M_ (_::_::rest) _ 0) (by rw[AV,Cy];decide) (CP _) fun H4 b=>?_;rw[Aw (show(X_ (DG s)).length=rnZ.length by rw[AV,Cy])]at b;replace b:B_ B H0 H4 (reP bb a c ns Az (rest++[pB 159 x (X_ (DG s))])):=by
    have e:=X' (pB tRe bb (reL (.slice a ns.length c) Az)::pS tRn 159 a ns.length c ns::rest) [pB 159 x rnZ] 0 (pB 159 x (X_ (DG s)));rw[e]at b;exact b
   have p:Q_ H4 x 159 (X_ (DG s)):=b.blk _ (M_ (_::_::rest) _ 0);refine f_ BI ?_;refine G_ (v:=A_ (DG s).op) E_ (by rw[p.cell];exact DN _) trivial ?_;(conv=>whnf);try (refine An.run ?_)
   (conv=>whnf);try (refine An.run ?_)
   have bl:=(b.blk 0 rfl).lt;have f1:bb≠x:=fun e=>b.apart2 (i:=0) (j:=(pB tRe bb (reL (.slice a ns.length c) Az)::pS tRn 159 a ns.length c ns::rest).length+0) rfl (M_ (_::_::rest) _ 0) (by simp) bb rfl e;refine Aq.heldZ (fun k=>k=bb∨k=x) [14] (sq [0,1,2,3,4,5,6,7,8,9] (.f 10 (.f 11 (sq [12,13] (.f 14 .e))))) rfl (by kernel_rfl) (f_ F1 ?_);refine G_ (v:=.slice a ns.length c) DZ ((b.blk 0 rfl).ce rfl) (.inl rfl) ?_;refine f_ BI ?_;refine G_ (v:=A_ (DG s).op) E_ (by rw[p.cell];exact DN _) (.inr rfl) ?_;refine f_ Rb ?_;refine L_ (cs:=A9 (s)) (by rw[Au];exact Y6) (p.cells (o:=0+1) fun j v hv=>Vg (DG s) j v hv) (.inr rfl) ?_;refine LV 1 (s) (Ay EZ (X_ (DG s)) rfl (AV _) (by decide) (by decide) ?_);intro z H5 hz am ah ai;have U:=b.skip hz ai;have aj:Q_ H5 x 159 (X_ (DG s)):=U.blk _ (M_ (_::_::rest) _ 0);refine⟨fun k q=>by
    rcases q with q | q
    ·rw[show k=bb from q];exact(U.blk 0 rfl).trans (b.blk 0 rfl).symm
    ·rw[show k=x from q];exact aj.trans p.symm,?_⟩
   refine QF (ys:=[DG s]) U 1 EZ rfl (ah.cells (o:=0) (cs:=X_ (DG s)) fun j v hv=>by rw[K_];exact hv) (Ty.reps_one ⟨rfl,Q⟩) rfl (fun u hu=>Ybl.1 (CP _) u hu) (by simp[RwM.den,ReM.nodes]at T ⊢;omega) (by decide) fun a9 c9 H9 O ao=>?_;have el:ns.length+[DG s].length=(ns++[DG s]).length:=by simp
   rw[el]at O ⊢;have ak:Q_ H9 x 159 (X_ (DG s)):=O.blk _ (M_ (_::_::rest) _ 0);refine⟨fun k q=>by
    rcases q with q | q
    ·rw[show k=bb from q];exact(O.blk 0 rfl).trans (b.blk 0 rfl).symm
    ·rw[show k=x from q];exact ak.trans p.symm,?_⟩
   refine f_ F1 (Bh O 0 DZ rfl (show 0<2 by decide) rfl fun H10 A=>(f_ F1 ?_));refine lT (v:=.slice a9 (ns++[DG s]).length c9) DZ ((A.blk 0 rfl).ce rfl) ?_;have V:IntKind.wrap .i64 (((ns++[DG s]).length:Int)-1)=(ns.length:Int):=by
    simp only[RwM.den,ReM.nodes]at T;rw[J_,h_,w64 (by omega) (by omega)];omega
   (conv=>whnf);rw[V];(conv=>whnf);replace A:B_ B H0 H10 (reP bb a9 c9 (ns++[DG s]) Az (rest++[pB 159 x (X_ (DG s))])):=A;exact(SL (r:=.cls s) rfl ⟨show(1:Int)≠5 by decide,show(1:Int)≠6 by decide⟩ (fun ag k h=>⟨_,h,rfl,rfl⟩) A).drop
 | cat V w2 W X=>
   intro B H0 H bb c a ns Az rest na nc i ds ws M N S hw T st;have⟨d,C,D⟩:=M.at2 hw;refine Ak.of_vc func83 rfl (call83 _) ?_;obtain⟨g,l,rfl,P,Y⟩:=D;simp only[RwM.den,ReM.nodes]at T;refine ixr (i:=i) EZ (N.frame (st.old.mono fun k q=>q)) C rfl ?_;rintro b2 o2 c2 ae E ⟨rfl,Q⟩;refine L_ (cs:=X_ (AA 2 (g:Int) (l:Int))) (by rw[AV];exact KN) E trivial ?_;refine Am _ rnZ OF rfl ?_;intro x H3 hx F G I;have J:=st.box hx F G I;refine AN (cs:=X_ (AA 2 (g:Int) (l:Int))) J _ (by rw[AV];rfl) (M_ (_::_::rest) _ 0) (by rw[AV,Cy];decide) (CP _) fun H4 b=>?_;rw[Aw (show(X_ (AA 2 (g:Int) (l:Int))).length=rnZ.length by rw[AV,Cy])]at b;replace b:B_ B H0 H4 (reP bb a c ns Az (rest++[pB 159 x (X_ (AA 2 (g:Int) (l:Int)))])):=by
    have e:=X' (pB tRe bb (reL (.slice a ns.length c) Az)::pS tRn 159 a ns.length c ns::rest) [pB 159 x rnZ] 0 (pB 159 x (X_ (AA 2 (g:Int) (l:Int))));rw[e]at b;exact b
   have p:Q_ H4 x 159 (X_ (AA 2 (g:Int) (l:Int))):=b.blk _ (M_ (_::_::rest) _ 0);refine f_ BI ?_;refine G_ (v:=A_ (AA 2 (g:Int) (l:Int)).op) E_ (by rw[p.cell];exact DN _) trivial ?_;(conv=>whnf);try (refine An.run ?_)
   (conv=>whnf);try (refine An.run ?_)
   refine f_ Ci ?_;refine G_ (v:=A_ g) E_ (by rw[(b.blk _ (M_ (_::_::rest) _ 0)).cell,K_];exact Jr _) trivial ?_;refine Ae.mk (W B H0 _ bb _ _ ns Az (rest++[pB 159 x (X_ (AA 2 (g:Int) (l:Int)))]) na nc g ds ws M N S P (by omega) b) ?_;rintro _ G1 ⟨t,a1,c1,Z,a0,rfl,a4,K⟩;refine f_ Ej ?_;refine G_ (v:=A_ l) E_ (by rw[(K.blk _ (M_ (_::_::rest) _ 0)).cell,K_];exact RH _) trivial ?_;refine Ae.mk (X B H0 _ bb _ _ (ns++t) Az (rest++[pB 159 x (X_ (AA 2 (g:Int) (l:Int)))]) na nc l ds ws M N S Y (by simp only[J_];omega) K) ?_;rintro _ G2 ⟨a5,a2,c2,a6,a7,rfl,a8,L⟩;have p1:=Bn V.den;have p2:=Bn w2.den;refine f_ BI ?_;refine G_ (v:=A_ (AA 2 (g:Int) (l:Int)).op) E_ (by rw[(L.blk _ (M_ (_::_::rest) _ 0)).cell];exact DN _) trivial ?_;refine Ae.mk (Fu (op:=2) (x:=((ns.length+t.length-1:Nat):Int)) (y:=(((ns++t).length+a5.length-1:Nat):Int)) L (by unfold AO;omega) (BJ (by omega)) (BJ (by simp only[J_];omega)) (by simp only[J_];omega)) ?_;rintro _ G3 ⟨rfl,a3,c3,ab⟩;(conv=>whnf);exact(Ff (R:=.cat V.den w2.den) Z a0 a6 a7 (fun h=>by simp only[ReM.plain,r_]at h;exact⟨h.1,h.2,by decide,by decide⟩) rfl (fun ag d j k' h1 h2 h3 h4=>⟨d,j,k',h1,by rw[h2];rfl,by rw[h2];rfl,by rw[h2];rfl,h3,h4⟩) a4 a8 ab).drop
 | alt V w2 W X=>
   intro B H0 H bb c a ns Az rest na nc i ds ws M N S hw T st;have⟨d,C,D⟩:=M.at2 hw;refine Ak.of_vc func83 rfl (call83 _) ?_;obtain⟨g,l,rfl,P,Y⟩:=D;simp only[RwM.den,ReM.nodes]at T;refine ixr (i:=i) EZ (N.frame (st.old.mono fun k q=>q)) C rfl ?_;rintro b2 o2 c2 ae E ⟨rfl,Q⟩;refine L_ (cs:=X_ (AA 3 (g:Int) (l:Int))) (by rw[AV];exact KN) E trivial ?_;refine Am _ rnZ OF rfl ?_;intro x H3 hx F G I;have J:=st.box hx F G I;refine AN (cs:=X_ (AA 3 (g:Int) (l:Int))) J _ (by rw[AV];rfl) (M_ (_::_::rest) _ 0) (by rw[AV,Cy];decide) (CP _) fun H4 b=>?_;rw[Aw (show(X_ (AA 3 (g:Int) (l:Int))).length=rnZ.length by rw[AV,Cy])]at b;replace b:B_ B H0 H4 (reP bb a c ns Az (rest++[pB 159 x (X_ (AA 3 (g:Int) (l:Int)))])):=by
    have e:=X' (pB tRe bb (reL (.slice a ns.length c) Az)::pS tRn 159 a ns.length c ns::rest) [pB 159 x rnZ] 0 (pB 159 x (X_ (AA 3 (g:Int) (l:Int))));rw[e]at b;exact b
   have p:Q_ H4 x 159 (X_ (AA 3 (g:Int) (l:Int))):=b.blk _ (M_ (_::_::rest) _ 0);refine f_ BI ?_;refine G_ (v:=A_ (AA 3 (g:Int) (l:Int)).op) E_ (by rw[p.cell];exact DN _) trivial ?_;(conv=>whnf);try (refine An.run ?_)
   (conv=>whnf);try (refine An.run ?_)
   refine f_ Ci ?_;refine G_ (v:=A_ g) E_ (by rw[(b.blk _ (M_ (_::_::rest) _ 0)).cell,K_];exact Jr _) trivial ?_;refine Ae.mk (W B H0 _ bb _ _ ns Az (rest++[pB 159 x (X_ (AA 3 (g:Int) (l:Int)))]) na nc g ds ws M N S P (by omega) b) ?_;rintro _ G1 ⟨t,a1,c1,Z,a0,rfl,a4,K⟩;refine f_ Ej ?_;refine G_ (v:=A_ l) E_ (by rw[(K.blk _ (M_ (_::_::rest) _ 0)).cell,K_];exact RH _) trivial ?_;refine Ae.mk (X B H0 _ bb _ _ (ns++t) Az (rest++[pB 159 x (X_ (AA 3 (g:Int) (l:Int)))]) na nc l ds ws M N S Y (by simp only[J_];omega) K) ?_;rintro _ G2 ⟨a5,a2,c2,a6,a7,rfl,a8,L⟩;have p1:=Bn V.den;have p2:=Bn w2.den;refine f_ BI ?_;refine G_ (v:=A_ (AA 3 (g:Int) (l:Int)).op) E_ (by rw[(L.blk _ (M_ (_::_::rest) _ 0)).cell];exact DN _) trivial ?_;refine Ae.mk (Fu (op:=3) (x:=((ns.length+t.length-1:Nat):Int)) (y:=(((ns++t).length+a5.length-1:Nat):Int)) L (by unfold AO;omega) (BJ (by omega)) (BJ (by simp only[J_];omega)) (by simp only[J_];omega)) ?_;rintro _ G3 ⟨rfl,a3,c3,ab⟩;(conv=>whnf);exact(Ff (R:=.alt V.den w2.den) Z a0 a6 a7 (fun h=>by simp only[ReM.plain,r_]at h;exact⟨h.1,h.2,by decide,by decide⟩) rfl (fun ag d j k' h1 h2 h3 h4=>⟨d,j,k',h1,by rw[h2];rfl,by rw[h2];rfl,by rw[h2];rfl,h3,h4⟩) a4 a8 ab).drop
 | and_ V w2 W X=>
   intro B H0 H bb c a ns Az rest na nc i ds ws M N S hw T st;have⟨d,C,D⟩:=M.at2 hw;refine Ak.of_vc func83 rfl (call83 _) ?_;obtain⟨g,l,rfl,P,Y⟩:=D;simp only[RwM.den,ReM.nodes]at T;refine ixr (i:=i) EZ (N.frame (st.old.mono fun k q=>q)) C rfl ?_;rintro b2 o2 c2 ae E ⟨rfl,Q⟩;refine L_ (cs:=X_ (AA 5 (g:Int) (l:Int))) (by rw[AV];exact KN) E trivial ?_;refine Am _ rnZ OF rfl ?_;intro x H3 hx F G I;have J:=st.box hx F G I;refine AN (cs:=X_ (AA 5 (g:Int) (l:Int))) J _ (by rw[AV];rfl) (M_ (_::_::rest) _ 0) (by rw[AV,Cy];decide) (CP _) fun H4 b=>?_;rw[Aw (show(X_ (AA 5 (g:Int) (l:Int))).length=rnZ.length by rw[AV,Cy])]at b;replace b:B_ B H0 H4 (reP bb a c ns Az (rest++[pB 159 x (X_ (AA 5 (g:Int) (l:Int)))])):=by
    have e:=X' (pB tRe bb (reL (.slice a ns.length c) Az)::pS tRn 159 a ns.length c ns::rest) [pB 159 x rnZ] 0 (pB 159 x (X_ (AA 5 (g:Int) (l:Int))));rw[e]at b;exact b
   have p:Q_ H4 x 159 (X_ (AA 5 (g:Int) (l:Int))):=b.blk _ (M_ (_::_::rest) _ 0);refine f_ BI ?_;refine G_ (v:=A_ (AA 5 (g:Int) (l:Int)).op) E_ (by rw[p.cell];exact DN _) trivial ?_;(conv=>whnf);try (refine An.run ?_)
   (conv=>whnf);try (refine An.run ?_)
   refine f_ Ci ?_;refine G_ (v:=A_ g) E_ (by rw[(b.blk _ (M_ (_::_::rest) _ 0)).cell,K_];exact Jr _) trivial ?_;refine Ae.mk (W B H0 _ bb _ _ ns Az (rest++[pB 159 x (X_ (AA 5 (g:Int) (l:Int)))]) na nc g ds ws M N S P (by omega) b) ?_;rintro _ G1 ⟨t,a1,c1,Z,a0,rfl,a4,K⟩;refine f_ Ej ?_;refine G_ (v:=A_ l) E_ (by rw[(K.blk _ (M_ (_::_::rest) _ 0)).cell,K_];exact RH _) trivial ?_;refine Ae.mk (X B H0 _ bb _ _ (ns++t) Az (rest++[pB 159 x (X_ (AA 5 (g:Int) (l:Int)))]) na nc l ds ws M N S Y (by simp only[J_];omega) K) ?_;rintro _ G2 ⟨a5,a2,c2,a6,a7,rfl,a8,L⟩;have p1:=Bn V.den;have p2:=Bn w2.den;refine f_ BI ?_;refine G_ (v:=A_ (AA 5 (g:Int) (l:Int)).op) E_ (by rw[(L.blk _ (M_ (_::_::rest) _ 0)).cell];exact DN _) trivial ?_;refine Ae.mk (Fu (op:=5) (x:=((ns.length+t.length-1:Nat):Int)) (y:=(((ns++t).length+a5.length-1:Nat):Int)) L (by unfold AO;omega) (BJ (by omega)) (BJ (by simp only[J_];omega)) (by simp only[J_];omega)) ?_;rintro _ G3 ⟨rfl,a3,c3,ab⟩;(conv=>whnf);exact(Ff (R:=.and_ V.den w2.den) Z a0 a6 a7 (fun h=>by cases h) rfl (fun ag d j k' h1 h2 h3 h4=>⟨d,j,k',h1,by rw[h2];rfl,by rw[h2];rfl,by rw[h2];rfl,h3,h4⟩) a4 a8 ab).drop
 | minus V w2 W X=>
   intro B H0 H bb c a ns Az rest na nc i ds ws M N S hw T st;have⟨d,C,D⟩:=M.at2 hw;refine Ak.of_vc func83 rfl (call83 _) ?_;obtain⟨g,l,rfl,P,Y⟩:=D;simp only[RwM.den,ReM.nodes]at T;refine ixr (i:=i) EZ (N.frame (st.old.mono fun k q=>q)) C rfl ?_;rintro b2 o2 c2 ae E ⟨rfl,Q⟩;refine L_ (cs:=X_ (AA 6 (g:Int) (l:Int))) (by rw[AV];exact KN) E trivial ?_;refine Am _ rnZ OF rfl ?_;intro x H3 hx F G I;have J:=st.box hx F G I;refine AN (cs:=X_ (AA 6 (g:Int) (l:Int))) J _ (by rw[AV];rfl) (M_ (_::_::rest) _ 0) (by rw[AV,Cy];decide) (CP _) fun H4 b=>?_;rw[Aw (show(X_ (AA 6 (g:Int) (l:Int))).length=rnZ.length by rw[AV,Cy])]at b;replace b:B_ B H0 H4 (reP bb a c ns Az (rest++[pB 159 x (X_ (AA 6 (g:Int) (l:Int)))])):=by
    have e:=X' (pB tRe bb (reL (.slice a ns.length c) Az)::pS tRn 159 a ns.length c ns::rest) [pB 159 x rnZ] 0 (pB 159 x (X_ (AA 6 (g:Int) (l:Int))));rw[e]at b;exact b
   have p:Q_ H4 x 159 (X_ (AA 6 (g:Int) (l:Int))):=b.blk _ (M_ (_::_::rest) _ 0);refine f_ BI ?_;refine G_ (v:=A_ (AA 6 (g:Int) (l:Int)).op) E_ (by rw[p.cell];exact DN _) trivial ?_;(conv=>whnf);try (refine An.run ?_)
   (conv=>whnf);try (refine An.run ?_)
   refine f_ Ci ?_;refine G_ (v:=A_ g) E_ (by rw[(b.blk _ (M_ (_::_::rest) _ 0)).cell,K_];exact Jr _) trivial ?_;refine Ae.mk (W B H0 _ bb _ _ ns Az (rest++[pB 159 x (X_ (AA 6 (g:Int) (l:Int)))]) na nc g ds ws M N S P (by omega) b) ?_;rintro _ G1 ⟨t,a1,c1,Z,a0,rfl,a4,K⟩;refine f_ Ej ?_;refine G_ (v:=A_ l) E_ (by rw[(K.blk _ (M_ (_::_::rest) _ 0)).cell,K_];exact RH _) trivial ?_;refine Ae.mk (X B H0 _ bb _ _ (ns++t) Az (rest++[pB 159 x (X_ (AA 6 (g:Int) (l:Int)))]) na nc l ds ws M N S Y (by simp only[J_];omega) K) ?_;rintro _ G2 ⟨a5,a2,c2,a6,a7,rfl,a8,L⟩;have p1:=Bn V.den;have p2:=Bn w2.den;refine f_ BI ?_;refine G_ (v:=A_ (AA 6 (g:Int) (l:Int)).op) E_ (by rw[(L.blk _ (M_ (_::_::rest) _ 0)).cell];exact DN _) trivial ?_;refine Ae.mk (Fu (op:=6) (x:=((ns.length+t.length-1:Nat):Int)) (y:=(((ns++t).length+a5.length-1:Nat):Int)) L (by unfold AO;omega) (BJ (by omega)) (BJ (by simp only[J_];omega)) (by simp only[J_];omega)) ?_;rintro _ G3 ⟨rfl,a3,c3,ab⟩;(conv=>whnf);exact(Ff (R:=.minus V.den w2.den) Z a0 a6 a7 (fun h=>by cases h) rfl (fun ag d j k' h1 h2 h3 h4=>⟨d,j,k',h1,by rw[h2];rfl,by rw[h2];rfl,by rw[h2];rfl,h3,h4⟩) a4 a8 ab).drop
 | rep w m n ih=>
   intro B H0 H bb c a ns Az rest na nc i ds ws M N S hw T st;have⟨d,C,D⟩:=M.at2 hw;refine Ak.of_vc func83 rfl (call83 _) ?_;obtain⟨g,rfl,P,ap⟩:=D;refine ixr (i:=i) EZ (N.frame (st.old.mono fun k q=>q)) C rfl ?_;rintro b2 o2 c2 ae E ⟨rfl,Q⟩;refine L_ (cs:=X_ (BY (g:Int) m n)) (by rw[AV];exact KN) E trivial ?_;refine Am _ rnZ OF rfl ?_;intro x H3 hx F G I;have J:=st.box hx F G I;refine AN (cs:=X_ (BY (g:Int) m n)) J _ (by rw[AV];rfl) (M_ (_::_::rest) _ 0) (by rw[AV,Cy];decide) (CP _) fun H4 b=>?_;rw[Aw (show(X_ (BY (g:Int) m n)).length=rnZ.length by rw[AV,Cy])]at b;replace b:B_ B H0 H4 (reP bb a c ns Az (rest++[pB 159 x (X_ (BY (g:Int) m n))])):=by
    have e:=X' (pB tRe bb (reL (.slice a ns.length c) Az)::pS tRn 159 a ns.length c ns::rest) [pB 159 x rnZ] 0 (pB 159 x (X_ (BY (g:Int) m n)));rw[e]at b;exact b
   have p:Q_ H4 x 159 (X_ (BY (g:Int) m n)):=b.blk _ (M_ (_::_::rest) _ 0);refine f_ BI ?_;refine G_ (v:=A_ (BY (g:Int) m n).op) E_ (by rw[p.cell];exact DN _) trivial ?_;(conv=>whnf);try (refine An.run ?_)
   (conv=>whnf);try (refine An.run ?_)
   refine L_ (cs:=X_ (BY (g:Int) m n)) (by rw[AV];exact KN) (p.cells (o:=0) fun j v hv=>by rw[K_];exact hv) trivial ?_;refine Ae.mk (Ab7 ih M N S P ap T b) ?_;intro v G1 h;(conv=>whnf);exact GrP.drop h
end Go.Proofs.YtfbghcpdinlmcaaGreatDoor
