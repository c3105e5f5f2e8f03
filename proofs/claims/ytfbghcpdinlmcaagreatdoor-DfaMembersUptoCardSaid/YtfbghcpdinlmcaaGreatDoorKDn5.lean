/- Parts of the proof: PRd5, PPa5, PPa6, PPa7, PDp3, PDp4, PDp5, PDp6, PRd2, PRd3, VHeldT -/
import Derived.Test.YtfbghcpdinlmcaaGreatDoorKDn4
import Derived.Test.YtfbghcpdinlmcaaGreatDoorKDn2
import Derived.Test.YtfbghcpdinlmcaaGreatDoorKDn3
set_option maxHeartbeats 64000000
open Array renaming replicate → AaK
open Bool renaming or_false → Aa3, true_and → Aa4, and_eq_true → Aa5, and_false → Aa8, false_and → Aa9, or_true → AaC, false_eq_true → AaI
open Int renaming eq_ofNat_of_zero_le → AaD, natCast_mul → AaG, toNat_natCast → AaO
open List renaming set_cons_succ → Aa1, set_cons_zero → Aa2, set_set → AaE, append_assoc → AaJ, getElem?_eq_none → AaL, mem_cons → AaM
open Nat renaming le_refl → Aa0, pow_le_pow_right → Aa6, lt_of_lt_of_le → Aa7, mul_le_mul_left → AaA, zero_add → AaB, mul_le_mul_right → AaF, mul_le_mul → AaH, pow_succ → AaN, mul_add → AaP
set_option linter.unusedVariables false
set_option linter.unusedSimpArgs false
set_option maxRecDepth 100000
namespace Go.Proofs.YtfbghcpdinlmcaaGreatDoor
open Go.VC Go.Lib
theorem Le(x:BitVec 256):Ap x=CZ fun b=>x.getLsbD b:=by
 unfold Ap Ef CZ;refine List.map_congr_left fun b hb=>?_;rw [decide_eq_true (List.mem_range.1 hb),Aa4]
theorem Up{f:Nat→Bool}{x:BitVec 256}(h:∀b,b<256→f b=x.getLsbD b):CZ f=Ap x:=by rw [Le];exact D0 h
theorem JH(x y:BitVec 256)(b:Nat):(x ||| y).getLsbD b=(x.getLsbD b|| y.getLsbD b):=BitVec.getLsbD_or
theorem RI(x:BitVec 256)(b:Nat)(hb:b<256):(~~~x).getLsbD b= !x.getLsbD b:=by rw [BitVec.getLsbD_not,decide_eq_true hb,Aa4]
theorem P4(b:Nat):(0#256).getLsbD b=false:=BitVec.getLsbD_zero
theorem EM(f:Nat→Bool){k:Nat}(h:k<256)(v:Bool):(CZ f).set k (.bool v)=CZ fun b=>if b=k then v else f b:=by
 apply List.ext_getElem?;intro j;by_cases hj:j<256
 ·rw [Gb _ hj];by_cases hjk:k=j
  ·subst hjk;rw [List.getElem?_set_self (by rw [BN];exact h),if_pos rfl]
  ·rw [List.getElem?_set_ne hjk,Gb _ hj,if_neg (Ne.symm hjk)]
 ·rw [AaL (by rw [List.length_set,BN];omega),AaL (by rw [BN];omega)]
def ZM(nt:Bool)(M:Sum Nat (BitVec 256×Nat)):Sum Nat (BitVec 256×Nat):=match M with
 | .inl e=>.inl e
 | .inr (x,k)=>.inr (if nt then ~~~x else x,k)
def Fw:Value:=.agg (Ap 0#256).toArray
theorem D2:(Tryz.prog.info? 157).bind (·.zero)=some Fw:=by kernel_rfl
def Dq(t:ByteArray)(i:Nat)(v:Value):Prop:=match Bo t i with
 | .inl e=>v= .tuple #[Fw,.int .i64 0,.int .i64 10,.int .i64 (e:Int)]
 | .inr (x,j)=>v= .tuple #[.agg (Ap x).toArray,.int .i64 (j:Int),.int .i64 0,.int .i64 0]
def rrP(q4 q8:Nat)(x:BitVec 256):List Pc:=[pB 157 q4 (Ap 0#256),pB 157 q8 (Ap x)]
def rrF(q4 q8:Nat)(f:Nat→Bool):List Pc:=[pB 157 q4 (Ap 0#256),pB 157 q8 (CZ f)]
theorem Dy{q4 q8:Nat}{f:Nat→Bool}{x:BitVec 256}(h:∀b,b<256→f b=x.getLsbD b):rrF q4 q8 f=rrP q4 q8 x:=by unfold rrF rrP;rw [Up h]
structure Yx(H:Aa)(t:ByteArray)(q4 q8:Nat)(M:Sum Nat (BitVec 256×Nat))(y:Nat×Nat×BitVec 256)(G:Aa):Prop where
 le:y.1≤t.size
 fuel:t.size<y.2.1+y.1
 eq:CG t y.2.1 y.1 y.2.2=M
 st:St H G (rrP q4 q8 y.2.2)
theorem BL{H:Aa}{b:Nat}{x:BitVec 256}(h:Blk H b 157 (Ap x)):Bi H b 0 (Ap x):=h.cells (fun j v hv=>by rw [AaB];exact hv)
theorem agD(x:BitVec 256):Fa Tryz.prog 157 (Ap x).length:=by rw [Aq];exact KW
theorem szD(x:BitVec 256):(Tryz.prog.info? 157).map (·.size)=some (Ap x).length:=by rw [Aq];rfl
theorem onD(x:BitVec 256):(Ap x).all (·.oneCell')=true:=EX x 256
theorem SX{H:Aa}{t:ByteArray}{i:Nat}(ht:t.size≤1152921504606846976)(hi:i<t.size):
  Al Tryz.prog 81 #[.string t,.int .i64 (i:Int)] H fun v H'=>Agr (Old H) H H'∧Dq t i v:=by
 refine Al.of_vcL Tryz.func81 rfl (Tryz.call81 _) ?_;obtain⟨b,hb1,hb2,hb3⟩:=CI hi;refine Ak Fw (Ap 0#256) D2 rfl ?_;intro q4 H1 hq1 hs1 hb1' ha1;have st1:=(St.nil H).box hq1 hs1 hb1' ha1;refine Ak Fw (Ap 0#256) D2 rfl ?_;intro q8 H2 hq2 hs2 hb2' ha2;have st2:St H H2 (rrP q4 q8 0#256):=st1.box hq2 hs2 hb2' ha2;have d1:decide ((i:Int)<0)=false:=decide_eq_false (by omega);have d2:decide ((i:Int)≥(t.size:Int))=false:=decide_eq_false (by omega);(conv=>whnf);rw [d1];(conv=>whnf);rw [d2];refine Dg E5 rfl hb1 ?_;rw [←hb2];by_cases h46:bt t i=46
 ·have d3:((bt t i:Int)==(46:Int))=true:=by rw [h46];rfl
  (conv=>whnf);rw [d3];(conv=>whnf);refine A3.mk [9] (fun k:Nat=>[.int .i64 (k:Int)]) (fun k G=>k≤256∧St H G (rrF q4 q8 fun b=>decide (b<k)&& !decide (b=10))) (fun k _=>256 - k) ?_ ?_
  ·(conv=>whnf);exact⟨0,rfl,by omega,by rw [Dy (x:=0#256) (fun b hb=>by rw [P4];simp)];exact st2⟩
  ·rintro k G junk ⟨hk,stg⟩;refine AB.mk (fun hz=>?_) (fun hz=>?_)<;>simp only [decide_eq_true_eq,decide_eq_false_iff_not]at hz
   ·(conv=>whnf);try (refine Am.run ?_)
    have d4:((k:Int) != (10:Int))= !decide (k=10):=by
     by_cases h:k=10
     ·subst h;rfl
     ·rw [decide_eq_false h];rw [Bool.not_false,bne_iff_ne];omega
    (conv=>whnf);rw [d4];refine ixa C1 (by omega) (by omega) ?_;refine AT stg 1 ct4 rfl (by rw [BN];omega) rfl fun G2 stg2=>?_;have e0:0+(k:Int).toNat*1=k:=by omega
    rw [e0]at stg2;have st3:St H G2 (rrF q4 q8 fun b=>decide (b<k+1)&& !decide (b=10)):=by
     have e2:(CZ fun b=>decide (b<k)&& !decide (b=10)).set k (.bool (!decide (k=10)))=CZ fun b=>decide (b<k+1)&& !decide (b=10):=by
      rw [EM _ (by omega)];refine D0 fun b hb=>?_;by_cases h:b=k
      ·subst h;rw [if_pos rfl,decide_eq_true (show b<b+1 by omega),Aa4]
      ·rw [if_neg h]
       congr 1
       exact decide_eq_decide.2 (by omega)
     have:=stg2;unfold rrF at this ⊢;simp only [Aa1,Aa2]at this;rwa [e2]at this
    (conv=>whnf);rw [w64 (x:=(k:Int)+1) (by omega) (by omega)];exact⟨rfl,k+1,rfl,⟨by omega,st3⟩,by omega⟩
   ·obtain rfl:k=256:=by omega
    have hx:∀b,b<256→(decide (b<256)&& !decide (b=10))=(~~~(AE 10 10)).getLsbD b:=fun b hb=>by
     rw [RI _ _ hb,CT _ _ _ hb,decide_eq_true hb,Aa4]
     congr 1
     by_cases h:b=10
     ·subst h;rfl
     ·rw [decide_eq_false h];by_cases h2:10≤b
      ·rw [decide_eq_true h2,decide_eq_false (show¬b≤10 by omega)];rfl
      ·rw [decide_eq_false h2];rfl
    rw [Dy hx]at stg;refine ldN (cs:=Ap (~~~(AE 10 10))) (agD _) (BL (stg.blk 1 rfl)) trivial ?_;(conv=>whnf);rw [w64 (x:=(i:Int)+1) (by omega) (by omega)];refine AI (cs:=Ap (~~~(AE 10 10))) stg 0 (szD _) rfl (by simp [Aq]) (onD _) fun Z1 sz1=>?_;have bz1:Blk Z1 q4 157 (Ap (~~~(AE 10 10))):=by
     have:=sz1.blk 0 rfl;rwa [A8 (by simp [Aq])]at this
    refine ldN (cs:=Ap (~~~(AE 10 10))) (agD _) (BL bz1) trivial ?_;exact⟨sz1.old,by unfold Dq Bo;rw [if_pos h46];rfl⟩
 have d3:((bt t i:Int)==(46:Int))=false:=beq_eq_false_iff_ne.2 (by omega);(conv=>whnf);rw [d3];refine Dg E5 rfl hb1 ?_;rw [←hb2];by_cases h91:bt t i=91
 case neg=>
  have d4:((bt t i:Int) != (91:Int))=true:=by rw [bne_iff_ne];omega
  have hrs:Bo t i=match Bl t DW i with | .inl e=>.inl e | .inr (b,k)=>.inr (AE b b,k):=by unfold Bo;rw [if_neg h46,if_neg h91];rfl
  (conv=>whnf);rw [d4];refine Ao (Em (i:=i) (inner:=false) ht (by omega)) fun H3 ha3=>?_;have st3:=st2.call ha3;unfold Kv;simp only [AaI,if_false];cases ho:Bl t DW i with
  | inl e=>
    rw [ho]at hrs;(conv=>whnf);refine ldN (cs:=Ap 0#256) (agD _) (BL (st3.blk 1 rfl)) trivial (AI (cs:=Ap 0#256) st3 0 (szD _) rfl (by simp [Aq]) (onD _) fun Z1 sz1=>?_);have bz1:Blk Z1 q4 157 (Ap 0#256):=by
     have:=sz1.blk 0 rfl;rwa [A8 (by simp [Aq])]at this
    refine ldN (cs:=Ap 0#256) (agD _) (BL bz1) trivial ?_;exact⟨sz1.old,by unfold Dq;rw [hrs];rfl⟩
  | inr p=>
    obtain⟨c,j⟩:=p;rw [ho]at hrs;have hok:=CL ho;(conv=>whnf);rw [w64 (x:=(c:Int)) (by omega) (by omega)];refine ixa C1 (by omega) (by omega) ?_;refine AT st3 1 ct4 rfl (by rw [Aq];omega) rfl fun H4 st4=>?_;have e0:0+(c:Int).toNat*1=c:=by omega
    rw [e0]at st4;have st5:St H H4 (rrP q4 q8 (AE c c)):=by
     have e2:(Ap 0#256).set c (.bool true)=Ap (AE c c):=by
      rw [Le,Le,EM _ (by omega)];refine D0 fun b hb=>?_;rw [CT _ _ _ hb,P4];by_cases h:b=c
      ·subst h;rw [if_pos rfl,decide_eq_true (Aa0 _)];rfl
      ·rw [if_neg h];by_cases h2:c≤b
       ·rw [decide_eq_true h2,decide_eq_false (show¬b≤c by omega)];rfl
       ·rw [decide_eq_false h2];rfl
     have:=st4;unfold rrP at this ⊢;simp only [Aa1,Aa2]at this;rwa [e2]at this
    refine ldN (cs:=Ap (AE c c)) (agD _) (BL (st5.blk 1 rfl)) trivial (AI (cs:=Ap (AE c c)) st5 0 (szD _) rfl (by simp [Aq]) (onD _) fun Z1 sz1=>?_);have bz1:Blk Z1 q4 157 (Ap (AE c c)):=by
     have:=sz1.blk 0 rfl;rwa [A8 (by simp [Aq])]at this
    refine ldN (cs:=Ap (AE c c)) (agD _) (BL bz1) trivial ?_;exact⟨sz1.old,by unfold Dq;rw [hrs];rfl⟩
 have d4:((bt t i:Int) != (91:Int))=false:=by rw [h91];rfl
 (conv=>whnf);rw [d4];(conv=>whnf);rw [w64 (x:=(i:Int)+1) (by omega) (by omega)];have hrs:Bo t i=GW t (i+1):=by unfold Bo;rw [if_neg h46,if_pos h91]
 obtain⟨nt,hnt⟩:∃nt:Bool,nt=decide (bt t (i+1)=94):=⟨_,rfl⟩;have hbr:GW t (i+1)=ZM nt (CG t (t.size+1) (if nt then i+1+1 else i+1) 0#256):=by
  unfold GW;rw [hnt];by_cases h:bt t (i+1)=94
  ·simp only [h,if_true,decide_true];cases CG t (t.size+1) (i+1+1) 0#256<;>rfl
  ·simp only [h,if_false,decide_false,AaI];cases CG t (t.size+1) (i+1) 0#256<;>rfl
 obtain⟨M,hM⟩:∃M,M=CG t (t.size+1) (if nt then i+1+1 else i+1) 0#256:=⟨_,rfl⟩;rw [←hM]at hbr;rw [hbr]at hrs;have hle:(if nt then i+1+1 else i+1)≤t.size:=by
  cases hn:nt with
  | false=>exact hi
  | true=>
    rw [hn]at hnt;have h94:=of_decide_eq_true hnt.symm;exact Dc (by omega)
 by_cases hi1:i+1<t.size
 case neg=>
  have h256:=Ci hi1;have hn0:nt=false:=by rw [hnt,decide_eq_false];omega
  have d5:decide ((i:Int)+1<(t.size:Int))=false:=decide_eq_false (by omega);(conv=>whnf);rw [d5];(conv=>whnf);refine Am.cut [13] (fun _:Unit=>[.int .i64 ((if nt then i+1+1 else i+1:Nat):Int)]) (fun _ G=>St H G (rrP q4 q8 0#256)) ?_ ?_
  ·(conv=>whnf);exact⟨rfl,(),by rw [hn0];rfl,st2⟩
  ·rintro⟨⟩ G junk0 stg;(conv=>whnf);refine A3.mk [13] (fun y:Nat×Nat×BitVec 256=>[.int .i64 (y.1:Int)]) (fun y G=>Yx H t q4 q8 M y G) (fun y _=>t.size - y.1) ?_ ?_
   ·(conv=>whnf);exact⟨((if nt then i+1+1 else i+1),t.size+1,0#256),rfl,⟨hle,by simp only;omega,hM.symm,stg⟩⟩
   ·rintro⟨j,n,x⟩ J0 junk1 ⟨hj,hfu,heq,stl⟩;simp only at hj hfu heq stl;obtain⟨n,rfl⟩:∃m,n=m+1:=⟨n - 1,by omega⟩;by_cases hjl:j<t.size
    case neg=>
     have hj0:=Ci hjl;have d7:decide ((j:Int)≥(t.size:Int))=true:=decide_eq_true (by omega);have ho:Bl t Dl j= .inl j:=by unfold Bl;rw [hj0,if_neg (by decide),if_pos (.inr (.inl (by decide)))]
     have hmn:M= .inl j:=by rw [←heq,CG,if_neg (by omega),ho]
     rw [hmn]at hrs;(conv=>whnf);rw [d7];(conv=>whnf);try (refine Am.run ?_)
     refine Ao (Em (i:=j) (inner:=true) ht hj) fun J1 ja1=>?_;have stl1:=stl.call ja1;unfold Kv;simp only [if_true];rw [ho];refine Cv C1 Fw D2 (Ap 0#256) rfl (AI (cs:=Ap 0#256) stl1 0 (szD _) rfl (by simp [Aq]) (onD _) fun Z1 sz1=>?_);have bz1:Blk Z1 q4 157 (Ap 0#256):=by
      have:=sz1.blk 0 rfl;rwa [A8 (by simp [Aq])]at this
     refine ldN (cs:=Ap 0#256) (agD _) (BL bz1) trivial ?_;exact⟨sz1.old,by unfold Dq;rw [hrs];rfl⟩
    obtain⟨b5,hb5,hb6,hb7⟩:=CI hjl;have d7:decide ((j:Int)≥(t.size:Int))=false:=decide_eq_false (by omega);(conv=>whnf);rw [d7];refine Dg (i:=j) E5 rfl hb5 ?_;rw [←hb6];by_cases h93:bt t j=93
    ·have d8:((bt t j:Int) != (93:Int))=false:=by rw [h93];rfl
     have hmn:M= .inr (x,j+1):=by rw [←heq,CG,if_pos h93]
     rw [hmn]at hrs;(conv=>whnf);rw [d8];(conv=>whnf);have hn:=hn0;(conv=>whnf);try (refine Am.run ?_)
     refine ldN (cs:=Ap x) (agD _) (BL (stl.blk 1 rfl)) trivial ?_;(conv=>whnf);rw [w64 (x:=(j:Int)+1) (by omega) (by omega)];refine AI (cs:=Ap x) stl 0 (szD _) rfl (by simp [Aq]) (onD _) fun Z1 sz1=>?_;have bz1:Blk Z1 q4 157 (Ap x):=by
      have:=sz1.blk 0 rfl;rwa [A8 (by simp [Aq])]at this
     refine ldN (cs:=Ap x) (agD _) (BL bz1) trivial ?_;exact⟨sz1.old,by unfold Dq;rw [hrs,hn];rfl⟩
    have d8:((bt t j:Int) != (93:Int))=true:=by rw [bne_iff_ne];omega
    (conv=>whnf);rw [d8];(conv=>whnf);try (refine Am.run ?_)
    refine Ao (Em (i:=j) (inner:=true) ht hj) fun J1 ja1=>?_;have stl1:=stl.call ja1;unfold Kv;simp only [if_true];cases ho:Bl t Dl j with
    | inl e=>
      have hmn:M= .inl e:=by rw [←heq,CG,if_neg h93,ho]
      rw [hmn]at hrs;refine Cv C1 Fw D2 (Ap 0#256) rfl (AI (cs:=Ap 0#256) stl1 0 (szD _) rfl (by simp [Aq]) (onD _) fun Z1 sz1=>?_);have bz1:Blk Z1 q4 157 (Ap 0#256):=by
       have:=sz1.blk 0 rfl;rwa [A8 (by simp [Aq])]at this
      refine ldN (cs:=Ap 0#256) (agD _) (BL bz1) trivial ?_;exact⟨sz1.old,by unfold Dq;rw [hrs];rfl⟩
    | inr p=>
      obtain⟨lo,j1⟩:=p;have hok:=CL ho;have hmn:M=FY t lo j1 x (CG t n):=by rw [←heq,CG,if_neg h93,ho]
      unfold FY at hmn;by_cases hj1:j1<t.size
      case neg=>
       have h256:=Ci hj1;have d9:decide ((j1:Int)<(t.size:Int))=false:=decide_eq_false (by omega);rw [if_neg (by omega)]at hmn;(conv=>whnf);try (refine Am.run ?_)
       (conv=>whnf);rw [d9];(conv=>whnf);rw [w64 (x:=(lo:Int)) (by omega) (by omega)];(conv=>whnf);refine A3.mk [20] (fun b:Nat=>[.int .i64 (b:Int)]) (fun b G=>lo≤b∧b≤lo+1∧St H G (rrF q4 q8 fun a=>x.getLsbD a|| (decide (lo≤a)&&decide (a<b)))) (fun b _=>lo+1 - b) ?_ ?_
       ·(conv=>whnf);refine⟨lo,rfl,Aa0 _,by omega,?_⟩;rw [Dy (x:=x) (fun a ha=>by
         by_cases h:lo≤a
         ·rw [decide_eq_false (show¬a<lo by omega),Aa8,Aa3]
         ·rw [decide_eq_false h,Aa9,Aa3])]
        exact stl1
       ·rintro b I0 junk5 ⟨hb1,hb2,sti⟩;(conv=>whnf);rw [w64 (x:=(lo:Int)) (by omega) (by omega)];refine AB.mk (fun hz=>?_) (fun hz=>?_)<;>simp only [decide_eq_true_eq,decide_eq_false_iff_not]at hz
        ·(conv=>whnf);try (refine Am.run ?_)
         refine ixa C1 (by omega) (by omega) ?_;refine AT sti 1 ct4 rfl (by rw [BN];omega) rfl fun I2 sti2=>?_;have e0:0+(b:Int).toNat*1=b:=by omega
         rw [e0]at sti2;have sti3:St H I2 (rrF q4 q8 fun a=>x.getLsbD a|| (decide (lo≤a)&&decide (a<b+1))):=by
          have e2:(CZ fun a=>x.getLsbD a|| (decide (lo≤a)&&decide (a<b))).set b (.bool true)=CZ fun a=>x.getLsbD a|| (decide (lo≤a)&&decide (a<b+1)):=by
           rw [EM _ (by omega)];refine D0 fun a ha=>?_;by_cases h:a=b
           ·subst h;rw [if_pos rfl,decide_eq_true (show lo≤a by omega),decide_eq_true (show a<a+1 by omega),Aa4,AaC]
           ·rw [if_neg h]
            congr 2
            exact decide_eq_decide.2 (by omega)
          have:=sti2;unfold rrF at this ⊢;simp only [Aa1,Aa2]at this;rwa [e2]at this
         (conv=>whnf);rw [w64 (x:=(b:Int)+1) (by omega) (by omega)];exact⟨rfl,b+1,rfl,⟨by omega,by omega,sti3⟩,by omega⟩
        ·obtain rfl:b=lo+1:=by omega
         rw [Dy (x:=x ||| AE lo lo) (fun a ha=>by
          rw [JH,CT _ _ _ ha]
          congr 2
          exact decide_eq_decide.2 (by omega))]at sti
         (conv=>whnf);exact⟨rfl,(j1,n,x ||| AE lo lo),rfl,⟨by simp only;omega,by simp only;omega,hmn.symm,sti⟩,by simp only;omega⟩
      obtain⟨b8,hb8,hb9,hb10⟩:=CI hj1;have d9:decide ((j1:Int)<(t.size:Int))=true:=decide_eq_true (by omega);(conv=>whnf);try (refine Am.run ?_)
      (conv=>whnf);rw [d9];refine Dg (i:=j1) E5 rfl hb8 ?_;rw [←hb9];by_cases h45:bt t j1=45
      case neg=>
       have d10:((bt t j1:Int)==(45:Int))=false:=beq_eq_false_iff_ne.2 (by omega);rw [if_neg h45]at hmn;(conv=>whnf);rw [d10];(conv=>whnf);rw [w64 (x:=(lo:Int)) (by omega) (by omega)];(conv=>whnf);refine A3.mk [20] (fun b:Nat=>[.int .i64 (b:Int)]) (fun b G=>lo≤b∧b≤lo+1∧St H G (rrF q4 q8 fun a=>x.getLsbD a|| (decide (lo≤a)&&decide (a<b)))) (fun b _=>lo+1 - b) ?_ ?_
       ·(conv=>whnf);refine⟨lo,rfl,Aa0 _,by omega,?_⟩;rw [Dy (x:=x) (fun a ha=>by
         by_cases h:lo≤a
         ·rw [decide_eq_false (show¬a<lo by omega),Aa8,Aa3]
         ·rw [decide_eq_false h,Aa9,Aa3])]
        exact stl1
       ·rintro b I0 junk5 ⟨hb1,hb2,sti⟩;(conv=>whnf);rw [w64 (x:=(lo:Int)) (by omega) (by omega)];refine AB.mk (fun hz=>?_) (fun hz=>?_)<;>simp only [decide_eq_true_eq,decide_eq_false_iff_not]at hz
        ·(conv=>whnf);try (refine Am.run ?_)
         refine ixa C1 (by omega) (by omega) ?_;refine AT sti 1 ct4 rfl (by rw [BN];omega) rfl fun I2 sti2=>?_;have e0:0+(b:Int).toNat*1=b:=by omega
         rw [e0]at sti2;have sti3:St H I2 (rrF q4 q8 fun a=>x.getLsbD a|| (decide (lo≤a)&&decide (a<b+1))):=by
          have e2:(CZ fun a=>x.getLsbD a|| (decide (lo≤a)&&decide (a<b))).set b (.bool true)=CZ fun a=>x.getLsbD a|| (decide (lo≤a)&&decide (a<b+1)):=by
           rw [EM _ (by omega)];refine D0 fun a ha=>?_;by_cases h:a=b
           ·subst h;rw [if_pos rfl,decide_eq_true (show lo≤a by omega),decide_eq_true (show a<a+1 by omega),Aa4,AaC]
           ·rw [if_neg h]
            congr 2
            exact decide_eq_decide.2 (by omega)
          have:=sti2;unfold rrF at this ⊢;simp only [Aa1,Aa2]at this;rwa [e2]at this
         (conv=>whnf);rw [w64 (x:=(b:Int)+1) (by omega) (by omega)];exact⟨rfl,b+1,rfl,⟨by omega,by omega,sti3⟩,by omega⟩
        ·obtain rfl:b=lo+1:=by omega
         rw [Dy (x:=x ||| AE lo lo) (fun a ha=>by
          rw [JH,CT _ _ _ ha]
          congr 2
          exact decide_eq_decide.2 (by omega))]at sti
         (conv=>whnf);exact⟨rfl,(j1,n,x ||| AE lo lo),rfl,⟨by simp only;omega,by simp only;omega,hmn.symm,sti⟩,by simp only;omega⟩
      have d10:((bt t j1:Int)==(45:Int))=true:=by rw [h45];rfl
      rw [if_pos h45]at hmn;(conv=>whnf);rw [d10];(conv=>whnf);rw [w64 (x:=(j1:Int)+1) (by omega) (by omega)];refine Ao (Em (i:=j1+1) (inner:=true) ht (by omega)) fun J2 ja2=>?_;have stl2:=stl1.call ja2;unfold Kv;simp only [if_true];cases ho2:Bl t Dl (j1+1)with
      | inl e=>
        rw [ho2]at hmn;rw [hmn]at hrs;refine Cv C1 Fw D2 (Ap 0#256) rfl (AI (cs:=Ap 0#256) stl2 0 (szD _) rfl (by simp [Aq]) (onD _) fun Z1 sz1=>?_);have bz1:Blk Z1 q4 157 (Ap 0#256):=by
         have:=sz1.blk 0 rfl;rwa [A8 (by simp [Aq])]at this
        refine ldN (cs:=Ap 0#256) (agD _) (BL bz1) trivial ?_;exact⟨sz1.old,by unfold Dq;rw [hrs];rfl⟩
      | inr p2=>
        obtain⟨hi2,j2⟩:=p2;have hok2:=CL ho2;rw [ho2]at hmn;by_cases hlt:hi2<lo
        ·have d11:decide ((hi2:Int)<(lo:Int))=true:=decide_eq_true (by omega);simp only [if_pos hlt]at hmn;rw [hmn]at hrs;(conv=>whnf);rw [d11];refine Cv C1 Fw D2 (Ap 0#256) rfl (AI (cs:=Ap 0#256) stl2 0 (szD _) rfl (by simp [Aq]) (onD _) fun Z1 sz1=>?_);have bz1:Blk Z1 q4 157 (Ap 0#256):=by
          have:=sz1.blk 0 rfl;rwa [A8 (by simp [Aq])]at this
         refine ldN (cs:=Ap 0#256) (agD _) (BL bz1) trivial ?_;exact⟨sz1.old,by unfold Dq;rw [hrs];rfl⟩
        ·have d11:decide ((hi2:Int)<(lo:Int))=false:=decide_eq_false (by omega);simp only [if_neg hlt]at hmn;(conv=>whnf);rw [d11];(conv=>whnf);rw [w64 (x:=(lo:Int)) (by omega) (by omega)];(conv=>whnf);refine A3.mk [20] (fun b:Nat=>[.int .i64 (b:Int)]) (fun b G=>lo≤b∧b≤hi2+1∧St H G (rrF q4 q8 fun a=>x.getLsbD a|| (decide (lo≤a)&&decide (a<b)))) (fun b _=>hi2+1 - b) ?_ ?_
         ·(conv=>whnf);refine⟨lo,rfl,Aa0 _,by omega,?_⟩;rw [Dy (x:=x) (fun a ha=>by
           by_cases h:lo≤a
           ·rw [decide_eq_false (show¬a<lo by omega),Aa8,Aa3]
           ·rw [decide_eq_false h,Aa9,Aa3])]
          exact stl2
         ·rintro b I0 junk5 ⟨hb1,hb2,sti⟩;(conv=>whnf);rw [w64 (x:=(hi2:Int)) (by omega) (by omega)];refine AB.mk (fun hz=>?_) (fun hz=>?_)<;>simp only [decide_eq_true_eq,decide_eq_false_iff_not]at hz
          ·(conv=>whnf);try (refine Am.run ?_)
           refine ixa C1 (by omega) (by omega) ?_;refine AT sti 1 ct4 rfl (by rw [BN];omega) rfl fun I2 sti2=>?_;have e0:0+(b:Int).toNat*1=b:=by omega
           rw [e0]at sti2;have sti3:St H I2 (rrF q4 q8 fun a=>x.getLsbD a|| (decide (lo≤a)&&decide (a<b+1))):=by
            have e2:(CZ fun a=>x.getLsbD a|| (decide (lo≤a)&&decide (a<b))).set b (.bool true)=CZ fun a=>x.getLsbD a|| (decide (lo≤a)&&decide (a<b+1)):=by
             rw [EM _ (by omega)];refine D0 fun a ha=>?_;by_cases h:a=b
             ·subst h;rw [if_pos rfl,decide_eq_true (show lo≤a by omega),decide_eq_true (show a<a+1 by omega),Aa4,AaC]
             ·rw [if_neg h]
              congr 2
              exact decide_eq_decide.2 (by omega)
            have:=sti2;unfold rrF at this ⊢;simp only [Aa1,Aa2]at this;rwa [e2]at this
           (conv=>whnf);rw [w64 (x:=(b:Int)+1) (by omega) (by omega)];exact⟨rfl,b+1,rfl,⟨by omega,by omega,sti3⟩,by omega⟩
          ·obtain rfl:b=hi2+1:=by omega
           rw [Dy (x:=x ||| AE lo hi2) (fun a ha=>by
            rw [JH,CT _ _ _ ha]
            congr 2
            exact decide_eq_decide.2 (by omega))]at sti
           (conv=>whnf);exact⟨rfl,(j2,n,x ||| AE lo hi2),rfl,⟨by simp only;omega,by simp only;omega,hmn.symm,sti⟩,by simp only;omega⟩
 obtain⟨b1,hc1,hc2,hc3⟩:=CI hi1;have d5:decide ((i:Int)+1<(t.size:Int))=true:=decide_eq_true (by omega);have d6:((bt t (i+1):Int)==(94:Int))=nt:=by
  rw [hnt];by_cases h:bt t (i+1)=94
  ·rw [h];rfl
  ·rw [decide_eq_false h];exact beq_eq_false_iff_ne.2 (by omega)
 (conv=>whnf);rw [d5];refine Dg (i:=i+1) E5 rfl hc1 ?_;rw [←hc2];(conv=>whnf);rw [d6];(conv=>whnf);refine Am.cut [13] (fun _:Unit=>[.int .i64 ((if nt then i+1+1 else i+1:Nat):Int)]) (fun _ G=>St H G (rrP q4 q8 0#256)) ?_ ?_
 ·refine AB.mk (fun hn=>?_) (fun hn=>?_)
  ·have hn94:bt t (i+1)=94:=by rw [hn]at hnt;exact of_decide_eq_true hnt.symm
   (conv=>whnf);rw [w64 (x:=(i:Int)+1+1) (by omega) (by omega)];exact⟨rfl,(),by rw [hn];rfl,st2⟩
  ·(conv=>whnf);exact⟨rfl,(),by rw [hn];rfl,st2⟩
 ·rintro⟨⟩ G junk0 stg;(conv=>whnf);refine A3.mk [13] (fun y:Nat×Nat×BitVec 256=>[.int .i64 (y.1:Int)]) (fun y G=>Yx H t q4 q8 M y G) (fun y _=>t.size - y.1) ?_ ?_
  ·(conv=>whnf);exact⟨((if nt then i+1+1 else i+1),t.size+1,0#256),rfl,⟨hle,by simp only;omega,hM.symm,stg⟩⟩
  ·rintro⟨j,n,x⟩ J0 junk1 ⟨hj,hfu,heq,stl⟩;simp only at hj hfu heq stl;obtain⟨n,rfl⟩:∃m,n=m+1:=⟨n - 1,by omega⟩;by_cases hjl:j<t.size
   case neg=>
    have hj0:=Ci hjl;have d7:decide ((j:Int)≥(t.size:Int))=true:=decide_eq_true (by omega);have ho:Bl t Dl j= .inl j:=by unfold Bl;rw [hj0,if_neg (by decide),if_pos (.inr (.inl (by decide)))]
    have hmn:M= .inl j:=by rw [←heq,CG,if_neg (by omega),ho]
    rw [hmn]at hrs;(conv=>whnf);rw [d7];(conv=>whnf);try (refine Am.run ?_)
    refine Ao (Em (i:=j) (inner:=true) ht hj) fun J1 ja1=>?_;have stl1:=stl.call ja1;unfold Kv;simp only [if_true];rw [ho];refine Cv C1 Fw D2 (Ap 0#256) rfl (AI (cs:=Ap 0#256) stl1 0 (szD _) rfl (by simp [Aq]) (onD _) fun Z1 sz1=>?_);have bz1:Blk Z1 q4 157 (Ap 0#256):=by
     have:=sz1.blk 0 rfl;rwa [A8 (by simp [Aq])]at this
    refine ldN (cs:=Ap 0#256) (agD _) (BL bz1) trivial ?_;exact⟨sz1.old,by unfold Dq;rw [hrs];rfl⟩
   obtain⟨b5,hb5,hb6,hb7⟩:=CI hjl;have d7:decide ((j:Int)≥(t.size:Int))=false:=decide_eq_false (by omega);(conv=>whnf);rw [d7];refine Dg (i:=j) E5 rfl hb5 ?_;rw [←hb6];by_cases h93:bt t j=93
   ·have d8:((bt t j:Int) != (93:Int))=false:=by rw [h93];rfl
    have hmn:M= .inr (x,j+1):=by rw [←heq,CG,if_pos h93]
    rw [hmn]at hrs;(conv=>whnf);rw [d8];(conv=>whnf);(conv=>whnf);try (refine Am.run ?_)
    refine AB.mk (fun hn=>?_) (fun hn=>?_)
    ·skip
     (conv=>whnf);try (refine Am.run ?_)
     (conv=>whnf);refine A3.mk [21] (fun k:Nat=>[.int .i64 (k:Int)]) (fun k G=>k≤256∧St H G (rrF q4 q8 fun b=>if b<k then !x.getLsbD b else x.getLsbD b)) (fun k _=>256 - k) ?_ ?_
     ·(conv=>whnf);exact⟨0,rfl,by omega,by rw [Dy (x:=x) (fun b hb=>by rw [if_neg (by omega)])];exact stl⟩
     ·rintro k K0 junk7 ⟨hk,stk⟩;refine AB.mk (fun hz=>?_) (fun hz=>?_)<;>simp only [decide_eq_true_eq,decide_eq_false_iff_not]at hz
      ·(conv=>whnf);try (refine Am.run ?_)
       refine ixa C1 (by omega) (by omega) (ld1 (v:=.bool (x.getLsbD k)) ct4 ?_ trivial ?_)
       ·rw [(stk.blk 1 rfl).cell,show 0+(k:Int).toNat*1=k by omega,Gb _ (by omega),if_neg (by omega)]
       refine ixa C1 (by omega) (by omega) ?_;refine AT stk 1 ct4 rfl (by rw [BN];omega) rfl fun K2 stk2=>?_;have e0:0+(k:Int).toNat*1=k:=by omega
       rw [e0]at stk2;have stk3:St H K2 (rrF q4 q8 fun b=>if b<k+1 then !x.getLsbD b else x.getLsbD b):=by
        have e2:(CZ fun b=>if b<k then !x.getLsbD b else x.getLsbD b).set k (.bool (!x.getLsbD k))=CZ fun b=>if b<k+1 then !x.getLsbD b else x.getLsbD b:=by
         rw [EM _ (by omega)];refine D0 fun b hb=>?_;by_cases h:b=k
         ·subst h;rw [if_pos rfl,if_pos (by omega)]
         ·rw [if_neg h];by_cases h2:b<k
          ·rw [if_pos h2,if_pos (by omega)]
          ·rw [if_neg h2,if_neg (by omega)]
        have:=stk2;unfold rrF at this ⊢;simp only [Aa1,Aa2]at this;rwa [e2]at this
       (conv=>whnf);rw [w64 (x:=(k:Int)+1) (by omega) (by omega)];exact⟨rfl,k+1,rfl,⟨by omega,stk3⟩,by omega⟩
      ·obtain rfl:k=256:=by omega
       rw [Dy (x:= ~~~x) (fun b hb=>by rw [if_pos hb,RI _ _ hb])]at stk;refine ldN (cs:=Ap (~~~x)) (agD _) (BL (stk.blk 1 rfl)) trivial ?_;(conv=>whnf);rw [w64 (x:=(j:Int)+1) (by omega) (by omega)];refine AI (cs:=Ap (~~~x)) stk 0 (szD _) rfl (by simp [Aq]) (onD _) fun Z1 sz1=>?_;have bz1:Blk Z1 q4 157 (Ap (~~~x)):=by
        have:=sz1.blk 0 rfl;rwa [A8 (by simp [Aq])]at this
       refine ldN (cs:=Ap (~~~x)) (agD _) (BL bz1) trivial ?_;exact⟨sz1.old,by unfold Dq;rw [hrs,hn];rfl⟩
    ·skip
     (conv=>whnf);try (refine Am.run ?_)
     refine ldN (cs:=Ap x) (agD _) (BL (stl.blk 1 rfl)) trivial ?_;(conv=>whnf);rw [w64 (x:=(j:Int)+1) (by omega) (by omega)];refine AI (cs:=Ap x) stl 0 (szD _) rfl (by simp [Aq]) (onD _) fun Z1 sz1=>?_;have bz1:Blk Z1 q4 157 (Ap x):=by
      have:=sz1.blk 0 rfl;rwa [A8 (by simp [Aq])]at this
     refine ldN (cs:=Ap x) (agD _) (BL bz1) trivial ?_;exact⟨sz1.old,by unfold Dq;rw [hrs,hn];rfl⟩
   have d8:((bt t j:Int) != (93:Int))=true:=by rw [bne_iff_ne];omega
   (conv=>whnf);rw [d8];(conv=>whnf);try (refine Am.run ?_)
   refine Ao (Em (i:=j) (inner:=true) ht hj) fun J1 ja1=>?_;have stl1:=stl.call ja1;unfold Kv;simp only [if_true];cases ho:Bl t Dl j with
   | inl e=>
     have hmn:M= .inl e:=by rw [←heq,CG,if_neg h93,ho]
     rw [hmn]at hrs;refine Cv C1 Fw D2 (Ap 0#256) rfl (AI (cs:=Ap 0#256) stl1 0 (szD _) rfl (by simp [Aq]) (onD _) fun Z1 sz1=>?_);have bz1:Blk Z1 q4 157 (Ap 0#256):=by
      have:=sz1.blk 0 rfl;rwa [A8 (by simp [Aq])]at this
     refine ldN (cs:=Ap 0#256) (agD _) (BL bz1) trivial ?_;exact⟨sz1.old,by unfold Dq;rw [hrs];rfl⟩
   | inr p=>
     obtain⟨lo,j1⟩:=p;have hok:=CL ho;have hmn:M=FY t lo j1 x (CG t n):=by rw [←heq,CG,if_neg h93,ho]
     unfold FY at hmn;by_cases hj1:j1<t.size
     case neg=>
      have h256:=Ci hj1;have d9:decide ((j1:Int)<(t.size:Int))=false:=decide_eq_false (by omega);rw [if_neg (by omega)]at hmn;(conv=>whnf);try (refine Am.run ?_)
      (conv=>whnf);rw [d9];(conv=>whnf);rw [w64 (x:=(lo:Int)) (by omega) (by omega)];(conv=>whnf);refine A3.mk [20] (fun b:Nat=>[.int .i64 (b:Int)]) (fun b G=>lo≤b∧b≤lo+1∧St H G (rrF q4 q8 fun a=>x.getLsbD a|| (decide (lo≤a)&&decide (a<b)))) (fun b _=>lo+1 - b) ?_ ?_
      ·(conv=>whnf);refine⟨lo,rfl,Aa0 _,by omega,?_⟩;rw [Dy (x:=x) (fun a ha=>by
        by_cases h:lo≤a
        ·rw [decide_eq_false (show¬a<lo by omega),Aa8,Aa3]
        ·rw [decide_eq_false h,Aa9,Aa3])]
       exact stl1
      ·rintro b I0 junk5 ⟨hb1,hb2,sti⟩;(conv=>whnf);rw [w64 (x:=(lo:Int)) (by omega) (by omega)];refine AB.mk (fun hz=>?_) (fun hz=>?_)<;>simp only [decide_eq_true_eq,decide_eq_false_iff_not]at hz
       ·(conv=>whnf);try (refine Am.run ?_)
        refine ixa C1 (by omega) (by omega) ?_;refine AT sti 1 ct4 rfl (by rw [BN];omega) rfl fun I2 sti2=>?_;have e0:0+(b:Int).toNat*1=b:=by omega
        rw [e0]at sti2;have sti3:St H I2 (rrF q4 q8 fun a=>x.getLsbD a|| (decide (lo≤a)&&decide (a<b+1))):=by
         have e2:(CZ fun a=>x.getLsbD a|| (decide (lo≤a)&&decide (a<b))).set b (.bool true)=CZ fun a=>x.getLsbD a|| (decide (lo≤a)&&decide (a<b+1)):=by
          rw [EM _ (by omega)];refine D0 fun a ha=>?_;by_cases h:a=b
          ·subst h;rw [if_pos rfl,decide_eq_true (show lo≤a by omega),decide_eq_true (show a<a+1 by omega),Aa4,AaC]
          ·rw [if_neg h]
           congr 2
           exact decide_eq_decide.2 (by omega)
         have:=sti2;unfold rrF at this ⊢;simp only [Aa1,Aa2]at this;rwa [e2]at this
        (conv=>whnf);rw [w64 (x:=(b:Int)+1) (by omega) (by omega)];exact⟨rfl,b+1,rfl,⟨by omega,by omega,sti3⟩,by omega⟩
       ·obtain rfl:b=lo+1:=by omega
        rw [Dy (x:=x ||| AE lo lo) (fun a ha=>by
         rw [JH,CT _ _ _ ha]
         congr 2
         exact decide_eq_decide.2 (by omega))]at sti
        (conv=>whnf);exact⟨rfl,(j1,n,x ||| AE lo lo),rfl,⟨by simp only;omega,by simp only;omega,hmn.symm,sti⟩,by simp only;omega⟩
     obtain⟨b8,hb8,hb9,hb10⟩:=CI hj1;have d9:decide ((j1:Int)<(t.size:Int))=true:=decide_eq_true (by omega);(conv=>whnf);try (refine Am.run ?_)
     (conv=>whnf);rw [d9];refine Dg (i:=j1) E5 rfl hb8 ?_;rw [←hb9];by_cases h45:bt t j1=45
     case neg=>
      have d10:((bt t j1:Int)==(45:Int))=false:=beq_eq_false_iff_ne.2 (by omega);rw [if_neg h45]at hmn;(conv=>whnf);rw [d10];(conv=>whnf);rw [w64 (x:=(lo:Int)) (by omega) (by omega)];(conv=>whnf);refine A3.mk [20] (fun b:Nat=>[.int .i64 (b:Int)]) (fun b G=>lo≤b∧b≤lo+1∧St H G (rrF q4 q8 fun a=>x.getLsbD a|| (decide (lo≤a)&&decide (a<b)))) (fun b _=>lo+1 - b) ?_ ?_
      ·(conv=>whnf);refine⟨lo,rfl,Aa0 _,by omega,?_⟩;rw [Dy (x:=x) (fun a ha=>by
        by_cases h:lo≤a
        ·rw [decide_eq_false (show¬a<lo by omega),Aa8,Aa3]
        ·rw [decide_eq_false h,Aa9,Aa3])]
       exact stl1
      ·rintro b I0 junk5 ⟨hb1,hb2,sti⟩;(conv=>whnf);rw [w64 (x:=(lo:Int)) (by omega) (by omega)];refine AB.mk (fun hz=>?_) (fun hz=>?_)<;>simp only [decide_eq_true_eq,decide_eq_false_iff_not]at hz
       ·(conv=>whnf);try (refine Am.run ?_)
        refine ixa C1 (by omega) (by omega) ?_;refine AT sti 1 ct4 rfl (by rw [BN];omega) rfl fun I2 sti2=>?_;have e0:0+(b:Int).toNat*1=b:=by omega
        rw [e0]at sti2;have sti3:St H I2 (rrF q4 q8 fun a=>x.getLsbD a|| (decide (lo≤a)&&decide (a<b+1))):=by
         have e2:(CZ fun a=>x.getLsbD a|| (decide (lo≤a)&&decide (a<b))).set b (.bool true)=CZ fun a=>x.getLsbD a|| (decide (lo≤a)&&decide (a<b+1)):=by
          rw [EM _ (by omega)];refine D0 fun a ha=>?_;by_cases h:a=b
          ·subst h;rw [if_pos rfl,decide_eq_true (show lo≤a by omega),decide_eq_true (show a<a+1 by omega),Aa4,AaC]
          ·rw [if_neg h]
           congr 2
           exact decide_eq_decide.2 (by omega)
         have:=sti2;unfold rrF at this ⊢;simp only [Aa1,Aa2]at this;rwa [e2]at this
        (conv=>whnf);rw [w64 (x:=(b:Int)+1) (by omega) (by omega)];exact⟨rfl,b+1,rfl,⟨by omega,by omega,sti3⟩,by omega⟩
       ·obtain rfl:b=lo+1:=by omega
        rw [Dy (x:=x ||| AE lo lo) (fun a ha=>by
         rw [JH,CT _ _ _ ha]
         congr 2
         exact decide_eq_decide.2 (by omega))]at sti
        (conv=>whnf);exact⟨rfl,(j1,n,x ||| AE lo lo),rfl,⟨by simp only;omega,by simp only;omega,hmn.symm,sti⟩,by simp only;omega⟩
     have d10:((bt t j1:Int)==(45:Int))=true:=by rw [h45];rfl
     rw [if_pos h45]at hmn;(conv=>whnf);rw [d10];(conv=>whnf);rw [w64 (x:=(j1:Int)+1) (by omega) (by omega)];refine Ao (Em (i:=j1+1) (inner:=true) ht (by omega)) fun J2 ja2=>?_;have stl2:=stl1.call ja2;unfold Kv;simp only [if_true];cases ho2:Bl t Dl (j1+1)with
     | inl e=>
       rw [ho2]at hmn;rw [hmn]at hrs;refine Cv C1 Fw D2 (Ap 0#256) rfl (AI (cs:=Ap 0#256) stl2 0 (szD _) rfl (by simp [Aq]) (onD _) fun Z1 sz1=>?_);have bz1:Blk Z1 q4 157 (Ap 0#256):=by
        have:=sz1.blk 0 rfl;rwa [A8 (by simp [Aq])]at this
       refine ldN (cs:=Ap 0#256) (agD _) (BL bz1) trivial ?_;exact⟨sz1.old,by unfold Dq;rw [hrs];rfl⟩
     | inr p2=>
       obtain⟨hi2,j2⟩:=p2;have hok2:=CL ho2;rw [ho2]at hmn;by_cases hlt:hi2<lo
       ·have d11:decide ((hi2:Int)<(lo:Int))=true:=decide_eq_true (by omega);simp only [if_pos hlt]at hmn;rw [hmn]at hrs;(conv=>whnf);rw [d11];refine Cv C1 Fw D2 (Ap 0#256) rfl (AI (cs:=Ap 0#256) stl2 0 (szD _) rfl (by simp [Aq]) (onD _) fun Z1 sz1=>?_);have bz1:Blk Z1 q4 157 (Ap 0#256):=by
         have:=sz1.blk 0 rfl;rwa [A8 (by simp [Aq])]at this
        refine ldN (cs:=Ap 0#256) (agD _) (BL bz1) trivial ?_;exact⟨sz1.old,by unfold Dq;rw [hrs];rfl⟩
       ·have d11:decide ((hi2:Int)<(lo:Int))=false:=decide_eq_false (by omega);simp only [if_neg hlt]at hmn;(conv=>whnf);rw [d11];(conv=>whnf);rw [w64 (x:=(lo:Int)) (by omega) (by omega)];(conv=>whnf);refine A3.mk [20] (fun b:Nat=>[.int .i64 (b:Int)]) (fun b G=>lo≤b∧b≤hi2+1∧St H G (rrF q4 q8 fun a=>x.getLsbD a|| (decide (lo≤a)&&decide (a<b)))) (fun b _=>hi2+1 - b) ?_ ?_
        ·(conv=>whnf);refine⟨lo,rfl,Aa0 _,by omega,?_⟩;rw [Dy (x:=x) (fun a ha=>by
          by_cases h:lo≤a
          ·rw [decide_eq_false (show¬a<lo by omega),Aa8,Aa3]
          ·rw [decide_eq_false h,Aa9,Aa3])]
         exact stl2
        ·rintro b I0 junk5 ⟨hb1,hb2,sti⟩;(conv=>whnf);rw [w64 (x:=(hi2:Int)) (by omega) (by omega)];refine AB.mk (fun hz=>?_) (fun hz=>?_)<;>simp only [decide_eq_true_eq,decide_eq_false_iff_not]at hz
         ·(conv=>whnf);try (refine Am.run ?_)
          refine ixa C1 (by omega) (by omega) ?_;refine AT sti 1 ct4 rfl (by rw [BN];omega) rfl fun I2 sti2=>?_;have e0:0+(b:Int).toNat*1=b:=by omega
          rw [e0]at sti2;have sti3:St H I2 (rrF q4 q8 fun a=>x.getLsbD a|| (decide (lo≤a)&&decide (a<b+1))):=by
           have e2:(CZ fun a=>x.getLsbD a|| (decide (lo≤a)&&decide (a<b))).set b (.bool true)=CZ fun a=>x.getLsbD a|| (decide (lo≤a)&&decide (a<b+1)):=by
            rw [EM _ (by omega)];refine D0 fun a ha=>?_;by_cases h:a=b
            ·subst h;rw [if_pos rfl,decide_eq_true (show lo≤a by omega),decide_eq_true (show a<a+1 by omega),Aa4,AaC]
            ·rw [if_neg h]
             congr 2
             exact decide_eq_decide.2 (by omega)
           have:=sti2;unfold rrF at this ⊢;simp only [Aa1,Aa2]at this;rwa [e2]at this
          (conv=>whnf);rw [w64 (x:=(b:Int)+1) (by omega) (by omega)];exact⟨rfl,b+1,rfl,⟨by omega,by omega,sti3⟩,by omega⟩
         ·obtain rfl:b=hi2+1:=by omega
          rw [Dy (x:=x ||| AE lo hi2) (fun a ha=>by
           rw [JH,CT _ _ _ ha]
           congr 2
           exact decide_eq_decide.2 (by omega))]at sti
          (conv=>whnf);exact⟨rfl,(j2,n,x ||| AE lo hi2),rfl,⟨by simp only;omega,by simp only;omega,hmn.symm,sti⟩,by simp only;omega⟩
abbrev scL(t:ByteArray)(i:Nat)(ov:Value):List Value:=[.string t,.int .i64 (i:Int),ov]
abbrev pSc(s:Nat)(t:ByteArray)(i:Nat)(ov:Value):Pc:=pB 139 s (scL t i ov)
theorem Ep{H:Aa}{s i:Nat}{t:ByteArray}{ov:Value}(hb:Blk H s 139 (scL t i ov)):B8 Tryz.prog 73 #[.pointer (some ⟨s,0,none⟩)] H (.bool (decide (t.size≤i))):=by
 refine Al.of_vc Tryz.func73 rfl (Tryz.call73 _) (Ar.lex rfl (by kernel_rfl) (VC.fa AC ?_));refine ld1 (v:=.int .i64 (i:Int)) ct3 (by rw [hb.cell];rfl) trivial ?_;refine VC.fa K6 ?_;refine ld1 (v:=.string t) ct9 (by rw [hb.cell];rfl) trivial ?_;(conv=>whnf);refine⟨?_,Agr.refl _ _⟩
 congr 1
 rw [decide_eq_decide];omega
theorem Df{H:Aa}{s i:Nat}{t:ByteArray}{ov:Value}(hb:Blk H s 139 (scL t i ov))(hi:i<t.size):B8 Tryz.prog 129 #[.pointer (some ⟨s,0,none⟩)] H (.int .u8 (bt t i:Int)):=by
 refine Al.of_vc Tryz.func129 rfl (Tryz.call129 _) (Ar.lex rfl (by kernel_rfl) (VC.fa AC ?_));refine ld1 (v:=.int .i64 (i:Int)) ct3 (by rw [hb.cell];rfl) trivial ?_;refine VC.fa K6 ?_;refine ld1 (v:=.string t) ct9 (by rw [hb.cell];rfl) trivial ?_;obtain⟨b,h1,h2,h3⟩:=CI hi;have d1:decide ((i:Int)<(t.size:Int))=true:=decide_eq_true (by omega);(conv=>whnf);rw [d1];refine Ar.lex rfl (by kernel_rfl) (VC.fa K6 ?_);refine ld1 (v:=.string t) ct9 (by rw [hb.cell];rfl) trivial ?_;refine VC.fa AC ?_;refine ld1 (v:=.int .i64 (i:Int)) ct3 (by rw [hb.cell];rfl) trivial ?_;refine Dg E5 rfl h1 ?_;(conv=>whnf);refine⟨?_,Agr.refl _ _⟩;rw [h2]
theorem CC{H:Aa}{s c e:Nat}:BC Tryz.prog 74 #[.pointer (some ⟨s,0,none⟩),.int .i64 (c:Int),.int .i64 (e:Int)] H (fun _ _=>False) (fun x H'=>x=D5 c e∧H'=H):=by
 refine BC.of_vc Tryz.func74 rfl (Tryz.call74 _) (A6 Tryz.underlying68 rfl _ rfl [.int .i64 (c:Int),.int .i64 (e:Int),.string ⟨#[]⟩] rfl ?_);(conv=>whnf);exact⟨rfl,rfl⟩
theorem NG{B:Nat→Prop}{H:Aa}{ps:List Pc}{k s i:Nat}{t:ByteArray}{ov:Value}(ht:t.size≤1152921504606846976)(hi:i≤t.size)(st:StB B H H ps)(hp:ps[k]? =some (pSc s t i ov)):
  BC Tryz.prog 231 #[.pointer (some ⟨s,0,none⟩)] H (fun v H'=>Dt t i=true∧v= .int .i64 (((Bz t 3 i 0).1:Nat):Int)∧StB B H H' (ps.set k (pSc s t (Bz t 3 i 0).2 ov)))
   (fun x H'=>Dt t i=false∧x=D5 20 i∧Agr B H H'):=by
 refine BC.of_vc Tryz.func231 rfl (Tryz.call231 _) (Ce.of (Ar.lex rfl (by kernel_rfl) (VC.fa AC ?_)));refine ld1 (v:=.int .i64 (i:Int)) ct3 (by rw [(st.blk k hp).cell];rfl) trivial ?_;(conv=>whnf);refine Ed.mk [3] (fun x:Nat×Nat=>match x with | (_,v)=>[.int .i64 (v:Int)]) (fun x G=>match x with | (n,v)=>n≤3∧v<10 ^ n∧Bz t 3 i 0=Bz t (3 - n) (i+n) v∧(n=0∨Dt t i=true)∧StB B H G (ps.set k (pSc s t (i+n) ov))) (fun x _=>match x with | (n,_)=>3 - n) ?_ ?_
 ·(conv=>whnf);exact⟨(0,0),rfl,by omega,by decide,rfl,.inl rfl,by rw [Nat.add_zero,Cn hp];exact st⟩
 ·rintro⟨n,v⟩ G junk ⟨hn,hv,hm,hd,stg⟩;have hpg:(ps.set k (pSc s t (i+n) ov))[k]? =some (pSc s t (i+n) ov):=GE hp;have out:(n=3∨Dt t (i+n)=false)→Bz t 3 i 0=(v,i+n):=fun h=>by
   rw [hm];rcases h with rfl | h
   ·rfl
   ·cases h3:3 - n with
    | zero=>rfl
    | succ m=>unfold Bz;rw [h];rfl
  refine Ah.of (Ao (Ep (stg.blk k hpg)) fun G1 ha1=>?_);have st1:=stg.call ha1;by_cases h0:i+n<t.size
  ·obtain⟨b0,-,-,hb3⟩:=CI h0;rw [decide_eq_false (show¬t.size≤i+n by omega)];refine VC.fa AC ?_;refine ld1 (v:=.int .i64 ((i+n:Nat):Int)) ct3 (by rw [(st1.blk k hpg).cell];rfl) trivial ?_;(conv=>whnf);rw [w64 (x:=(i:Int)+3) (by omega) (by omega)];by_cases h1:n=3
   ·have d1:decide (((i+n:Nat):Int)<(i:Int)+3)=false:=decide_eq_false (by omega);(conv=>whnf);rw [d1];refine AQ.run (VC.fa AC ?_);refine ld1 (v:=.int .i64 ((i+n:Nat):Int)) ct3 (by rw [(st1.blk k hpg).cell];rfl) trivial ?_;have hr:=out (.inl h1);by_cases hn0:n=0
    ·have d9:(((i+n:Nat):Int)==(i:Int))=true:=by rw [hn0];exact beq_self_eq_true _
     (conv=>whnf);rw [d9];refine VC.fa AC ?_;refine ld1 (v:=.int .i64 ((i+n:Nat):Int)) ct3 (by rw [(st1.blk k hpg).cell];rfl) trivial ?_;refine Ah.mk (CC (c:=20) (e:=i+n)) (fun _ _ h=>h.elim) ?_;rintro _ _ ⟨rfl,rfl⟩;subst hn0
     exact⟨by rcases(.inl h1:0=3∨Dt t (i+0)=false)with h | h
              ·omega
              ·exact h,rfl,st1.old⟩
    ·have d9:(((i+n:Nat):Int)==(i:Int))=false:=beq_eq_false_iff_ne.2 (by omega);(conv=>whnf);rw [d9];(conv=>whnf);rw [hr];exact⟨hd.resolve_left hn0,rfl,st1⟩
   ·have d1:decide (((i+n:Nat):Int)<(i:Int)+3)=true:=decide_eq_true (by omega);(conv=>whnf);rw [d1];refine Ah.of (Ao (Df (st1.blk k hpg) h0) fun G2 ha2=>?_);have st2:=st1.call ha2;by_cases h2:48≤bt t (i+n)
    ·have d2:decide (((bt t (i+n):Nat):Int)≥48)=true:=decide_eq_true (by omega);have d2':decide (48≤((bt t (i+n):Nat):Int))=true:=d2;(conv=>whnf);rw [d2'];refine Ah.of (Ao (Df (st2.blk k hpg) h0) fun G3 ha3=>?_);have st3:=st2.call ha3;by_cases h3:bt t (i+n)≤57
     ·have d3:decide (((bt t (i+n):Nat):Int)≤57)=true:=decide_eq_true (by omega);have hdg:Dt t (i+n)=true:=decide_eq_true ⟨h2,h3⟩;(conv=>whnf);rw [d3];refine Ah.of (Ao (Df (st3.blk k hpg) h0) fun G4 ha4=>?_);have st4:=st3.call ha4;(conv=>whnf);rw [w64 (x:=10*(v:Int)) (by have:v<1000:=Aa7 hv (Aa6 (by omega) hn);omega) (by have:v<1000:=Aa7 hv (Aa6 (by omega) hn);omega)];(conv=>whnf);rw [w8 (x:=((bt t (i+n):Nat):Int) - 48) (by omega) (by omega)];(conv=>whnf);rw [w64 (x:=((bt t (i+n):Nat):Int) - 48) (by omega) (by omega)];(conv=>whnf);rw [w64 (x:=10*(v:Int)+(((bt t (i+n):Nat):Int) - 48)) (by omega) (by have:v<1000:=Aa7 hv (Aa6 (by omega) hn);omega)];refine VC.fa AC ?_;refine ld1 (v:=.int .i64 ((i+n:Nat):Int)) ct3 (by rw [(st4.blk k hpg).cell];rfl) trivial ?_;(conv=>whnf);rw [w64 (x:=((i+n:Nat):Int)+1) (by omega) (by omega)];refine VC.fa AC (AT st4 k ct3 hpg (by simp) rfl fun G5 st5=>?_);refine⟨rfl,(n+1,10*v+(bt t (i+n) - 48)),?_,⟨by omega,?_,?_,.inr ?_,?_⟩,by show 3 - (n+1)<3 - n;omega⟩
      ·show [Value.int .i64 (10*(v:Int)+(((bt t (i+n):Nat):Int) - 48))]=[.int .i64 ((10*v+(bt t (i+n) - 48):Nat):Int)]
       congr 2;omega
      ·rw [AaN];omega
      ·rw [hm,show 3 - n=(3 - (n+1))+1 by omega,Bz,hdg];rfl
      ·rcases hd with rfl | hd
       ·exact hdg
       ·exact hd
      ·rw [AaE]at st5;exact st5
     ·have d3:decide (((bt t (i+n):Nat):Int)≤57)=false:=decide_eq_false (by omega);(conv=>whnf);rw [d3];refine AQ.run (VC.fa AC ?_);refine ld1 (v:=.int .i64 ((i+n:Nat):Int)) ct3 (by rw [(st3.blk k hpg).cell];rfl) trivial ?_;have hr:=out (.inr (decide_eq_false fun h=>h3 h.2));by_cases hn0:n=0
      ·have d9:(((i+n:Nat):Int)==(i:Int))=true:=by rw [hn0];exact beq_self_eq_true _
       (conv=>whnf);rw [d9];refine VC.fa AC ?_;refine ld1 (v:=.int .i64 ((i+n:Nat):Int)) ct3 (by rw [(st3.blk k hpg).cell];rfl) trivial ?_;refine Ah.mk (CC (c:=20) (e:=i+n)) (fun _ _ h=>h.elim) ?_;rintro _ _ ⟨rfl,rfl⟩;subst hn0
       exact⟨by rcases(.inr (decide_eq_false fun h=>h3 h.2):0=3∨Dt t (i+0)=false)with h | h
                ·omega
                ·exact h,rfl,st3.old⟩
      ·have d9:(((i+n:Nat):Int)==(i:Int))=false:=beq_eq_false_iff_ne.2 (by omega);(conv=>whnf);rw [d9];(conv=>whnf);rw [hr];exact⟨hd.resolve_left hn0,rfl,st3⟩
    ·have d2':decide (48≤((bt t (i+n):Nat):Int))=false:=decide_eq_false (by omega);(conv=>whnf);rw [d2'];refine AQ.run (VC.fa AC ?_);refine ld1 (v:=.int .i64 ((i+n:Nat):Int)) ct3 (by rw [(st2.blk k hpg).cell];rfl) trivial ?_;have hr:=out (.inr (decide_eq_false fun h=>h2 h.1));by_cases hn0:n=0
     ·have d9:(((i+n:Nat):Int)==(i:Int))=true:=by rw [hn0];exact beq_self_eq_true _
      (conv=>whnf);rw [d9];refine VC.fa AC ?_;refine ld1 (v:=.int .i64 ((i+n:Nat):Int)) ct3 (by rw [(st2.blk k hpg).cell];rfl) trivial ?_;refine Ah.mk (CC (c:=20) (e:=i+n)) (fun _ _ h=>h.elim) ?_;rintro _ _ ⟨rfl,rfl⟩;subst hn0
      exact⟨by rcases(.inr (decide_eq_false fun h=>h2 h.1):0=3∨Dt t (i+0)=false)with h | h
               ·omega
               ·exact h,rfl,st2.old⟩
     ·have d9:(((i+n:Nat):Int)==(i:Int))=false:=beq_eq_false_iff_ne.2 (by omega);(conv=>whnf);rw [d9];(conv=>whnf);rw [hr];exact⟨hd.resolve_left hn0,rfl,st2⟩
  ·rw [decide_eq_true (show t.size≤i+n by omega)];refine AQ.run (VC.fa AC ?_);refine ld1 (v:=.int .i64 ((i+n:Nat):Int)) ct3 (by rw [(st1.blk k hpg).cell];rfl) trivial ?_;have hr:=out (.inr (decide_eq_false fun h=>by have:=Ci h0;omega));by_cases hn0:n=0
   ·have d9:(((i+n:Nat):Int)==(i:Int))=true:=by rw [hn0];exact beq_self_eq_true _
    (conv=>whnf);rw [d9];refine VC.fa AC ?_;refine ld1 (v:=.int .i64 ((i+n:Nat):Int)) ct3 (by rw [(st1.blk k hpg).cell];rfl) trivial ?_;refine Ah.mk (CC (c:=20) (e:=i+n)) (fun _ _ h=>h.elim) ?_;rintro _ _ ⟨rfl,rfl⟩;subst hn0
    exact⟨by rcases(.inr (decide_eq_false fun h=>by have:=Ci h0;omega):0=3∨Dt t (i+0)=false)with h | h
             ·omega
             ·exact h,rfl,st1.old⟩
   ·have d9:(((i+n:Nat):Int)==(i:Int))=false:=beq_eq_false_iff_ne.2 (by omega);(conv=>whnf);rw [d9];(conv=>whnf);rw [hr];exact⟨hd.resolve_left hn0,rfl,st1⟩
theorem NJ{ps l:List Pc}{k:Nat}{p q r:Pc}(hp:ps[k]? =some p):(ps.set k q++l).set k r=ps.set k r++l:=by
 rw [lsL (GE hp),AaE]
theorem Fy{ps l:List Pc}{k:Nat}{p q:Pc}(hp:ps[k]? =some p):(ps.set k q++l)[k]? =some q:=lgL (GE hp)
structure Tu(B:Nat→Prop)(H:Aa)(ps:List Pc)(k s:Nat)(t:ByteArray)(j:Nat)(ov:Value)(r:ReM)(v:Value)(H':Aa):Prop where
 ex:∃(B':Nat→Prop) (fn:Value),v= .agg (Ab r fn).toArray∧(∀k,B k→B' k)∧Agr B H H'∧StB B' H' H' (ps.set k (pSc s t j ov))∧Cq B' H' fn r
theorem El{c d:Nat}(h:c≠d):((c:Int)==(d:Int))=false:=beq_eq_false_iff_ne.2 (by omega)
theorem TG{B:Nat→Prop}{H:Aa}{ps:List Pc}{k s i:Nat}{t:ByteArray}{ov:Value}{a:ReM}{va:Value}(ht:t.size≤1152921504606846)(hc:bt t i=123)(st:StB B H H ps)(hp:ps[k]? =some (pSc s t i ov))(ga:Cq B H va a):
  BC Tryz.prog 217 #[.pointer (some ⟨s,0,none⟩),.agg (Ab a va).toArray] H (fun v H'=>∃m n j,BF t i= .inr (m,n,j)∧Tu B H ps k s t j ov (BH a m n) v H')
   (fun x H'=>∃c p:Nat,BF t i= .inl (c,p)∧x=D5 c p∧Agr B H H'):=by
 have hi:i<t.size:=Dc (by omega);obtain⟨g1,c1,rfl⟩:=ga.fn;refine BC.of_vc Tryz.func217 rfl (Tryz.call217 _) (B0 (Ab a (.func (.func g1) #[] c1)) rfl ?_);intro q1 H1 hq1 hs1 hb1 ha1;have st1:=st.box hq1 hs1 hb1 ha1;refine Ak (.agg Aj.toArray) Aj CM rfl ?_;intro q2 H2 hq2 hs2 hb2 ha2;have st2:=st1.box hq2 hs2 hb2 ha2;rw [AaJ]at st2;replace st2:StB B H H2 (ps++[pB 142 q1 (Ab a (.func (.func g1) #[] c1)),pB 142 q2 Aj]):=st2;have hp2:(ps++[pB 142 q1 (Ab a (.func (.func g1) #[] c1)),pB 142 q2 Aj])[k]? =some (pSc s t i ov):=lgL hp;refine VC.fa AC ?_;refine ld1 (v:=.int .i64 ((i:Nat):Int)) ct3 (by rw [(st2.blk k hp2).cell];rfl) trivial ?_;refine VC.fa AC ?_;refine ld1 (v:=.int .i64 ((i:Nat):Int)) ct3 (by rw [(st2.blk k hp2).cell];rfl) trivial ?_;(conv=>whnf);rw [w64 (x:=((i:Nat):Int)+1) (by omega) (by omega)];refine VC.fa AC (AT st2 k ct3 hp2 (by simp) rfl fun H3 st3=>?_);rw [lsL hp]at st3;replace st3:StB B H H3 (ps.set k (pSc s t (i+1) ov)++[pB 142 q1 (Ab a (.func (.func g1) #[] c1)),pB 142 q2 Aj]):=st3;have a3:=st3.old;refine Ah.mk (NG (by omega) (by omega) st3.rebase (Fy hp)) ?_ ?_
 rotate_left
 ·rintro _ H4 ⟨hd,rfl,a4⟩;exact⟨20,i+1,by unfold BF;rw [hd];rfl,rfl,a3.trans a4⟩
 rintro _ H4 ⟨hd,rfl,st4⟩;have a4:=a3.trans st4.old;rw [NJ hp]at st4;replace st4:=st4.rebase;obtain⟨-,-,hj⟩:=FA (t:=t) 3 (i+1) 0;replace hj:=hj (by omega);have hm:=KN (t:=t) 3 (i+1) 0;have hbr:BF t i=(match upM t (Bz t 3 (i+1) 0).1 (Bz t 3 (i+1) 0).2 with
  | .inl e=>.inl e
  | .inr (n,j)=>E9 t i (Bz t 3 (i+1) 0).1 n j):=by unfold BF;rw [if_pos hd];cases upM t (Bz t 3 (i+1) 0).1 (Bz t 3 (i+1) 0).2<;>rfl
 generalize Bz t 3 (i+1) 0=q at*;obtain⟨m,j⟩:=q;replace hm:m<1000:=hm;replace hj:j≤t.size:=hj;replace hbr:BF t i=(match upM t m j with
  | .inl e=>.inl e
  | .inr (n,j)=>E9 t i m n j):=hbr
 replace st4:StB B H4 H4 (ps.set k (pSc s t j ov)++[pB 142 q1 (Ab a (.func (.func g1) #[] c1)),pB 142 q2 Aj]):=st4;(conv=>whnf);refine AQ.cut [7] (fun x:Int×Nat=>match x with | (n,_)=>[.int .i64 n]) (fun x G=>match x with | (n,e)=>upM t m j= .inr (n,e)∧e≤t.size∧ -1≤n∧n<1000∧Agr B H G∧StB B G G (ps.set k (pSc s t e ov)++[pB 142 q1 (Ab a (.func (.func g1) #[] c1)),pB 142 q2 Aj])) ?_ ?_
 ·refine Ah.of (Ao (Ep (st4.blk k (Fy hp))) fun H5 ha5=>?_);have st5:=st4.call ha5;by_cases h0:j<t.size
  ·rw [decide_eq_false (show¬t.size≤j by omega)];refine Ah.of (Ao (Df (st5.blk k (Fy hp)) h0) fun H6 ha6=>?_);have st6:=st5.call ha6;by_cases h1:bt t j=44
   ·have d1:(((bt t j:Nat):Int)==44)=true:=by rw [h1];rfl
    have hu:upM t m j=(if bt t (j+1)=125 then .inr (-1,j+1)else if Dt t (j+1)then .inr (((Bz t 3 (j+1) 0).1:Int),(Bz t 3 (j+1) 0).2)else .inl (20,j+1)):=by unfold upM;rw [if_pos h1]
    (conv=>whnf);rw [d1];refine VC.fa AC ?_;refine ld1 (v:=.int .i64 ((j:Nat):Int)) ct3 (by rw [(st6.blk k (Fy hp)).cell];rfl) trivial ?_;(conv=>whnf);rw [w64 (x:=((j:Nat):Int)+1) (by omega) (by omega)];refine VC.fa AC (AT st6 k ct3 (Fy hp) (by simp) rfl fun H7 st7=>?_);rw [NJ hp]at st7;replace st7:StB B H4 H7 (ps.set k (pSc s t (j+1) ov)++[pB 142 q1 (Ab a (.func (.func g1) #[] c1)),pB 142 q2 Aj]):=st7;refine Ah.of (Ao (Ep (st7.blk k (Fy hp))) fun H8 ha8=>?_);have st8:=st7.call ha8;by_cases h2:j+1<t.size
    ·rw [decide_eq_false (show¬t.size≤j+1 by omega)];refine Ah.of (Ao (Df (st8.blk k (Fy hp)) h2) fun H9 ha9=>?_);have st9:=st8.call ha9;by_cases h3:bt t (j+1)=125
     ·have d1:(((bt t (j+1):Nat):Int) != 125)=false:=by rw [h3];rfl
      (conv=>whnf);rw [d1];(conv=>whnf);exact⟨rfl,(-1,j+1),rfl,by rw [hu,if_pos h3],by omega,by omega,by omega,a4.trans st9.old,st9.rebase⟩
     ·have d1:(((bt t (j+1):Nat):Int) != 125)=true:=bne_iff_ne.2 (by omega);rw [if_neg h3]at hu;(conv=>whnf);rw [d1];refine Ah.mk (NG (by omega) (by omega) st9.rebase (Fy hp)) ?_ ?_
      ·rintro _ H10 ⟨hd2,rfl,st10⟩;rw [if_pos hd2]at hu;rw [NJ hp]at st10;obtain⟨-,-,hj2⟩:=FA (t:=t) 3 (j+1) 0;have hm2:=KN (t:=t) 3 (j+1) 0;(conv=>whnf);exact⟨rfl,(_,_),rfl,hu,hj2 (by omega),by omega,by omega,(a4.trans st9.old).trans st10.old,st10.rebase⟩
      ·rintro _ H10 ⟨hd2,rfl,a10⟩;rw [if_neg (by rw [hd2];decide)]at hu;exact⟨20,j+1,by rw [hbr,hu],rfl,(a4.trans st9.old).trans a10⟩
    ·rw [decide_eq_true (show t.size≤j+1 by omega)];rw [if_neg (by rw [Ci h2];omega)]at hu;refine Ah.mk (NG (by omega) (by omega) st8.rebase (Fy hp)) ?_ ?_
     ·rintro _ H10 ⟨hd2,rfl,st10⟩;rw [if_pos hd2]at hu;rw [NJ hp]at st10;obtain⟨-,-,hj2⟩:=FA (t:=t) 3 (j+1) 0;have hm2:=KN (t:=t) 3 (j+1) 0;(conv=>whnf);exact⟨rfl,(_,_),rfl,hu,hj2 (by omega),by omega,by omega,(a4.trans st8.old).trans st10.old,st10.rebase⟩
     ·rintro _ H10 ⟨hd2,rfl,a10⟩;rw [if_neg (by rw [hd2];decide)]at hu;exact⟨20,j+1,by rw [hbr,hu],rfl,(a4.trans st8.old).trans a10⟩
   ·have d1:(((bt t j:Nat):Int)==44)=false:=El h1;(conv=>whnf);rw [d1];(conv=>whnf);exact⟨rfl,((m:Int),j),rfl,by unfold upM;rw [if_neg h1],hj,by omega,by omega,a4.trans st6.old,st6.rebase⟩
  ·rw [decide_eq_true (show t.size≤j by omega)];(conv=>whnf);exact⟨rfl,((m:Int),j),rfl,by unfold upM;rw [if_neg (by rw [Ci h0];omega)],hj,by omega,by omega,a4.trans st5.old,st5.rebase⟩
 ·rintro⟨n,e⟩ G junk ⟨hu,he,hn1,hn2,ag,stg⟩;rw [hu]at hbr;replace hbr:BF t i=E9 t i m n e:=hbr;refine AQ.run (Ah.of (Ao (Ep (stg.blk k (Fy hp))) fun H5 ha5=>?_));have st5:=stg.call ha5;by_cases h0:e<t.size
  ·rw [decide_eq_false (show¬t.size≤e by omega)];refine Ah.of (Ao (Df (st5.blk k (Fy hp)) h0) fun H6 ha6=>?_);have st6:=st5.call ha6;by_cases h1:bt t e=125
   ·have d1:(((bt t e:Nat):Int) != 125)=false:=by rw [h1];rfl
    have hen:E9 t i m n e=(if 255<m∨255<n∨(0≤n∧n<(m:Int))then .inl (22,i)else .inr (m,n,e+1)):=by unfold E9;rw [if_pos h1]
    (conv=>whnf);rw [d1];refine VC.fa AC ?_;refine ld1 (v:=.int .i64 ((e:Nat):Int)) ct3 (by rw [(st6.blk k (Fy hp)).cell];rfl) trivial ?_;(conv=>whnf);rw [w64 (x:=((e:Nat):Int)+1) (by omega) (by omega)];refine VC.fa AC (AT st6 k ct3 (Fy hp) (by simp) rfl fun H7 st7=>?_);rw [NJ hp]at st7;replace st7:StB B G H7 (ps.set k (pSc s t (e+1) ov)++[pB 142 q1 (Ab a (.func (.func g1) #[] c1)),pB 142 q2 Aj]):=st7;refine AQ.run ?_;(conv=>whnf);by_cases w1:255<m
    ·have e1:decide (255<(m:Int))=true:=decide_eq_true (by omega);(conv=>whnf);rw [e1];rw [if_pos (.inl w1)]at hen;refine Ah.mk (CC (c:=22) (e:=i)) (fun _ _ h=>h.elim) ?_;rintro _ _ ⟨rfl,rfl⟩;exact⟨22,i,by rw [hbr,hen],rfl,ag.trans st7.old⟩
    ·have e1:decide (255<(m:Int))=false:=decide_eq_false (by omega);(conv=>whnf);rw [e1];by_cases c2:255<n
     ·have e2:decide (255<n)=true:=decide_eq_true c2;(conv=>whnf);rw [e2];rw [if_pos (.inr (.inl c2))]at hen;refine Ah.mk (CC (c:=22) (e:=i)) (fun _ _ h=>h.elim) ?_;rintro _ _ ⟨rfl,rfl⟩;exact⟨22,i,by rw [hbr,hen],rfl,ag.trans st7.old⟩
     ·have e2:decide (255<n)=false:=decide_eq_false c2;(conv=>whnf);rw [e2];by_cases c3:0≤n
      ·have e3:decide (0≤n)=true:=decide_eq_true c3;(conv=>whnf);rw [e3];by_cases c4:n<(m:Int)
       ·have e4:decide (n<(m:Int))=true:=decide_eq_true c4;(conv=>whnf);rw [e4];rw [if_pos (.inr (.inr ⟨c3,c4⟩))]at hen;refine Ah.mk (CC (c:=22) (e:=i)) (fun _ _ h=>h.elim) ?_;rintro _ _ ⟨rfl,rfl⟩;exact⟨22,i,by rw [hbr,hen],rfl,ag.trans st7.old⟩
       ·have e4:decide (n<(m:Int))=false:=decide_eq_false c4;(conv=>whnf);rw [e4];rw [if_neg (by omega)]at hen;refine ldN (cs:=Ab a (.func (.func g1) #[] c1)) AO (Au (st7.blk _ (D6 _ _))) trivial (Ah.of (Ag.mk (Sd st7 (ga.frame (ag.trans st7.old) fun k hk=>hk) (by omega) hn1 (by omega) (by omega)) ?_));rintro _ H8 ⟨B1,f1,rfl,s1,a8,st8,gs⟩;obtain⟨g2,c2,rfl⟩:=gs.fn;refine Bf (cs:=Ab (BH a m n) (.func (.func g2) #[] c2)) st8 _ rfl (lgR _ _ 1) (by simp [Ab,Aj]) rfl fun H9 st9 ha9 hs9=>?_;rw [lsR,Cd rfl]at st9;refine ldN (cs:=Ab (BH a m n) (.func (.func g2) #[] c2)) AO (Au (st9.blk _ (lgR _ _ 1))) trivial ?_;exact⟨m,n,e+1,by rw [hbr,hen],B1,_,rfl,s1,((ag.trans st7.old).trans (a8.mono fun k hk=>st7.up hk)).trans fun k hk=>st9.old k (s1 k hk),st9.lft.rebase,gs.frame st9.old fun k hk=>hk⟩
      ·have e3:decide (0≤n)=false:=decide_eq_false c3;(conv=>whnf);rw [e3];rw [if_neg (by omega)]at hen;refine ldN (cs:=Ab a (.func (.func g1) #[] c1)) AO (Au (st7.blk _ (D6 _ _))) trivial (Ah.of (Ag.mk (Sd st7 (ga.frame (ag.trans st7.old) fun k hk=>hk) (by omega) hn1 (by omega) (by omega)) ?_));rintro _ H8 ⟨B1,f1,rfl,s1,a8,st8,gs⟩;obtain⟨g2,c2,rfl⟩:=gs.fn;refine Bf (cs:=Ab (BH a m n) (.func (.func g2) #[] c2)) st8 _ rfl (lgR _ _ 1) (by simp [Ab,Aj]) rfl fun H9 st9 ha9 hs9=>?_;rw [lsR,Cd rfl]at st9;refine ldN (cs:=Ab (BH a m n) (.func (.func g2) #[] c2)) AO (Au (st9.blk _ (lgR _ _ 1))) trivial ?_;exact⟨m,n,e+1,by rw [hbr,hen],B1,_,rfl,s1,((ag.trans st7.old).trans (a8.mono fun k hk=>st7.up hk)).trans fun k hk=>st9.old k (s1 k hk),st9.lft.rebase,gs.frame st9.old fun k hk=>hk⟩
   ·have d1:(((bt t e:Nat):Int) != 125)=true:=bne_iff_ne.2 (by omega);(conv=>whnf);rw [d1];refine VC.fa AC ?_;refine ld1 (v:=.int .i64 ((e:Nat):Int)) ct3 (by rw [(st6.blk k (Fy hp)).cell];rfl) trivial ?_;refine Ah.mk (CC (c:=20) (e:=e)) (fun _ _ h=>h.elim) ?_;rintro _ _ ⟨rfl,rfl⟩;exact⟨20,e,by rw [hbr];unfold E9;rw [if_neg h1],rfl,ag.trans st6.old⟩
  ·rw [decide_eq_true (show t.size≤e by omega)];refine VC.fa AC ?_;refine ld1 (v:=.int .i64 ((e:Nat):Int)) ct3 (by rw [(st5.blk k (Fy hp)).cell];rfl) trivial ?_;refine Ah.mk (CC (c:=20) (e:=e)) (fun _ _ h=>h.elim) ?_;rintro _ _ ⟨rfl,rfl⟩;exact⟨20,e,by rw [hbr];unfold E9;rw [if_neg (by rw [Ci h0];omega)],rfl,ag.trans st5.old⟩
theorem Fo{t:ByteArray}{i m k:Nat}{n:Int}{f:AF}{fs:List AF}{a:ReM}(hf:f.factor=some a)(hc:EF (bt t i)=true)(hp:Ec t i= .inr (m,n,k)):
  BO t ⟨i,f,fs⟩= .inr ⟨k,{f with factor:=some (BH a m n)},fs⟩:=by
 unfold BO;show(if EF (bt t i)then _ else _)=_;rw [if_pos hc,hf];show(match Ec t i with | .inl e=>_ | .inr (m,n,k)=>_)=_;rw [hp]
theorem Kf{t:ByteArray}{i:Nat}{e:Nat×Nat}{f:AF}{fs:List AF}{a:ReM}(hf:f.factor=some a)(hc:EF (bt t i)=true)(hp:Ec t i= .inl e):
  BO t ⟨i,f,fs⟩= .inl e:=by
 unfold BO;show(if EF (bt t i)then _ else _)=_;rw [if_pos hc,hf];show(match Ec t i with | .inl e=>_ | .inr (m,n,k)=>_)=_;rw [hp]
theorem OY{c:Nat}(h:c=42∨c=43∨c=63∨c=123):EF c=true:=by rcases h with rfl | rfl | rfl | rfl<;>rfl
theorem Jk{c:Nat}(h1:c≠42)(h2:c≠43)(h3:c≠63)(h4:c≠123):EF c=false:=by
 unfold EF;rw [beq_eq_false_iff_ne.2 h1,beq_eq_false_iff_ne.2 h2,beq_eq_false_iff_ne.2 h3,beq_eq_false_iff_ne.2 h4];rfl
structure Z5(B:Nat→Prop)(H:Aa)(ps:List Pc)(k s q1 q2 i:Nat)(t:ByteArray)(ov:Value)(f:AF)(fs:List AF)(j:Nat)(G:Aa):Prop where
 ex:∃(a:ReM) (B':Nat→Prop) (fn:Value),BE t ⟨i,f,fs⟩=BE t ⟨j,{f with factor:=some a},fs⟩∧i≤j∧j≤t.size∧(∀k,B k→B' k)∧Agr B H G∧
  StB B' G G (ps.set k (pSc s t j ov)++[pB 142 q1 (Ab a fn),pB 142 q2 Aj])∧Cq B' G fn a
theorem SZ{B:Nat→Prop}{H:Aa}{ps:List Pc}{k s i:Nat}{t:ByteArray}{ov:Value}{a:ReM}{va:Value}{f:AF}{fs:List AF}(ht:t.size≤1152921504606846)(hi:i≤t.size)(hf:f.factor=some a)(st:StB B H H ps)(hp:ps[k]? =some (pSc s t i ov))(ga:Cq B H va a):
  BC Tryz.prog 192 #[.pointer (some ⟨s,0,none⟩),.agg (Ab a va).toArray] H
   (fun v H'=>∃j r,i≤j∧j≤t.size∧EF (bt t j)=false∧BE t ⟨i,f,fs⟩=BE t ⟨j,{f with factor:=some r},fs⟩∧Tu B H ps k s t j ov r v H')
   (fun x H'=>∃c p:Nat,BE t ⟨i,f,fs⟩= .inl (c,(p:Int))∧x=D5 c p∧Agr B H H'):=by
 obtain⟨g1,c1,rfl⟩:=ga.fn;refine BC.of_vc Tryz.func192 rfl (Tryz.call192 _) (B0 (Ab a (.func (.func g1) #[] c1)) rfl ?_);intro q1 H1 hq1 hs1 hb1 ha1;have st1:=st.box hq1 hs1 hb1 ha1;refine Ak (.agg Aj.toArray) Aj CM rfl ?_;intro q2 H2 hq2 hs2 hb2 ha2;have st2:=st1.box hq2 hs2 hb2 ha2;rw [AaJ]at st2;replace st2:StB B H H2 (ps++[pB 142 q1 (Ab a (.func (.func g1) #[] c1)),pB 142 q2 Aj]):=st2;rw [←Cn hp]at st2;(conv=>whnf);refine Ed.mk [] (fun _:Nat=>[]) (fun j G=>Z5 B H ps k s q1 q2 i t ov f fs j G) (fun j _=>t.size - j) ?_ ?_
 ·(conv=>whnf);refine⟨i,rfl,⟨a,B,.func (.func g1) #[] c1,?_,Aa0 _,hi,fun k hk=>hk,st2.old,st2.rebase,ga.frame st2.old fun k hk=>hk⟩⟩;rw [←hf]
 ·rintro j G junk ⟨a',B1,f1,hpr,hij,hj,s1,ag,stg,gv⟩;obtain⟨gg,cc,rfl⟩:=gv.fn;clear st st1 st2 ga hb1 hb2 ha1 ha2;have hpg:(ps.set k (pSc s t j ov)++[pB 142 q1 (Ab a' (.func (.func gg) #[] cc)),pB 142 q2 Aj])[k]? =some (pSc s t j ov):=Fy hp;refine Ah.of (Ao (Ep (stg.blk k hpg)) fun G1 hg1=>?_);have sg1:=stg.call hg1;by_cases h0:j<t.size
  ·rw [decide_eq_false (show¬t.size≤j by omega)];refine AQ.run (Ah.of (Ao (Df (sg1.blk k hpg) h0) fun G2 hg2=>?_));have sg2:=sg1.call hg2;have pst:∀{m k2:Nat} {n:Int},(bt t j=42∨bt t j=43∨bt t j=63∨bt t j=123)→Ec t j= .inr (m,n,k2)→BE t ⟨i,f,fs⟩=BE t ⟨k2,{f with factor:=some (BH a' m n)},fs⟩:=fun hc hp=>by
    rw [hpr];exact DA (s:=⟨j,{f with factor:=some a'},fs⟩) h0 (Fo rfl (OY hc) hp)
   by_cases h1:bt t j=42
   ·have d1:(((bt t j:Nat):Int)==42)=true:=by rw [h1];rfl
    (conv=>whnf);rw [d1];refine ldN (cs:=Ab a' (.func (.func gg) #[] cc)) AO (Au (sg2.blk _ (D6 _ _))) trivial (Ah.of (Ag.mk (LR sg2 (gv.frame sg2.old fun k hk=>hk)) ?_));rintro _ G3 ⟨B2,f2,rfl,s2,a3,sg3,gs⟩;have ag3:Agr B H G3:=(ag.trans fun k hk=>sg2.old k (s1 k hk)).trans (a3.mono fun k hk=>sg2.up (s1 k hk));obtain⟨g2,c2,rfl⟩:=gs.fn;refine Bf (cs:=Ab (.star a') (.func (.func g2) #[] c2)) sg3 _ rfl (D6 _ _) (by simp [Ab]) rfl fun G4 sg4 ja js=>?_;rw [Nw]at sg4;have e9:Ae (Ab a' (.func (.func gg) #[] cc)) 0 (Ab (.star a') (.func (.func g2) #[] c2))=Ab (.star a') (.func (.func g2) #[] c2):=Cd rfl;replace sg4:StB B2 G3 G4 (ps.set k (pSc s t j ov)++[pB 142 q1 (Ae (Ab a' (.func (.func gg) #[] cc)) 0 (Ab (.star a') (.func (.func g2) #[] c2))),pB 142 q2 Aj]):=sg4;rw [e9]at sg4;refine VC.fa AC ?_;refine ld1 (v:=.int .i64 ((j:Nat):Int)) ct3 (by rw [(sg4.blk k (Fy hp)).cell];rfl) trivial ?_;(conv=>whnf);rw [w64 (x:=((j:Nat):Int)+1) (by omega) (by omega)];refine VC.fa AC (AT sg4 k ct3 (Fy hp) (by simp) rfl fun G5 sg5=>?_);rw [NJ hp]at sg5;have ag5:Agr B G3 G5:=fun k hk=>sg5.old k (s2 k (s1 k hk));exact⟨rfl,j+1,rfl,⟨.star a',B2,.func (.func g2) #[] c2,pst (m:=0) (n:= -1) (.inl h1) (by unfold Ec;rw [if_pos h1]),by omega,by omega,fun k hk=>s2 k (s1 k hk),ag3.trans ag5,sg5.rebase,gs.frame sg5.old fun k hk=>hk⟩,by omega⟩
   ·have d1:(((bt t j:Nat):Int)==42)=false:=El h1;(conv=>whnf);rw [d1];by_cases h2:bt t j=43
    ·have d2:(((bt t j:Nat):Int)==43)=true:=by rw [h2];rfl
     (conv=>whnf);rw [d2];refine Ce.of (Ar.heldZ (Old G2) [4] (sq [0,1] (.f 2 (.f 3 (.f 4 .e)))) rfl (by kernel_rfl) (ldN (cs:=Ab a' (.func (.func gg) #[] cc)) AO (Au (sg2.blk _ (D6 _ _))) ((sg2.in_ _ (D6 _ _) (k:=q1) rfl).2) (ldN (cs:=Ab a' (.func (.func gg) #[] cc)) AO (Au (sg2.blk _ (D6 _ _))) ((sg2.in_ _ (D6 _ _) (k:=q1) rfl).2) (Ag.mk (LR sg2 (gv.frame sg2.old fun k hk=>hk)) ?_))));rintro _ G6 ⟨B6,f6,rfl,s6,a6,sg6,gs6⟩;refine⟨a6,?_⟩;refine Ag.mk (EA .cat sg6 ((gv.frame sg2.old fun k hk=>hk).frame (a6.mono fun k hk=>sg2.up hk) s6) gs6) ?_;rintro _ G3 ⟨B7,f7,rfl,s7,a7,sg3,gs⟩;have a67:=a6.trans (a7.mono fun k hk=>As a6 hk);refine⟨a67,?_⟩;have ag3:Agr B H G3:=(ag.trans fun k hk=>sg2.old k (s1 k hk)).trans (a67.mono fun k hk=>sg2.up (s1 k hk));obtain⟨B2,hB2⟩:∃B2,B2=B7:=⟨_,rfl⟩;rw [←hB2]at sg3 gs;have s2:∀k,B1 k→B2 k:=fun k hk=>by rw [hB2];exact s7 k (s6 k hk)
     obtain⟨g2,c2,rfl⟩:=gs.fn;refine Bf (cs:=Ab (opR .cat a' (.star a')) (.func (.func g2) #[] c2)) sg3 _ rfl (D6 _ _) (by simp [Ab]) rfl fun G4 sg4 ja js=>?_;rw [Nw]at sg4;have e9:Ae (Ab a' (.func (.func gg) #[] cc)) 0 (Ab (opR .cat a' (.star a')) (.func (.func g2) #[] c2))=Ab (opR .cat a' (.star a')) (.func (.func g2) #[] c2):=Cd rfl;replace sg4:StB B2 G3 G4 (ps.set k (pSc s t j ov)++[pB 142 q1 (Ae (Ab a' (.func (.func gg) #[] cc)) 0 (Ab (opR .cat a' (.star a')) (.func (.func g2) #[] c2))),pB 142 q2 Aj]):=sg4;rw [e9]at sg4;refine VC.fa AC ?_;refine ld1 (v:=.int .i64 ((j:Nat):Int)) ct3 (by rw [(sg4.blk k (Fy hp)).cell];rfl) trivial ?_;(conv=>whnf);rw [w64 (x:=((j:Nat):Int)+1) (by omega) (by omega)];refine VC.fa AC (AT sg4 k ct3 (Fy hp) (by simp) rfl fun G5 sg5=>?_);rw [NJ hp]at sg5;have ag5:Agr B G3 G5:=fun k hk=>sg5.old k (s2 k (s1 k hk));exact⟨rfl,j+1,rfl,⟨opR .cat a' (.star a'),B2,.func (.func g2) #[] c2,pst (m:=1) (n:= -1) (.inr (.inl h2)) (by unfold Ec;rw [if_neg h1,if_pos h2]),by omega,by omega,fun k hk=>s2 k (s1 k hk),ag3.trans ag5,sg5.rebase,gs.frame sg5.old fun k hk=>hk⟩,by omega⟩
    ·have d2:(((bt t j:Nat):Int)==43)=false:=El h2;(conv=>whnf);rw [d2];by_cases h3:bt t j=63
     ·have d3:(((bt t j:Nat):Int)==63)=true:=by rw [h3];rfl
      (conv=>whnf);rw [d3];refine ldN (cs:=Ab a' (.func (.func gg) #[] cc)) AO (Au (sg2.blk _ (D6 _ _))) trivial (Ah.of (Ag.mk (KI sg2 (gv.frame sg2.old fun k hk=>hk)) ?_));rintro _ G3 ⟨B2,f2,rfl,s2,a3,sg3,gs⟩;have ag3:Agr B H G3:=(ag.trans fun k hk=>sg2.old k (s1 k hk)).trans (a3.mono fun k hk=>sg2.up (s1 k hk));obtain⟨g2,c2,rfl⟩:=gs.fn;refine Bf (cs:=Ab (AW a') (.func (.func g2) #[] c2)) sg3 _ rfl (D6 _ _) (by simp [Ab]) rfl fun G4 sg4 ja js=>?_;rw [Nw]at sg4;have e9:Ae (Ab a' (.func (.func gg) #[] cc)) 0 (Ab (AW a') (.func (.func g2) #[] c2))=Ab (AW a') (.func (.func g2) #[] c2):=Cd rfl;replace sg4:StB B2 G3 G4 (ps.set k (pSc s t j ov)++[pB 142 q1 (Ae (Ab a' (.func (.func gg) #[] cc)) 0 (Ab (AW a') (.func (.func g2) #[] c2))),pB 142 q2 Aj]):=sg4;rw [e9]at sg4;refine VC.fa AC ?_;refine ld1 (v:=.int .i64 ((j:Nat):Int)) ct3 (by rw [(sg4.blk k (Fy hp)).cell];rfl) trivial ?_;(conv=>whnf);rw [w64 (x:=((j:Nat):Int)+1) (by omega) (by omega)];refine VC.fa AC (AT sg4 k ct3 (Fy hp) (by simp) rfl fun G5 sg5=>?_);rw [NJ hp]at sg5;have ag5:Agr B G3 G5:=fun k hk=>sg5.old k (s2 k (s1 k hk));exact⟨rfl,j+1,rfl,⟨AW a',B2,.func (.func g2) #[] c2,pst (m:=0) (n:=1) (.inr (.inr (.inl h3))) (by unfold Ec;rw [if_neg h1,if_neg h2,if_pos h3]),by omega,by omega,fun k hk=>s2 k (s1 k hk),ag3.trans ag5,sg5.rebase,gs.frame sg5.old fun k hk=>hk⟩,by omega⟩
     ·have d3:(((bt t j:Nat):Int)==63)=false:=El h3;(conv=>whnf);rw [d3];by_cases h4:bt t j=123
      ·have d4:(((bt t j:Nat):Int)==123)=true:=by rw [h4];rfl
       (conv=>whnf);rw [d4];refine ldN (cs:=Ab a' (.func (.func gg) #[] cc)) AO (Au (sg2.blk _ (D6 _ _))) trivial (Ah.mk (TG ht h4 sg2.rebase hpg (gv.frame sg2.old fun k hk=>hk)) ?_ ?_)
       ·rintro _ G3 ⟨m,n,j2,hbm,⟨B2,f2,rfl,s2,a3,sg3,gs⟩⟩;have hok:=Il hbm;rw [NJ hp]at sg3;obtain⟨g2,c2,rfl⟩:=gs.fn;refine Bf (cs:=Ab (BH a' m n) (.func (.func g2) #[] c2)) sg3 _ rfl (D6 _ _) (by simp [Ab]) rfl fun G4 sg4 ja js=>?_;rw [Nw]at sg4;have e9:Ae (Ab a' (.func (.func gg) #[] cc)) 0 (Ab (BH a' m n) (.func (.func g2) #[] c2))=Ab (BH a' m n) (.func (.func g2) #[] c2):=Cd rfl;replace sg4:StB B2 G3 G4 (ps.set k (pSc s t j2 ov)++[pB 142 q1 (Ae (Ab a' (.func (.func gg) #[] cc)) 0 (Ab (BH a' m n) (.func (.func g2) #[] c2))),pB 142 q2 Aj]):=sg4;rw [e9]at sg4;(conv=>whnf);have ag3:Agr B H G3:=(ag.trans fun k hk=>sg2.old k (s1 k hk)).trans (a3.mono fun k hk=>s1 k hk);have ag5:Agr B G3 G4:=fun k hk=>sg4.old k (s2 k (s1 k hk));exact⟨rfl,j2,rfl,⟨BH a' m n,B2,.func (.func g2) #[] c2,pst (m:=m) (n:=n) (.inr (.inr (.inr h4))) (by unfold Ec;rw [if_neg h1,if_neg h2,if_neg h3];exact hbm),by omega,by omega,fun k hk=>s2 k (s1 k hk),ag3.trans ag5,sg4.rebase,gs.frame sg4.old fun k hk=>hk⟩,by omega⟩
       ·rintro _ G3 ⟨c,p,hbm,rfl,a3⟩;refine⟨c,p,?_,rfl,(ag.trans fun k hk=>sg2.old k (s1 k hk)).trans (a3.mono fun k hk=>s1 k hk)⟩;rw [hpr];exact DS (s:=⟨j,{f with factor:=some a'},fs⟩) h0 (Kf rfl (OY (.inr (.inr (.inr h4)))) (by unfold Ec;rw [if_neg h1,if_neg h2,if_neg h3];exact hbm))
      ·have d4:(((bt t j:Nat):Int)==123)=false:=El h4;(conv=>whnf);rw [d4];refine ldN (cs:=Ab a' (.func (.func gg) #[] cc)) AO (Au (sg2.blk _ (D6 _ _))) trivial (Bf (cs:=Ab a' (.func (.func gg) #[] cc)) sg2 _ rfl (lgR _ _ 1) (by simp [Ab,Aj]) rfl fun G9 sg9 ja js=>?_);rw [lsR,Cd rfl]at sg9;refine ldN (cs:=Ab a' (.func (.func gg) #[] cc)) AO (Au (sg9.blk _ (lgR _ _ 1))) trivial ?_;exact⟨j,a',hij,hj,Jk h1 h2 h3 h4,hpr,B1,_,rfl,s1,ag.trans fun k hk=>sg9.old k (s1 k hk),sg9.lft.rebase,gv.frame sg9.old fun k hk=>hk⟩
  ·rw [decide_eq_true (show t.size≤j by omega)];refine ldN (cs:=Ab a' (.func (.func gg) #[] cc)) AO (Au (sg1.blk _ (D6 _ _))) trivial (Bf (cs:=Ab a' (.func (.func gg) #[] cc)) sg1 _ rfl (lgR _ _ 1) (by simp [Ab,Aj]) rfl fun G9 sg9 ja js=>?_);rw [lsR,Cd rfl]at sg9;refine ldN (cs:=Ab a' (.func (.func gg) #[] cc)) AO (Au (sg9.blk _ (lgR _ _ 1))) trivial ?_;exact⟨j,a',hij,hj,by rw [Ci h0];rfl,hpr,B1,_,rfl,s1,ag.trans fun k hk=>sg9.old k (s1 k hk),sg9.lft.rebase,gv.frame sg9.old fun k hk=>hk⟩
theorem vbt{kk:IntKind}{i:Nat}{t:ByteArray}{S:Nat→Prop}{H:Aa}{K:Value→Prop}(hi:i<t.size)(k:K (.int .u8 (bt t i:Int))):AH Tryz.prog (Instr.index 9 (.string t) (.int kk (i:Int))) S H K:=by
 obtain⟨b,h1,h2,h3⟩:=CI hi;refine Dg E5 rfl h1 ?_;rw [←h2];exact k
theorem SU(c:Nat)(H:Aa):B8 Tryz.prog 76 #[.int .u8 (c:Int)] H (.bool (EF c)):=by
 refine Al.of_vc Tryz.func76 rfl (Tryz.call76 _) ?_;(conv=>whnf);by_cases h42:c=42
 ·have d:((c:Int)==42)=true:=by rw [h42];rfl
  (conv=>whnf);rw [d];(conv=>whnf);refine⟨?_,Agr.refl _ _⟩;rw [h42];rfl
 ·have d:((c:Int)==42)=false:=El h42;(conv=>whnf);rw [d];clear d;by_cases h43:c=43
  ·have d:((c:Int)==43)=true:=by rw [h43];rfl
   (conv=>whnf);rw [d];(conv=>whnf);refine⟨?_,Agr.refl _ _⟩;rw [h43];rfl
  ·have d:((c:Int)==43)=false:=El h43;(conv=>whnf);rw [d];clear d;by_cases h63:c=63
   ·have d:((c:Int)==63)=true:=by rw [h63];rfl
    (conv=>whnf);rw [d];(conv=>whnf);refine⟨?_,Agr.refl _ _⟩;rw [h63];rfl
   ·have d:((c:Int)==63)=false:=El h63;(conv=>whnf);rw [d];clear d;by_cases h123:c=123
    ·have d:((c:Int)==123)=true:=by rw [h123];rfl
     (conv=>whnf);rw [d];(conv=>whnf);refine⟨?_,Agr.refl _ _⟩;rw [h123];rfl
    ·have d:((c:Int)==123)=false:=El h123;(conv=>whnf);rw [d];clear d;(conv=>whnf);refine⟨?_,Agr.refl _ _⟩;rw [Jk h42 h43 h63 h123]
theorem K3{i:Nat}{t:ByteArray}(H:Aa):B8 Tryz.prog 132 #[.string t,.int .i64 (i:Int)] H (.bool (Dt t i)):=by
 refine Al.of_vc Tryz.func132 rfl (Tryz.call132 _) ?_;by_cases hi:i<t.size
 ·have d1:decide ((i:Int)<(t.size:Int))=true:=decide_eq_true (by omega);(conv=>whnf);rw [d1];refine vbt hi ?_;by_cases h2:48≤bt t i
  ·have d2:decide (48≤((bt t i:Nat):Int))=true:=decide_eq_true (by omega);(conv=>whnf);rw [d2];refine vbt hi ?_;(conv=>whnf);refine⟨?_,Agr.refl _ _⟩
   congr 1
   unfold Dt;rw [decide_eq_decide];omega
  ·have d2:decide (48≤((bt t i:Nat):Int))=false:=decide_eq_false (by omega);(conv=>whnf);rw [d2];(conv=>whnf);refine⟨?_,Agr.refl _ _⟩
   congr 1
   exact(decide_eq_false fun h=>h2 h.1).symm
 ·have d1:decide ((i:Int)<(t.size:Int))=false:=decide_eq_false (by omega);(conv=>whnf);rw [d1];(conv=>whnf);refine⟨?_,Agr.refl _ _⟩
  congr 1
  exact(decide_eq_false fun h=>by have:=Ci hi;omega).symm
def frZ:List Value:=[.int .i64 0,.int .i64 0,.int .i64 0,.int .u8 0,.int .i64 0,.int .i64 0]
theorem YL:(Tryz.prog.info? 150).bind (·.zero)=some (.agg frZ.toArray):=by kernel_rfl
def frO(p:Int):List Value:=[.int .i64 p,.int .i64 (-1),.int .i64 (-1),.int .u8 0,.int .i64 (-1),.int .i64 (-1)]
theorem UG(p:Int)(H:Aa):Al Tryz.prog 75 #[.int .i64 p] H fun v H'=>v= .agg (frO p).toArray∧Agr (Old H) H H':=by
 refine Al.of_vc Tryz.func75 rfl (Tryz.call75 _) (Ak (.agg frZ.toArray) frZ YL rfl ?_);intro q H1 hq hs1 hb1 ha1;refine A6 Tryz.underlying150 rfl (.agg frZ.toArray) YL (frO p) rfl (VC.stN (cs:=frO p) rfl hb1 (Aa0 _) rfl ?_);intro H2 hb2 ha2 hs2;rw [A8 (show(frO p).length=frZ.length from rfl)]at hb2;refine ldN (cs:=frO p) Y3 (hb2.cells fun j v hv=>by rw [AaB];exact hv) trivial ?_;exact⟨rfl,(ha1.mono fun k hk=>by have:k<H.size:=hk;have:q=H.size:=hq;omega).trans (ha2.mono fun k hk=>by have:k<H.size:=hk;have:q=H.size:=hq;omega)⟩
def BrD(t:ByteArray)(i:Nat)(v:Value):Prop:=match BF t i with
 | .inl (c,p)=>v= .tuple #[.int .i64 0,.int .i64 0,.int .i64 0,.int .i64 (c:Int),.int .i64 (p:Int)]
 | .inr (m,n,j)=>v= .tuple #[.int .i64 (m:Int),.int .i64 n,.int .i64 (j:Int),.int .i64 0,.int .i64 0]
abbrev pA2(q:Nat)(x y:Int):Pc:=pB 129 q [.int .i64 x,.int .i64 y]
theorem ZB:(Tryz.prog.info? 129).bind (·.zero)=some (.agg #[.int .i64 0,.int .i64 0]):=by kernel_rfl
theorem RJ{t:ByteArray}{e w:Nat}(h:Dt t e=false):∀k,Bz t k e w=(w,e)
 | 0=>rfl
 | k+1=>by unfold Bz;rw [h];rfl
structure BrI(t:ByteArray)(i k e:Nat)(x0 x1:Int):Prop where
 le:e≤t.size
 z:k=0→e=i+1∧x0=0∧x1=0
 one:k=1→Dt t (i+1)=true∧x0=((Bz t 3 (i+1) 0).1:Int)∧x1=0∧e=(Bz t 3 (i+1) 0).2+1∧bt t (Bz t 3 (i+1) 0).2=44∧bt t e≠125
 two:k=2→Dt t (i+1)=true∧x0=((Bz t 3 (i+1) 0).1:Int)∧x1= -1∧upM t (Bz t 3 (i+1) 0).1 (Bz t 3 (i+1) 0).2= .inr (-1,e)
 le2:k≤2
theorem YC{t:ByteArray}{i:Nat}(hd:Dt t (i+1)=true){n:Int}{e:Nat}(hu:upM t (Bz t 3 (i+1) 0).1 (Bz t 3 (i+1) 0).2= .inr (n,e)):BF t i=E9 t i (Bz t 3 (i+1) 0).1 n e:=by
 unfold BF;rw [if_pos hd,hu]
theorem YD{t:ByteArray}{i:Nat}(hd:Dt t (i+1)=false):BF t i= .inl (20,i+1):=by
 unfold BF;rw [hd];rfl
theorem S4{t:ByteArray}{i:Nat}{H:Aa}(ht:t.size≤1048576)(hi:i<t.size):
  Al Tryz.prog 77 #[.string t,.int .i64 (i:Int)] H fun v H'=>Agr (Old H) H H'∧BrD t i v:=by
 refine Al.of_vcL Tryz.func77 rfl (Tryz.call77 _) ?_;(conv=>whnf);rw [w64 (x:=(i:Int)+1) (by omega) (by omega)];refine Ak (.agg #[.int .i64 0,.int .i64 0]) [.int .i64 0,.int .i64 0] ZB rfl ?_;intro q H1 hq1 hs1 hb1 ha1;have st1:=(St.nil H).box hq1 hs1 hb1 ha1;(conv=>whnf);refine Am.cut [11,9] (fun x:Nat×Nat×Int×Int=>match x with | (k,e,_,_)=>[.int .i64 (k:Int),.int .i64 (e:Int)]) (fun x G=>match x with | (k,e,x0,x1)=>((k=1∨k=2)∧e≤t.size∧Dt t (i+1)=true∧x0=((Bz t 3 (i+1) 0).1:Int)∧(∃n:Int,upM t (Bz t 3 (i+1) 0).1 (Bz t 3 (i+1) 0).2= .inr (n,e)∧ -1≤n∧n<1000∧(k=1→n=x0)∧(k=2→n=x1)))∧St H G [pA2 q x0 x1]) ?_ ?_
 ·(conv=>whnf);refine A3.mk [11,9] (fun x:Nat×Nat×Int×Int=>match x with | (k,e,_,_)=>[.int .i64 (k:Int),.int .i64 (e:Int)]) (fun x G=>match x with | (k,e,x0,x1)=>BrI t i k e x0 x1∧St H G [pA2 q x0 x1]) (fun x _=>match x with | (k,_,_,_)=>2 - k) ?_ ?_
  ·(conv=>whnf);exact⟨(0,i+1,0,0),rfl,⟨hi,fun _=>⟨rfl,rfl,rfl⟩,fun h=>absurd h (by decide),fun h=>absurd h (by decide),by omega⟩,st1⟩
  ·rintro⟨k,e,x0,x1⟩ G junk ⟨hI,stg⟩;have hle:=hI.le;refine AB.mk (fun hz=>?_) (fun hz=>?_)<;>simp only [decide_eq_true_eq,decide_eq_false_iff_not]at hz
   ·have hk2:k<2:=by omega
    rcases(show k=0∨k=1 by omega)with rfl | rfl
    ·(conv=>whnf);try (refine Am.run ?_)
     obtain⟨rfl,rfl,rfl⟩:=hI.z rfl;refine Ao (K3 (i:=(i+1)) G) fun G1 hg1=>?_;have sg1:=stg.call hg1;cases hd:Dt t (i+1)with
     | false=>
       (conv=>whnf);refine⟨sg1.old,?_⟩;unfold BrD;rw [YD hd];rfl
     | true=>
       (conv=>whnf);have hdi:=hd;(conv=>whnf);refine A3.mk [12,9] (fun x:Nat×Nat=>match x with | (jn,_)=>[.int .i64 (jn:Int),.int .i64 (((i+1)+jn:Nat):Int)]) (fun x G=>match x with | (jn,v)=>jn≤3∧v<10 ^ jn∧(i+1)+jn≤t.size∧Bz t 3 (i+1) 0=Bz t (3 - jn) ((i+1)+jn) v∧St H G [pA2 q (v:Int) 0]) (fun x _=>match x with | (jn,_)=>3 - jn) ?_ ?_
       ·(conv=>whnf);exact⟨(0,0),rfl,by omega,by decide,hle,rfl,sg1⟩
       ·rintro⟨jn,v⟩ G2 junk2 ⟨hjn,hv,hje,hvn,stj⟩;have hv1:v<1000:=Aa7 hv (Aa6 (by omega) hjn);have hout:(jn=3∨Dt t ((i+1)+jn)=false)→Bz t 3 (i+1) 0=(v,(i+1)+jn):=fun h=>by
         rw [hvn];rcases h with rfl | h
         ·rfl
         ·exact RJ h _
        clear hI;by_cases hj3:jn<3
        ·have d2:decide ((jn:Int)<3)=true:=decide_eq_true (by omega);(conv=>whnf);rw [d2];refine Ao (K3 (i:=(i+1)+jn) G2) fun G3 hg3=>?_;replace stj:=stj.call hg3;cases hdj:Dt t ((i+1)+jn)with
         | true=>
           have hlt:(i+1)+jn<t.size:=by
            unfold Dt at hdj;have:=of_decide_eq_true hdj;exact Dc (by omega)
           have hdr:48≤bt t ((i+1)+jn)∧bt t ((i+1)+jn)≤57:=by unfold Dt at hdj;exact of_decide_eq_true hdj
           (conv=>whnf);try (refine Am.run ?_)
           refine Ar.heldZ (fun k=>k=q) [12] (sq [0,1,2,3,4,5,6,7,8,9,10,11] (.f 12 .e)) rfl (by kernel_rfl) (ixa CH (by decide) (by decide) ?_);refine ld1 (v:=.int .i64 (v:Int)) ct3 (by rw [(stj.blk 0 rfl).cell];rfl) rfl ?_;(conv=>whnf);rw [w64 (x:=10*(v:Int)) (by omega) (by omega)];refine vbt hlt ?_;(conv=>whnf);rw [w8 (x:=((bt t ((i+1)+jn):Nat):Int) - 48) (by omega) (by omega)];(conv=>whnf);rw [w64 (x:=((bt t ((i+1)+jn):Nat):Int) - 48) (by omega) (by omega)];(conv=>whnf);rw [w64 (x:=10*(v:Int)+(((bt t ((i+1)+jn):Nat):Int) - 48)) (by omega) (by omega)];refine ixa CH (by decide) (by decide) ?_;refine AT stj 0 ct3 rfl (by show _<(2:Nat);decide) rfl fun G5 sg5=>?_;(conv=>whnf);rw [w64 (x:=(((i+1)+jn:Nat):Int)+1) (by omega) (by omega)];(conv=>whnf);rw [w64 (x:=(jn:Int)+1) (by omega) (by omega)];have ev:10*(v:Int)+(((bt t ((i+1)+jn):Nat):Int) - 48)=((10*v+(bt t ((i+1)+jn) - 48):Nat):Int):=by omega
           rw [ev]at sg5;refine⟨rfl,(jn+1,10*v+(bt t ((i+1)+jn) - 48)),rfl,⟨by omega,by rw [AaN];omega,by omega,?_,sg5⟩,by show 3 - (jn+1)<3 - jn;omega⟩;rw [hvn,show 3 - jn=(3 - (jn+1))+1 by omega,Bz,hdj];rfl
         | false=>
           (conv=>whnf);try (refine Am.run ?_)
           (conv=>whnf);have hv3:Bz t 3 (i+1) 0=(v,(i+1)+jn):=hout (.inr hdj);have hnm:Bz t 3 (i+1) 0=(v,(i+1)+jn):=hv3;by_cases h0:(i+1)+jn<t.size
           ·have d5:decide ((t.size:Int)≤(((i+1)+jn:Nat):Int))=false:=decide_eq_false (by omega);(conv=>whnf);rw [d5];refine vbt h0 ?_;by_cases h44:bt t ((i+1)+jn)=44
            ·have d6:(((bt t ((i+1)+jn):Nat):Int) != 44)=false:=by rw [h44];rfl
             (conv=>whnf);rw [d6];(conv=>whnf);rw [w64 (x:=(((i+1)+jn:Nat):Int)+1) (by omega) (by omega)];(conv=>whnf);try (refine Am.run ?_)
             (conv=>whnf);by_cases h1:(i+1)+jn+1<t.size
             ·have d7:decide ((((i+1)+jn:Nat):Int)+1<(t.size:Int))=true:=decide_eq_true (by omega);(conv=>whnf);rw [d7];refine vbt (i:=(i+1)+jn+1) h1 ?_;by_cases h125:bt t ((i+1)+jn+1)=125
              ·have d8:(((bt t ((i+1)+jn+1):Nat):Int)==125)=true:=by rw [h125];rfl
               (conv=>whnf);rw [d8];refine ixa CH (by decide) (by decide) ?_;refine AT stj 0 ct3 rfl (by show _<(2:Nat);decide) rfl fun G7 sg7=>?_;replace sg7:St H G7 [pA2 q (v:Int) (-1)]:=sg7;(conv=>whnf);exact⟨rfl,(2,(i+1)+jn+1,(v:Int),-1),rfl,⟨⟨by omega,fun h=>absurd h (by decide),fun h=>absurd h (by decide),fun _=>⟨hdi,by rw [hnm],rfl,by rw [hnm];unfold upM;rw [if_pos h44,if_pos h125]⟩,by omega⟩,sg7⟩,by show 2 - 2<2 - 0;omega⟩
              ·have d8:(((bt t ((i+1)+jn+1):Nat):Int)==125)=false:=El h125;(conv=>whnf);rw [d8];(conv=>whnf);exact⟨rfl,(1,(i+1)+jn+1,(v:Int),0),rfl,⟨⟨by omega,fun h=>absurd h (by decide),fun _=>⟨hdi,by rw [hnm],rfl,by rw [hnm],by rw [hnm];exact h44,h125⟩,fun h=>absurd h (by decide),by omega⟩,stj⟩,by show 2 - 1<2 - 0;omega⟩
             ·have d7:decide ((((i+1)+jn:Nat):Int)+1<(t.size:Int))=false:=decide_eq_false (by omega);(conv=>whnf);rw [d7];(conv=>whnf);exact⟨rfl,(1,(i+1)+jn+1,(v:Int),0),rfl,⟨⟨by omega,fun h=>absurd h (by decide),fun _=>⟨hdi,by rw [hnm],rfl,by rw [hnm],by rw [hnm];exact h44,by rw [Ci h1];decide⟩,fun h=>absurd h (by decide),by omega⟩,stj⟩,by show 2 - 1<2 - 0;omega⟩
            ·have d6:(((bt t ((i+1)+jn):Nat):Int) != 44)=true:=bne_iff_ne.2 (by omega);(conv=>whnf);rw [d6];(conv=>whnf);exact⟨rfl,(1,(i+1)+jn,(v:Int),0),rfl,⟨⟨.inl rfl,hje,(by first | exact hdi | rfl),by rw [hnm],(v:Int),by rw [hnm];unfold upM;rw [if_neg h44],by omega,by omega,fun _=>rfl,fun h=>absurd h (by decide)⟩,stj⟩⟩
           ·have d5:decide ((t.size:Int)≤(((i+1)+jn:Nat):Int))=true:=decide_eq_true (by omega);(conv=>whnf);rw [d5];(conv=>whnf);exact⟨rfl,(1,(i+1)+jn,(v:Int),0),rfl,⟨⟨.inl rfl,hje,(by first | exact hdi | rfl),by rw [hnm],(v:Int),by rw [hnm];unfold upM;rw [if_neg (by rw [Ci h0];omega)],by omega,by omega,fun _=>rfl,fun h=>absurd h (by decide)⟩,stj⟩⟩
        ·have d2:decide ((jn:Int)<3)=false:=decide_eq_false (by omega);(conv=>whnf);rw [d2];(conv=>whnf);try (refine Am.run ?_)
         (conv=>whnf);have hv3:Bz t 3 (i+1) 0=(v,(i+1)+jn):=hout (.inl (by omega));have hnm:Bz t 3 (i+1) 0=(v,(i+1)+jn):=hv3;by_cases h0:(i+1)+jn<t.size
         ·have d5:decide ((t.size:Int)≤(((i+1)+jn:Nat):Int))=false:=decide_eq_false (by omega);(conv=>whnf);rw [d5];refine vbt h0 ?_;by_cases h44:bt t ((i+1)+jn)=44
          ·have d6:(((bt t ((i+1)+jn):Nat):Int) != 44)=false:=by rw [h44];rfl
           (conv=>whnf);rw [d6];(conv=>whnf);rw [w64 (x:=(((i+1)+jn:Nat):Int)+1) (by omega) (by omega)];(conv=>whnf);try (refine Am.run ?_)
           (conv=>whnf);by_cases h1:(i+1)+jn+1<t.size
           ·have d7:decide ((((i+1)+jn:Nat):Int)+1<(t.size:Int))=true:=decide_eq_true (by omega);(conv=>whnf);rw [d7];refine vbt (i:=(i+1)+jn+1) h1 ?_;by_cases h125:bt t ((i+1)+jn+1)=125
            ·have d8:(((bt t ((i+1)+jn+1):Nat):Int)==125)=true:=by rw [h125];rfl
             (conv=>whnf);rw [d8];refine ixa CH (by decide) (by decide) ?_;refine AT stj 0 ct3 rfl (by show _<(2:Nat);decide) rfl fun G7 sg7=>?_;replace sg7:St H G7 [pA2 q (v:Int) (-1)]:=sg7;(conv=>whnf);exact⟨rfl,(2,(i+1)+jn+1,(v:Int),-1),rfl,⟨⟨by omega,fun h=>absurd h (by decide),fun h=>absurd h (by decide),fun _=>⟨hdi,by rw [hnm],rfl,by rw [hnm];unfold upM;rw [if_pos h44,if_pos h125]⟩,by omega⟩,sg7⟩,by show 2 - 2<2 - 0;omega⟩
            ·have d8:(((bt t ((i+1)+jn+1):Nat):Int)==125)=false:=El h125;(conv=>whnf);rw [d8];(conv=>whnf);exact⟨rfl,(1,(i+1)+jn+1,(v:Int),0),rfl,⟨⟨by omega,fun h=>absurd h (by decide),fun _=>⟨hdi,by rw [hnm],rfl,by rw [hnm],by rw [hnm];exact h44,h125⟩,fun h=>absurd h (by decide),by omega⟩,stj⟩,by show 2 - 1<2 - 0;omega⟩
           ·have d7:decide ((((i+1)+jn:Nat):Int)+1<(t.size:Int))=false:=decide_eq_false (by omega);(conv=>whnf);rw [d7];(conv=>whnf);exact⟨rfl,(1,(i+1)+jn+1,(v:Int),0),rfl,⟨⟨by omega,fun h=>absurd h (by decide),fun _=>⟨hdi,by rw [hnm],rfl,by rw [hnm],by rw [hnm];exact h44,by rw [Ci h1];decide⟩,fun h=>absurd h (by decide),by omega⟩,stj⟩,by show 2 - 1<2 - 0;omega⟩
          ·have d6:(((bt t ((i+1)+jn):Nat):Int) != 44)=true:=bne_iff_ne.2 (by omega);(conv=>whnf);rw [d6];(conv=>whnf);exact⟨rfl,(1,(i+1)+jn,(v:Int),0),rfl,⟨⟨.inl rfl,hje,(by first | exact hdi | rfl),by rw [hnm],(v:Int),by rw [hnm];unfold upM;rw [if_neg h44],by omega,by omega,fun _=>rfl,fun h=>absurd h (by decide)⟩,stj⟩⟩
         ·have d5:decide ((t.size:Int)≤(((i+1)+jn:Nat):Int))=true:=decide_eq_true (by omega);(conv=>whnf);rw [d5];(conv=>whnf);exact⟨rfl,(1,(i+1)+jn,(v:Int),0),rfl,⟨⟨.inl rfl,hje,(by first | exact hdi | rfl),by rw [hnm],(v:Int),by rw [hnm];unfold upM;rw [if_neg (by rw [Ci h0];omega)],by omega,by omega,fun _=>rfl,fun h=>absurd h (by decide)⟩,stj⟩⟩
    ·(conv=>whnf);try (refine Am.run ?_)
     obtain⟨hdi,hx0,rfl,hej,h44,h125⟩:=hI.one rfl;refine Ao (K3 (i:=e) G) fun G1 hg1=>?_;have sg1:=stg.call hg1;cases hd:Dt t e with
     | false=>
       (conv=>whnf);refine⟨sg1.old,?_⟩;unfold BrD;have hu:upM t (Bz t 3 (i+1) 0).1 (Bz t 3 (i+1) 0).2= .inl (20,e):=by
        unfold upM;rw [if_pos h44,←hej,if_neg h125,hd];rfl
       have hb:BF t i= .inl (20,e):=by unfold BF;rw [if_pos hdi,hu]
       rw [hb];rfl
     | true=>
       (conv=>whnf);(conv=>whnf);refine A3.mk [12,9] (fun x:Nat×Nat=>match x with | (jn,_)=>[.int .i64 (jn:Int),.int .i64 ((e+jn:Nat):Int)]) (fun x G=>match x with | (jn,v)=>jn≤3∧v<10 ^ jn∧e+jn≤t.size∧Bz t 3 e 0=Bz t (3 - jn) (e+jn) v∧St H G [pA2 q x0 (v:Int)]) (fun x _=>match x with | (jn,_)=>3 - jn) ?_ ?_
       ·(conv=>whnf);exact⟨(0,0),rfl,by omega,by decide,hle,rfl,sg1⟩
       ·rintro⟨jn,v⟩ G2 junk2 ⟨hjn,hv,hje,hvn,stj⟩;have hv1:v<1000:=Aa7 hv (Aa6 (by omega) hjn);have hout:(jn=3∨Dt t (e+jn)=false)→Bz t 3 e 0=(v,e+jn):=fun h=>by
         rw [hvn];rcases h with rfl | h
         ·rfl
         ·exact RJ h _
        clear hI;by_cases hj3:jn<3
        ·have d2:decide ((jn:Int)<3)=true:=decide_eq_true (by omega);(conv=>whnf);rw [d2];refine Ao (K3 (i:=e+jn) G2) fun G3 hg3=>?_;replace stj:=stj.call hg3;cases hdj:Dt t (e+jn)with
         | true=>
           have hlt:e+jn<t.size:=by
            unfold Dt at hdj;have:=of_decide_eq_true hdj;exact Dc (by omega)
           have hdr:48≤bt t (e+jn)∧bt t (e+jn)≤57:=by unfold Dt at hdj;exact of_decide_eq_true hdj
           (conv=>whnf);try (refine Am.run ?_)
           refine Ar.heldZ (fun k=>k=q) [12] (sq [0,1,2,3,4,5,6,7,8,9,10,11] (.f 12 .e)) rfl (by kernel_rfl) (ixa CH (by decide) (by decide) ?_);refine ld1 (v:=.int .i64 (v:Int)) ct3 (by rw [(stj.blk 0 rfl).cell];rfl) rfl ?_;(conv=>whnf);rw [w64 (x:=10*(v:Int)) (by omega) (by omega)];refine vbt hlt ?_;(conv=>whnf);rw [w8 (x:=((bt t (e+jn):Nat):Int) - 48) (by omega) (by omega)];(conv=>whnf);rw [w64 (x:=((bt t (e+jn):Nat):Int) - 48) (by omega) (by omega)];(conv=>whnf);rw [w64 (x:=10*(v:Int)+(((bt t (e+jn):Nat):Int) - 48)) (by omega) (by omega)];refine ixa CH (by decide) (by decide) ?_;refine AT stj 0 ct3 rfl (by show _<(2:Nat);decide) rfl fun G5 sg5=>?_;(conv=>whnf);rw [w64 (x:=((e+jn:Nat):Int)+1) (by omega) (by omega)];(conv=>whnf);rw [w64 (x:=(jn:Int)+1) (by omega) (by omega)];have ev:10*(v:Int)+(((bt t (e+jn):Nat):Int) - 48)=((10*v+(bt t (e+jn) - 48):Nat):Int):=by omega
           rw [ev]at sg5;refine⟨rfl,(jn+1,10*v+(bt t (e+jn) - 48)),rfl,⟨by omega,by rw [AaN];omega,by omega,?_,sg5⟩,by show 3 - (jn+1)<3 - jn;omega⟩;rw [hvn,show 3 - jn=(3 - (jn+1))+1 by omega,Bz,hdj];rfl
         | false=>
           (conv=>whnf);try (refine Am.run ?_)
           (conv=>whnf);have hv3:Bz t 3 e 0=(v,e+jn):=hout (.inr hdj);exact⟨rfl,(2,e+jn,x0,(v:Int)),rfl,⟨⟨.inr rfl,hje,hdi,hx0,(v:Int),by unfold upM;rw [if_pos h44,←hej,if_neg h125,hd];show(if true=true then _ else _)=_;rw [if_pos rfl,hv3],by omega,by omega,fun h=>absurd h (by decide),fun _=>rfl⟩,stj⟩⟩
        ·have d2:decide ((jn:Int)<3)=false:=decide_eq_false (by omega);(conv=>whnf);rw [d2];(conv=>whnf);try (refine Am.run ?_)
         (conv=>whnf);have hv3:Bz t 3 e 0=(v,e+jn):=hout (.inl (by omega));exact⟨rfl,(2,e+jn,x0,(v:Int)),rfl,⟨⟨.inr rfl,hje,hdi,hx0,(v:Int),by unfold upM;rw [if_pos h44,←hej,if_neg h125,hd];show(if true=true then _ else _)=_;rw [if_pos rfl,hv3],by omega,by omega,fun h=>absurd h (by decide),fun _=>rfl⟩,stj⟩⟩
   ·have hk:k=2:=by have:=hI.le2;omega
    subst hk;obtain⟨h1,h2,h3,h4⟩:=hI.two rfl;(conv=>whnf);exact⟨rfl,(2,e,x0,x1),rfl,⟨⟨.inr rfl,hle,h1,h2,-1,h4,by omega,by omega,fun h=>absurd h (by decide),fun _=>h3.symm⟩,stg⟩⟩
 ·rintro⟨k,e,x0,x1⟩ G junk ⟨⟨hk,he,hd,hx0,n,hu,hn1,hn2,h1n,h2n⟩,stg⟩;have hbr:=YC hd hu;obtain⟨m,hm⟩:∃m,m=(Bz t 3 (i+1) 0).1:=⟨_,rfl⟩;rw [←hm]at hbr hx0;clear hu hm st1;rcases hk with rfl | rfl
  ·have hnx:=h1n rfl;refine Am.run (ixa CH (by decide) (by decide) ?_);refine ld1 (v:=.int .i64 (x0)) ct3 (by rw [(stg.blk 0 rfl).cell];rfl) trivial ?_;refine ixa CH (by decide) (by decide) ?_;refine AT stg 0 ct3 rfl (by show _<(2:Nat);decide) rfl fun G2 sg2=>?_;replace sg2:St H G2 [pA2 q x0 x0]:=sg2;(conv=>whnf);try (refine Am.run ?_)
   (conv=>whnf);by_cases he2:e<t.size
   ·have d1:decide ((t.size:Int)≤(e:Int))=false:=decide_eq_false (by omega);(conv=>whnf);rw [d1];refine vbt he2 ?_;by_cases h125:bt t e=125
    ·have d2:(((bt t e:Nat):Int) != 125)=false:=by rw [h125];rfl
     have hen:E9 t i m n e=(if 255<m∨255<n∨(0≤n∧n<(m:Int))then .inl (22,i)else .inr (m,n,e+1)):=by unfold E9;rw [if_pos h125]
     (conv=>whnf);rw [d2];refine ixa CH (by decide) (by decide) ?_;refine ld1 (v:=.int .i64 (x0)) ct3 (by rw [(sg2.blk 0 rfl).cell];rfl) trivial ?_;by_cases c1:255<x0
     ·have d3:decide (255<x0)=true:=decide_eq_true c1;(conv=>whnf);rw [d3];(conv=>whnf);refine⟨sg2.old,?_⟩;unfold BrD;rw [hbr,hen,if_pos (.inl (by omega))];rfl
     ·have d3:decide (255<x0)=false:=decide_eq_false c1;(conv=>whnf);rw [d3];refine ixa CH (by decide) (by decide) ?_;refine ld1 (v:=.int .i64 (x0)) ct3 (by rw [(sg2.blk 0 rfl).cell];rfl) trivial ?_;by_cases c2:255<n
      ·have d4:decide (255<x0)=true:=decide_eq_true (by omega);(conv=>whnf);rw [d4];(conv=>whnf);refine⟨sg2.old,?_⟩;unfold BrD;rw [hbr,hen,if_pos (.inr (.inl c2))];rfl
      ·have d4:decide (255<x0)=false:=decide_eq_false (by omega);(conv=>whnf);rw [d4];refine ixa CH (by decide) (by decide) ?_;refine ld1 (v:=.int .i64 (x0)) ct3 (by rw [(sg2.blk 0 rfl).cell];rfl) trivial ?_;by_cases c3:0≤n
       ·have d5:decide (0≤x0)=true:=decide_eq_true (by omega);(conv=>whnf);rw [d5];refine ixa CH (by decide) (by decide) ?_;refine ld1 (v:=.int .i64 (x0)) ct3 (by rw [(sg2.blk 0 rfl).cell];rfl) trivial ?_;refine ixa CH (by decide) (by decide) ?_;refine ld1 (v:=.int .i64 (x0)) ct3 (by rw [(sg2.blk 0 rfl).cell];rfl) trivial ?_;by_cases c4:n<(m:Int)
        ·have d6:decide (x0<x0)=true:=decide_eq_true (by omega);(conv=>whnf);rw [d6];(conv=>whnf);refine⟨sg2.old,?_⟩;unfold BrD;rw [hbr,hen,if_pos (.inr (.inr ⟨c3,c4⟩))];rfl
        ·have d6:decide (x0<x0)=false:=decide_eq_false (by omega);(conv=>whnf);rw [d6];refine Ar.lex rfl (by kernel_rfl) (ixa CH (by decide) (by decide) ?_);refine ld1 (v:=.int .i64 (x0)) ct3 (by rw [(sg2.blk 0 rfl).cell];rfl) trivial ?_;refine ixa CH (by decide) (by decide) ?_;refine ld1 (v:=.int .i64 (x0)) ct3 (by rw [(sg2.blk 0 rfl).cell];rfl) trivial ?_;(conv=>whnf);rw [w64 (x:=(e:Int)+1) (by omega) (by omega)];(conv=>whnf);refine⟨sg2.old,?_⟩;unfold BrD;rw [hbr,hen,if_neg (by omega),hnx,hx0];rfl
       ·have d5:decide (0≤x0)=false:=decide_eq_false (by omega);(conv=>whnf);rw [d5];refine Ar.lex rfl (by kernel_rfl) (ixa CH (by decide) (by decide) ?_);refine ld1 (v:=.int .i64 (x0)) ct3 (by rw [(sg2.blk 0 rfl).cell];rfl) trivial ?_;refine ixa CH (by decide) (by decide) ?_;refine ld1 (v:=.int .i64 (x0)) ct3 (by rw [(sg2.blk 0 rfl).cell];rfl) trivial ?_;(conv=>whnf);rw [w64 (x:=(e:Int)+1) (by omega) (by omega)];(conv=>whnf);refine⟨sg2.old,?_⟩;unfold BrD;rw [hbr,hen,if_neg (by omega),hnx,hx0];rfl
    ·have d2:(((bt t e:Nat):Int) != 125)=true:=bne_iff_ne.2 (by omega);have hen:E9 t i m n e= .inl (20,e):=by unfold E9;rw [if_neg h125]
     (conv=>whnf);rw [d2];(conv=>whnf);refine⟨sg2.old,?_⟩;unfold BrD;rw [hbr,hen];rfl
   ·have d1:decide ((t.size:Int)≤(e:Int))=true:=decide_eq_true (by omega);have hen:E9 t i m n e= .inl (20,e):=by unfold E9;rw [if_neg (by rw [Ci he2];omega)]
    (conv=>whnf);rw [d1];(conv=>whnf);refine⟨sg2.old,?_⟩;unfold BrD;rw [hbr,hen];rfl
  ·have hnx:=h2n rfl;refine Am.run ?_;(conv=>whnf);try (refine Am.run ?_)
   (conv=>whnf);by_cases he2:e<t.size
   ·have d1:decide ((t.size:Int)≤(e:Int))=false:=decide_eq_false (by omega);(conv=>whnf);rw [d1];refine vbt he2 ?_;by_cases h125:bt t e=125
    ·have d2:(((bt t e:Nat):Int) != 125)=false:=by rw [h125];rfl
     have hen:E9 t i m n e=(if 255<m∨255<n∨(0≤n∧n<(m:Int))then .inl (22,i)else .inr (m,n,e+1)):=by unfold E9;rw [if_pos h125]
     (conv=>whnf);rw [d2];refine ixa CH (by decide) (by decide) ?_;refine ld1 (v:=.int .i64 (x0)) ct3 (by rw [(stg.blk 0 rfl).cell];rfl) trivial ?_;by_cases c1:255<x0
     ·have d3:decide (255<x0)=true:=decide_eq_true c1;(conv=>whnf);rw [d3];(conv=>whnf);refine⟨stg.old,?_⟩;unfold BrD;rw [hbr,hen,if_pos (.inl (by omega))];rfl
     ·have d3:decide (255<x0)=false:=decide_eq_false c1;(conv=>whnf);rw [d3];refine ixa CH (by decide) (by decide) ?_;refine ld1 (v:=.int .i64 (x1)) ct3 (by rw [(stg.blk 0 rfl).cell];rfl) trivial ?_;by_cases c2:255<n
      ·have d4:decide (255<x1)=true:=decide_eq_true (by omega);(conv=>whnf);rw [d4];(conv=>whnf);refine⟨stg.old,?_⟩;unfold BrD;rw [hbr,hen,if_pos (.inr (.inl c2))];rfl
      ·have d4:decide (255<x1)=false:=decide_eq_false (by omega);(conv=>whnf);rw [d4];refine ixa CH (by decide) (by decide) ?_;refine ld1 (v:=.int .i64 (x1)) ct3 (by rw [(stg.blk 0 rfl).cell];rfl) trivial ?_;by_cases c3:0≤n
       ·have d5:decide (0≤x1)=true:=decide_eq_true (by omega);(conv=>whnf);rw [d5];refine ixa CH (by decide) (by decide) ?_;refine ld1 (v:=.int .i64 (x1)) ct3 (by rw [(stg.blk 0 rfl).cell];rfl) trivial ?_;refine ixa CH (by decide) (by decide) ?_;refine ld1 (v:=.int .i64 (x0)) ct3 (by rw [(stg.blk 0 rfl).cell];rfl) trivial ?_;by_cases c4:n<(m:Int)
        ·have d6:decide (x1<x0)=true:=decide_eq_true (by omega);(conv=>whnf);rw [d6];(conv=>whnf);refine⟨stg.old,?_⟩;unfold BrD;rw [hbr,hen,if_pos (.inr (.inr ⟨c3,c4⟩))];rfl
        ·have d6:decide (x1<x0)=false:=decide_eq_false (by omega);(conv=>whnf);rw [d6];refine Ar.lex rfl (by kernel_rfl) (ixa CH (by decide) (by decide) ?_);refine ld1 (v:=.int .i64 (x0)) ct3 (by rw [(stg.blk 0 rfl).cell];rfl) trivial ?_;refine ixa CH (by decide) (by decide) ?_;refine ld1 (v:=.int .i64 (x1)) ct3 (by rw [(stg.blk 0 rfl).cell];rfl) trivial ?_;(conv=>whnf);rw [w64 (x:=(e:Int)+1) (by omega) (by omega)];(conv=>whnf);refine⟨stg.old,?_⟩;unfold BrD;rw [hbr,hen,if_neg (by omega),hnx,hx0];rfl
       ·have d5:decide (0≤x1)=false:=decide_eq_false (by omega);(conv=>whnf);rw [d5];refine Ar.lex rfl (by kernel_rfl) (ixa CH (by decide) (by decide) ?_);refine ld1 (v:=.int .i64 (x0)) ct3 (by rw [(stg.blk 0 rfl).cell];rfl) trivial ?_;refine ixa CH (by decide) (by decide) ?_;refine ld1 (v:=.int .i64 (x1)) ct3 (by rw [(stg.blk 0 rfl).cell];rfl) trivial ?_;(conv=>whnf);rw [w64 (x:=(e:Int)+1) (by omega) (by omega)];(conv=>whnf);refine⟨stg.old,?_⟩;unfold BrD;rw [hbr,hen,if_neg (by omega),hnx,hx0];rfl
    ·have d2:(((bt t e:Nat):Int) != 125)=true:=bne_iff_ne.2 (by omega);have hen:E9 t i m n e= .inl (20,e):=by unfold E9;rw [if_neg h125]
     (conv=>whnf);rw [d2];(conv=>whnf);refine⟨stg.old,?_⟩;unfold BrD;rw [hbr,hen];rfl
   ·have d1:decide ((t.size:Int)≤(e:Int))=true:=decide_eq_true (by omega);have hen:E9 t i m n e= .inl (20,e):=by unfold E9;rw [if_neg (by rw [Ci he2];omega)]
    (conv=>whnf);rw [d1];(conv=>whnf);refine⟨stg.old,?_⟩;unfold BrD;rw [hbr,hen];rfl
def EQ(c m:Nat)(n:Int):Nat:=
 if n<0 then(if m=0 then c+1 else m*c+m+c+1)else if n=0 then 1 else if m=0 then n.toNat*(c+2)+n.toNat - 1 else m*c+m - 1+(n.toNat - m)*(c+3)
theorem I7(a:ReM)(m:Nat):∀k,1≤k→((BA a m k).getD .eps).nodes+1=min k m*(a.nodes+1)+(k - m)*(a.nodes+3)
 | 0,h=>absurd h (by decide)
 | 1,_=>by
   rw [Hr];by_cases hm:0<m
   ·rw [if_pos hm,show min 1 m=1 by omega,show 1 - m=0 by omega];simp
   ·rw [if_neg hm,show min 1 m=0 by omega,show 1 - m=1 by omega];show 1+a.nodes+1+1=_;omega
 | k+2,_=>by
   have ih:=I7 a m (k+1) (by omega);rw [CS a m (k+1) (by omega)];show 1+_+(if k+1<m then a else AW a).nodes+1=_;by_cases hm:k+1<m
   ·rw [if_pos hm];rw [show min (k+1) m=k+1 by omega,show k+1 - m=0 by omega]at ih;rw [show min (k+2) m=k+1+1 by omega,show k+2 - m=0 by omega,Nat.add_mul (k+1) 1];omega
   ·rw [if_neg hm];rw [show min (k+1) m=m by omega]at ih;rw [show min (k+2) m=m by omega,show k+2 - m=(k+1 - m)+1 by omega,Nat.add_mul (k+1 - m) 1];show 1+_+(1+a.nodes+1)+1=_;omega
theorem Q3(a:ReM)(m:Nat)(n:Int)(hmn:0≤n→(m:Int)≤n):(BH a m n).nodes=EQ a.nodes m n:=by
 unfold BH EQ;by_cases hn:n<0
 ·rw [if_pos hn,if_pos hn];by_cases hm:m=0
  ·rw [if_pos hm,if_pos hm];show 1+a.nodes=_;omega
  ·rw [if_neg hm,if_neg hm];have h:=I7 a m m (by omega);rw [Nat.min_self,Nat.sub_self,Nat.zero_mul,AaP]at h;show 1+((BA a m m).getD .eps).nodes+(1+a.nodes)=_;omega
 ·rw [if_neg hn,if_neg hn];by_cases h0:n=0
  ·rw [if_pos h0,if_pos h0];rfl
  ·rw [if_neg h0,if_neg h0];obtain⟨k,rfl⟩:=AaD (show 0≤n by omega);have hmk:m≤k:=by have:=hmn (by omega);omega
   have h:=I7 a m k (by omega);rw [AaO];rw [show min k m=m by omega]at h;by_cases hm:m=0
   ·rw [if_pos hm];subst hm;have e1:k*(a.nodes+3)=k*(a.nodes+2)+k:=by rw [show a.nodes+3=a.nodes+2+1 by omega,AaP (k) (a.nodes+2) 1,Nat.mul_one]
    simp only [Nat.zero_mul,AaB,Nat.sub_zero]at h;omega
   ·rw [if_neg hm];rw [AaP,Nat.mul_one]at h;have:1≤m*a.nodes+m:=by omega
    omega
theorem UU(c m:Nat)(n:Int)(hmn:0≤n→(m:Int)≤n):min (EQ (min c 2001) m n) 2001=min (EQ c m n) 2001:=by
 by_cases hc:c≤2001
 ·rw [Nat.min_eq_left hc]
 ·have h1:EQ 2001 m n≤EQ c m n:=by
   unfold EQ;split
   ·split
    ·omega
    ·have:=AaA m (show 2001≤c by omega);omega
   ·split
    ·omega
    ·split
     ·have:=AaA n.toNat (show 2001+2≤c+2 by omega);omega
     ·have h1:=AaA m (show 2001≤c by omega);have h2:=AaA (n.toNat - m) (show 2001+3≤c+3 by omega);omega
  have h2:n≠0→2001≤EQ 2001 m n:=by
   intro hn;unfold EQ;split
   ·split
    ·omega
    ·have:=AaF 2001 (show 1≤m by omega);omega
   ·have hk:1≤n.toNat:=by omega
    split
    ·have:=AaF (2001+2) hk;omega
    ·have:=AaF 2001 (show 1≤m by omega);have:=Nat.zero_le ((n.toNat - m)*(2001+3));omega
  rw [Nat.min_eq_right (show 2001≤c by omega)];by_cases hn:n=0
  ·subst hn;rfl
  ·have:=h2 hn;omega
theorem WG(a:ReM)(m:Nat)(n:Int)(hmn:0≤n→(m:Int)≤n):szR (BH a m n)=min (EQ (szR a) m n) 2001:=by
 unfold szR;rw [Q3 a m n hmn,UU _ _ _ hmn]
theorem KP(op:ROp)(a b:ReM):szR (opR op a b)=min (1+szR a+szR b) 2001:=by unfold szR;rw [M0];omega
theorem WK{c:Nat}{m n:Int}(hc:c≤2001)(h:QS m n)(H:Aa):B8 Tryz.prog 135 #[.int .i64 (c:Int),.int .i64 m,.int .i64 n] H (.int .i64 ((EQ c (AJ m) n:Nat):Int)):=by
 refine Al.of_vc Tryz.func135 rfl (Tryz.call135 _) ?_;by_cases h2:m= -2
 ·have hn:n= -1:=by rcases h with h | h;exact h.2;omega
  subst h2 hn;(conv=>whnf);refine⟨?_,Agr.refl _ _⟩
  congr 1
  rw [w64 (x:=(c:Int)+1) (by omega) (by omega)];rw [w64 (x:=(c:Int)+1+(c:Int)) (by omega) (by omega)];rw [w64 (x:=(c:Int)+1+(c:Int)+1) (by omega) (by omega)];show _=((1*c+1+c+1:Nat):Int);omega
 ·obtain⟨hm0,hm1,hn0,hn1,hmn⟩:0≤m∧m≤255∧ -1≤n∧n≤255∧(0≤n→m≤n):=by rcases h with h | h;exact absurd h.1 h2;exact h
  obtain⟨k,rfl⟩:=AaD hm0;have hlow:AJ (k:Int)=k:=by unfold AJ;rw [if_neg h2];rfl
  have d1:((k:Int)== -2)=false:=beq_eq_false_iff_ne.2 h2;have hp:k*c≤255*2001:=AaH (by omega) hc;rw [hlow];unfold EQ;(conv=>whnf);try rw [d1]
  (conv=>whnf);try (refine Am.run ?_)
  (conv=>whnf);by_cases hneg:n<0
  ·have d2:decide (n<0)=true:=decide_eq_true hneg;rw [if_pos hneg];rw [d2];by_cases hk:k=0
   ·subst hk;(conv=>whnf);refine⟨?_,Agr.refl _ _⟩
    congr 1
    rw [w64 (x:=(c:Int)+1) (by omega) (by omega)];rfl
   ·have d3:((k:Int)==0)=false:=beq_eq_false_iff_ne.2 (by omega);rw [if_neg hk];(conv=>whnf);try rw [d3]
    (conv=>whnf);try (refine Am.run ?_)
    (conv=>whnf);try rw [d2]
    (conv=>whnf);refine⟨?_,Agr.refl _ _⟩
    congr 1
    have ep:(k:Int)*(c:Int)=((k*c:Nat):Int):=(AaG k c).symm;rw [ep];generalize k*c=p at*;rw [w64 (x:=(p:Int)) (by omega) (by omega)];rw [w64 (x:=(p:Int)+k) (by omega) (by omega)];rw [w64 (x:=(p:Int)+k - 1) (by omega) (by omega)];rw [w64 (x:=(p:Int)+k - 1+1) (by omega) (by omega)];rw [w64 (x:=(p:Int)+k - 1+1+c) (by omega) (by omega)];rw [w64 (x:=(p:Int)+k - 1+1+c+1) (by omega) (by omega)];omega
  ·have d2:decide (n<0)=false:=decide_eq_false hneg;rw [if_neg hneg]
   try rw [d2]
   (conv=>whnf);try (refine Am.run ?_)
   (conv=>whnf);try rw [d2]
   (conv=>whnf);try (refine Am.run ?_)
   (conv=>whnf);obtain⟨j,rfl⟩:=AaD (show 0≤n by omega);have hq:j*(c+2)≤255*2003:=AaH (by omega) (by omega);have hr:(j - k)*(c+3)≤255*2004:=AaH (by omega) (by omega);rw [AaO];by_cases h0:j=0
   ·subst h0;(conv=>whnf);exact⟨by rw [if_pos (show((0:Nat):Int)=0 from rfl)];rfl,Agr.refl _ _⟩
   ·have d3:((j:Int)==0)=false:=beq_eq_false_iff_ne.2 (by omega);rw [if_neg (show¬(j:Int)=0 by omega)]
    try rw [d3]
    (conv=>whnf);try (refine Am.run ?_)
    (conv=>whnf);by_cases hk:k=0
    ·subst hk;(conv=>whnf);refine⟨?_,Agr.refl _ _⟩
     congr 1
     rw [if_pos (show(0:Nat)=0 from rfl)];rw [w64 (x:=(c:Int)+2) (by omega) (by omega)];have ep:(j:Int)*((c:Int)+2)=((j*(c+2):Nat):Int):=by rw [AaG];rfl
     rw [ep];have hj1:1≤j*(c+2):=Nat.le_trans (by omega) (AaH (show 1≤j by omega) (show 2≤c+2 by omega));generalize j*(c+2)=p at*;rw [w64 (x:=(p:Int)) (by omega) (by omega)];rw [w64 (x:=(p:Int)+j) (by omega) (by omega)];rw [w64 (x:=(p:Int)+j - 1) (by omega) (by omega)];omega
    ·have d4:((k:Int)==0)=false:=beq_eq_false_iff_ne.2 (by omega);rw [if_neg hk]
     try rw [d4]
     (conv=>whnf);refine⟨?_,Agr.refl _ _⟩
     congr 1
     rw [w64 (x:=(c:Int)+2) (by omega) (by omega)];rw [w64 (x:=(c:Int)+2+1) (by omega) (by omega)];rw [w64 (x:=(j:Int) - (k:Int)) (by omega) (by omega)];have ep:(k:Int)*(c:Int)=((k*c:Nat):Int):=(AaG k c).symm;have eq:((j:Int) - (k:Int))*((c:Int)+2+1)=(((j - k)*(c+3):Nat):Int):=by
      rw [AaG,show((j - k:Nat):Int)=(j:Int) - k by have:=hmn (by omega);omega,show(c:Int)+2+1=((c+3:Nat):Int) by omega]
     rw [ep,eq];have hmn':=hmn (by omega);generalize k*c=p at*;generalize (j - k)*(c+3)=r at*;rw [w64 (x:=(p:Int)) (by omega) (by omega)];rw [w64 (x:=(p:Int)+k) (by omega) (by omega)];rw [w64 (x:=(p:Int)+k - 1) (by omega) (by omega)];rw [w64 (x:=(r:Int)) (by omega) (by omega)];rw [w64 (x:=(p:Int)+k - 1+r) (by omega) (by omega)];omega
def D7(ps:List Pc)(k r:Nat)(t:ByteArray)(q2 q3 i:Nat)(x:BitVec 256):List Pc:=ps.set k (pRd r t i)++[pB 101 q2 (Af 0),pB 101 q3 (Af x)]
theorem Cl{ps:List Pc}{k r q2 q3 i:Nat}{t:ByteArray}{x:BitVec 256}{p:Pc}(hp:ps[k]? =some p):(D7 ps k r t q2 q3 i x)[k]? =some (pRd r t i):=lgL (lgS hp)
theorem Cm{ps:List Pc}{k r q2 q3 i j:Nat}{t:ByteArray}{x:BitVec 256}{p:Pc}(hp:ps[k]? =some p):(D7 ps k r t q2 q3 i x).set k (pRd r t j)=D7 ps k r t q2 q3 j x:=by
 unfold D7;rw [lsL (lgS hp),AaE]
theorem Cx{ps:List Pc}{k r q2 q3 i:Nat}{t:ByteArray}{x:BitVec 256}:(D7 ps k r t q2 q3 i x)[(ps.set k (pRd r t i)).length+1]? =some (pB 101 q3 (Af x)):=lgR _ _ 1
theorem JG{ps:List Pc}{k r q2 q3 i:Nat}{t:ByteArray}{x:BitVec 256}:(D7 ps k r t q2 q3 i x)[(ps.set k (pRd r t i)).length+0]? =some (pB 101 q2 (Af 0)):=lgR _ _ 0
theorem CK{H:Aa}{b:Nat}{x:BitVec 256}(h:Blk H b 101 (Af x)):Bi H b 0 (Af x):=h.cells (fun j v hv=>by rw [AaB];exact hv)
structure Yy(B:Nat→Prop)(H0:Aa)(ps:List Pc)(k r:Nat)(t:ByteArray)(q2 q3:Nat)(M:Sum Nat (BitVec 256×Nat))(y:Nat×Nat×BitVec 256)(G:Aa):Prop where
 le:y.1≤t.size
 fuel:t.size<y.2.1+y.1
 eq:CG t y.2.1 y.1 y.2.2=M
 st:StB B H0 G (D7 ps k r t q2 q3 y.1 y.2.2)
theorem Q6{B:Nat→Prop}{H0 H:Aa}{ps:List Pc}{k r i:Nat}{t:ByteArray}(hE:Fx H0)(hEB:B 0)(ht:t.size≤1152921504606846976)(st:StB B H0 H ps)(hp:ps[k]? =some (pRd r t i))(hi:i≤t.size):
  BC Tryz.prog 241 #[.pointer (some ⟨r,0,none⟩)] H (fun v H'=>∃(x:BitVec 256) (j:Nat),GW t i= .inr (x,j)∧v=Bm x∧StB B H0 H' (ps.set k (pRd r t j)))
   (fun x H'=>∃e j:Nat,GW t i= .inl e∧x=D5 10 e∧StB B H0 H' (ps.set k (pRd r t j))):=by
 refine BC.of_vc Tryz.func241 rfl (Tryz.call241 _) (Ak (Bm 0) (Af 0) rfl rfl ?_);intro q2 H2 hq2 hs2 hb2 ha2;have st2:=st.box hq2 hs2 hb2 ha2;refine Ak (Bm 0) (Af 0) rfl rfl ?_;intro q3 H3 hq3 hs3 hb3 ha3;have st3:=st2.box hq3 hs3 hb3 ha3;rw [AaJ]at st3;replace st3:StB B H0 H3 (D7 ps k r t q2 q3 i 0#256):=by
  unfold D7;rw [ZL hp];exact st3
 refine Ah.of (Ao (Ho (st3.blk k (Cl hp))) fun H4 ha4=>?_);have st4:=st3.call ha4;obtain⟨nt,hnt⟩:∃nt:Bool,nt=decide (bt t i=94):=⟨_,rfl⟩;have hbr:GW t i=match CG t (t.size+1) (if nt then i+1 else i) 0#256 with | .inl e=>.inl e | .inr (x,k)=>.inr (if nt then ~~~x else x,k):=by
  unfold GW;rw [hnt];by_cases h:bt t i=94
  ·simp only [h,if_true,decide_true];cases CG t (t.size+1) (i+1) 0#256<;>rfl
  ·simp only [h,if_false,decide_false,AaI];cases CG t (t.size+1) i 0#256<;>rfl
 obtain⟨M,hM⟩:∃M,M=CG t (t.size+1) (if nt then i+1 else i) 0#256:=⟨_,rfl⟩;rw [←hM]at hbr;have hle:(if nt then i+1 else i)≤t.size:=by
  cases hn:nt with
  | false=>exact hi
  | true=>
    rw [hn]at hnt;have h94:=of_decide_eq_true hnt.symm;exact Dc (by omega)
 by_cases h0:bt t i=256
 ·have hn0:nt=false:=by rw [hnt,decide_eq_false];omega
  rw [if_pos h0,decide_eq_false (by omega)];(conv=>whnf);refine AQ.cut [] (fun _:Unit=>[]) (fun _ G=>StB B H0 G (D7 ps k r t q2 q3 (if nt then i+1 else i) 0#256)) ?_ ?_
  ·(conv=>whnf);exact⟨rfl,(),rfl,by rw [hn0];exact st4⟩
  ·rintro⟨⟩ G junk0 stg;(conv=>whnf);refine Ed.mk [] (fun _:Nat×Nat×BitVec 256=>[]) (fun y G=>Yy B H0 ps k r t q2 q3 M y G) (fun y _=>t.size - y.1) ?_ ?_
   ·(conv=>whnf);exact⟨((if nt then i+1 else i),t.size+1,0#256),rfl,⟨hle,by simp only;omega,hM.symm,stg⟩⟩
   ·rintro⟨j,n,x⟩ J0 junk1 ⟨hj,hfu,heq,stl⟩;simp only at hj hfu heq stl;obtain⟨n,rfl⟩:∃m,n=m+1:=⟨n - 1,by omega⟩;(conv=>whnf);try (refine AQ.run ?_)
    refine Ah.of (Ao (Ho (stl.blk k (Cl hp))) fun J1 ja1=>?_);have stl1:=stl.call ja1;by_cases hj0:bt t j=256
    ·rw [if_pos hj0,decide_eq_false (by omega)];have hmn:CG t (n+1) j x= .inl j:=by
      unfold CG;rw [if_neg (by omega)];have:Bl t Dl j= .inl j:=by unfold Bl;rw [hj0,if_neg (by decide),if_pos (.inr (.inl (by decide)))]
      rw [this]
     (conv=>whnf);try (refine AQ.run ?_)
     refine Ah.mk (Gw (s:=Dl) hE hEB ht stl1 (Cl hp)) ?_ ?_
     ·rintro _ J2 ⟨lo,j1,hlo,rfl,stl2⟩;exfalso;have:Bl t Dl j= .inl j:=by unfold Bl;rw [hj0,if_neg (by decide),if_pos (.inr (.inl (by decide)))]
      rw [this]at hlo;cases hlo
     ·rintro _ J2 ⟨e,j1,hlo,rfl,stl2⟩;rw [Cm hp]at stl2;refine⟨e,j1,?_,rfl,stl2.lft⟩;have:Bl t Dl j= .inl j:=by unfold Bl;rw [hj0,if_neg (by decide),if_pos (.inr (.inl (by decide)))]
      rw [this]at hlo;cases hlo;rw [hbr,←heq,hmn]
    ·have hjl:=Dc hj0;obtain⟨b1,hb1,hb2,hb3⟩:=CI hjl;rw [if_neg hj0,decide_eq_true (by omega)];by_cases h93:bt t j=93
     ·have d2:((bt t j:Int)==(93:Int))=true:=by rw [h93];rfl
      have hmn:M= .inr (x,j+1):=by rw [←heq];unfold CG;rw [if_pos h93]
      (conv=>whnf);try (refine AQ.run ?_)
      (conv=>whnf);rw [d2];refine VC.fa A9 ?_;refine ld1 (v:=.int .i64 ((j:Nat):Int)) ct3 (by rw [(stl1.blk k (Cl hp)).cell];rfl) trivial ?_;(conv=>whnf);rw [w64 (x:=((j:Nat):Int)+1) (by omega) (by omega)];refine VC.fa A9 (AT stl1 k ct3 (Cl hp) (by simp) rfl fun J2 stl2=>?_);replace stl2:StB B H0 J2 ((D7 ps k r t q2 q3 j x).set k (pRd r t (j+1))):=stl2;rw [Cm hp]at stl2;rw [hmn]at hbr
      ·refine ldN (cs:=Af x) AU (CK (stl2.blk _ Cx)) trivial (AI (cs:=Af x) stl2 _ rfl JG (Aa0 _) rfl fun J4 stl4=>?_);have hb4:Blk J4 q2 101 (Af x):=by
        have:=stl4.blk _ (lgS JG);rwa [A8 (by rfl)]at this
       unfold D7 at stl4;rw [lsR]at stl4;refine ldN (cs:=Af x) AU (CK hb4) trivial ?_;exact⟨x,j+1,by rw [hbr,hn0];rfl,rfl,stl4.lft⟩
     ·have d2:((bt t j:Int)==(93:Int))=false:=beq_eq_false_iff_ne.2 (by omega);(conv=>whnf);try (refine AQ.run ?_)
      (conv=>whnf);rw [d2];refine Ah.mk (Gw (s:=Dl) hE hEB ht stl1 (Cl hp)) ?_ ?_
      ·rintro _ J2 ⟨lo,j1,hlo,rfl,stl2⟩;rw [Cm hp]at stl2;have hok:=CL hlo;have hmn:CG t (n+1) j x=FY t lo j1 x (CG t n):=by
        rw [CG,if_neg h93,hlo]
       rw [heq]at hmn;(conv=>whnf);try (refine AQ.run ?_)
       refine Ah.of (Ao (Ho (stl2.blk k (Cl hp))) fun J3 ja3=>?_);have stl3:=stl2.call ja3;by_cases h45:bt t j1=45
       ·have hj1l:j1<t.size:=Dc (by omega);rw [if_neg (by omega),decide_eq_true (by omega)];unfold FY at hmn;rw [if_pos h45]at hmn;have d3:((bt t j1:Int)==(45:Int))=true:=by rw [h45];rfl
        (conv=>whnf);try (refine AQ.run ?_)
        (conv=>whnf);rw [d3];refine VC.fa A9 ?_;refine ld1 (v:=.int .i64 ((j1:Nat):Int)) ct3 (by rw [(stl3.blk k (Cl hp)).cell];rfl) trivial ?_;(conv=>whnf);rw [w64 (x:=((j1:Nat):Int)+1) (by omega) (by omega)];refine VC.fa A9 (AT stl3 k ct3 (Cl hp) (by simp) rfl fun J4 stl4=>?_);replace stl4:StB B H0 J4 ((D7 ps k r t q2 q3 j1 x).set k (pRd r t (j1+1))):=stl4;rw [Cm hp]at stl4;refine VC.fa A9 ?_;refine ld1 (v:=.int .i64 ((j1+1:Nat):Int)) ct3 (by rw [(stl4.blk k (Cl hp)).cell];rfl) trivial ?_;refine Ah.mk (Gw (s:=Dl) hE hEB ht stl4 (Cl hp)) ?_ ?_
        ·rintro _ J5 ⟨hi2,j2,hhi,rfl,stl5⟩;rw [Cm hp]at stl5;have hok2:=CL hhi;rw [hhi]at hmn;by_cases hlt:hi2<lo
         ·have d4:decide ((hi2:Int)<(lo:Int))=true:=decide_eq_true (by omega);simp only [if_pos hlt]at hmn;(conv=>whnf);rw [d4];refine Ah.mk CX (fun _ _ h=>h.elim) ?_;rintro _ _ ⟨rfl,rfl⟩;exact⟨j1+1,j2,by rw [hbr,hmn],rfl,stl5.lft⟩
         ·have d4:decide ((hi2:Int)<(lo:Int))=false:=decide_eq_false (by omega);simp only [if_neg hlt]at hmn;(conv=>whnf);rw [d4];refine Ce.held (Old J5) [5] (sq [0,1,2] (.f 3 (.f 4 (.f 5 .e)))) (CQ _ _) rfl (by kernel_rfl) (ldN (cs:=Af x) AU (CK (stl5.blk _ Cx)) ((stl5.in_ _ Cx (k:=q3) rfl).2) (Ah.of (Ao (Fu lo hi2 (by omega) (by omega) J5) fun J1 ja1=>(⟨ja1,?_⟩))));refine Ah.of (Ao (FG x (AE lo hi2) J1) fun J2 ja2=>?_);have ja3:=ja1.trans (ja2.mono fun k hk=>As ja1 hk);refine⟨ja3,?_⟩;have stj:=stl5.call ja3;refine AI (cs:=Af (x ||| AE lo hi2)) stj _ rfl Cx (Aa0 _) rfl fun J4 stj4=>?_;rw [A8 (by rfl)]at stj4;replace stj4:StB B H0 J4 (D7 ps k r t q2 q3 j2 (x ||| AE lo hi2)):=by
           unfold D7 at stj4 ⊢;rw [lsR]at stj4;exact stj4
          (conv=>whnf);exact⟨rfl,(j2,n,x ||| AE lo hi2),rfl,⟨by simp only;omega,by simp only;omega,hmn.symm,stj4⟩,by simp only;omega⟩
        ·rintro _ J5 ⟨e,j2,hhi,rfl,stl5⟩;rw [Cm hp]at stl5;rw [hhi]at hmn;exact⟨e,j2,by rw [hbr,hmn],rfl,stl5.lft⟩
       ·unfold FY at hmn;rw [if_neg h45]at hmn;by_cases hj1:bt t j1=256
        ·rw [if_pos hj1,decide_eq_false (by omega)];(conv=>whnf);try (refine AQ.run ?_)
         refine Ce.held (Old J3) [5] (sq [0,1,2] (.f 3 (.f 4 (.f 5 .e)))) (CQ _ _) rfl (by kernel_rfl) (ldN (cs:=Af x) AU (CK (stl3.blk _ Cx)) ((stl3.in_ _ Cx (k:=q3) rfl).2) (Ah.of (Ao (Fu lo lo (by omega) (by omega) J3) fun J1 ja1=>(⟨ja1,?_⟩))));refine Ah.of (Ao (FG x (AE lo lo) J1) fun J2 ja2=>?_);have ja3:=ja1.trans (ja2.mono fun k hk=>As ja1 hk);refine⟨ja3,?_⟩;have stj:=stl3.call ja3;refine AI (cs:=Af (x ||| AE lo lo)) stj _ rfl Cx (Aa0 _) rfl fun J4 stj4=>?_;rw [A8 (by rfl)]at stj4;replace stj4:StB B H0 J4 (D7 ps k r t q2 q3 j1 (x ||| AE lo lo)):=by
          unfold D7 at stj4 ⊢;rw [lsR]at stj4;exact stj4
         (conv=>whnf);exact⟨rfl,(j1,n,x ||| AE lo lo),rfl,⟨by simp only;omega,by simp only;omega,hmn.symm,stj4⟩,by simp only;omega⟩
        ·have hb4:=CI (Dc hj1);rw [if_neg hj1,decide_eq_true (by omega)];have d3:((bt t j1:Int)==(45:Int))=false:=beq_eq_false_iff_ne.2 (by omega);(conv=>whnf);try (refine AQ.run ?_)
         (conv=>whnf);rw [d3];refine Ce.held (Old J3) [5] (sq [0,1,2] (.f 3 (.f 4 (.f 5 .e)))) (CQ _ _) rfl (by kernel_rfl) (ldN (cs:=Af x) AU (CK (stl3.blk _ Cx)) ((stl3.in_ _ Cx (k:=q3) rfl).2) (Ah.of (Ao (Fu lo lo (by omega) (by omega) J3) fun J1 ja1=>(⟨ja1,?_⟩))));refine Ah.of (Ao (FG x (AE lo lo) J1) fun J2 ja2=>?_);have ja3:=ja1.trans (ja2.mono fun k hk=>As ja1 hk);refine⟨ja3,?_⟩;have stj:=stl3.call ja3;refine AI (cs:=Af (x ||| AE lo lo)) stj _ rfl Cx (Aa0 _) rfl fun J4 stj4=>?_;rw [A8 (by rfl)]at stj4;replace stj4:StB B H0 J4 (D7 ps k r t q2 q3 j1 (x ||| AE lo lo)):=by
          unfold D7 at stj4 ⊢;rw [lsR]at stj4;exact stj4
         (conv=>whnf);exact⟨rfl,(j1,n,x ||| AE lo lo),rfl,⟨by simp only;omega,by simp only;omega,hmn.symm,stj4⟩,by simp only;omega⟩
      ·rintro _ J2 ⟨e,j1,hlo,rfl,stl2⟩;rw [Cm hp]at stl2;refine⟨e,j1,?_,rfl,stl2.lft⟩;rw [hbr,←heq];unfold CG;rw [if_neg h93,hlo]
 ·have d1:((bt t i:Int)==(94:Int))=nt:=by
   rw [hnt];by_cases h:bt t i=94
   ·rw [h];rfl
   ·rw [decide_eq_false h];exact beq_eq_false_iff_ne.2 (by omega)
  rw [if_neg h0,decide_eq_true (by omega)];(conv=>whnf);rw [d1];(conv=>whnf);refine AQ.cut [] (fun _:Unit=>[]) (fun _ G=>StB B H0 G (D7 ps k r t q2 q3 (if nt then i+1 else i) 0#256)) ?_ ?_
  ·refine AB.mk (fun hn=>?_) (fun hn=>?_)
   ·(conv=>whnf);refine VC.fa A9 ?_;refine ld1 (v:=.int .i64 ((i:Nat):Int)) ct3 (by rw [(st4.blk k (Cl hp)).cell];rfl) trivial ?_;(conv=>whnf);rw [w64 (x:=((i:Nat):Int)+1) (by omega) (by omega)];refine VC.fa A9 (AT st4 k ct3 (Cl hp) (by simp) rfl fun H5 st5=>?_);replace st5:StB B H0 H5 ((D7 ps k r t q2 q3 i 0#256).set k (pRd r t (i+1))):=st5;rw [Cm hp]at st5;exact⟨rfl,(),rfl,by rw [hn];exact st5⟩
   ·(conv=>whnf);exact⟨rfl,(),rfl,by rw [hn];exact st4⟩
  ·rintro⟨⟩ G junk0 stg;(conv=>whnf);refine Ed.mk [] (fun _:Nat×Nat×BitVec 256=>[]) (fun y G=>Yy B H0 ps k r t q2 q3 M y G) (fun y _=>t.size - y.1) ?_ ?_
   ·(conv=>whnf);exact⟨((if nt then i+1 else i),t.size+1,0#256),rfl,⟨hle,by simp only;omega,hM.symm,stg⟩⟩
   ·rintro⟨j,n,x⟩ J0 junk1 ⟨hj,hfu,heq,stl⟩;simp only at hj hfu heq stl;obtain⟨n,rfl⟩:∃m,n=m+1:=⟨n - 1,by omega⟩;(conv=>whnf);try (refine AQ.run ?_)
    refine Ah.of (Ao (Ho (stl.blk k (Cl hp))) fun J1 ja1=>?_);have stl1:=stl.call ja1;by_cases hj0:bt t j=256
    ·rw [if_pos hj0,decide_eq_false (by omega)];have hmn:CG t (n+1) j x= .inl j:=by
      unfold CG;rw [if_neg (by omega)];have:Bl t Dl j= .inl j:=by unfold Bl;rw [hj0,if_neg (by decide),if_pos (.inr (.inl (by decide)))]
      rw [this]
     (conv=>whnf);try (refine AQ.run ?_)
     refine Ah.mk (Gw (s:=Dl) hE hEB ht stl1 (Cl hp)) ?_ ?_
     ·rintro _ J2 ⟨lo,j1,hlo,rfl,stl2⟩;exfalso;have:Bl t Dl j= .inl j:=by unfold Bl;rw [hj0,if_neg (by decide),if_pos (.inr (.inl (by decide)))]
      rw [this]at hlo;cases hlo
     ·rintro _ J2 ⟨e,j1,hlo,rfl,stl2⟩;rw [Cm hp]at stl2;refine⟨e,j1,?_,rfl,stl2.lft⟩;have:Bl t Dl j= .inl j:=by unfold Bl;rw [hj0,if_neg (by decide),if_pos (.inr (.inl (by decide)))]
      rw [this]at hlo;cases hlo;rw [hbr,←heq,hmn]
    ·have hjl:=Dc hj0;obtain⟨b1,hb1,hb2,hb3⟩:=CI hjl;rw [if_neg hj0,decide_eq_true (by omega)];by_cases h93:bt t j=93
     ·have d2:((bt t j:Int)==(93:Int))=true:=by rw [h93];rfl
      have hmn:M= .inr (x,j+1):=by rw [←heq];unfold CG;rw [if_pos h93]
      (conv=>whnf);try (refine AQ.run ?_)
      (conv=>whnf);rw [d2];refine VC.fa A9 ?_;refine ld1 (v:=.int .i64 ((j:Nat):Int)) ct3 (by rw [(stl1.blk k (Cl hp)).cell];rfl) trivial ?_;(conv=>whnf);rw [w64 (x:=((j:Nat):Int)+1) (by omega) (by omega)];refine VC.fa A9 (AT stl1 k ct3 (Cl hp) (by simp) rfl fun J2 stl2=>?_);replace stl2:StB B H0 J2 ((D7 ps k r t q2 q3 j x).set k (pRd r t (j+1))):=stl2;rw [Cm hp]at stl2;rw [hmn]at hbr;refine AB.mk (fun hn=>?_) (fun hn=>?_)
      ·refine ldN (cs:=Af x) AU (CK (stl2.blk _ Cx)) trivial (Ah.of (Ao (UE x J2) fun J3 ja3=>?_));have stl3:=stl2.call ja3;refine AI (cs:=Af (~~~x)) stl3 _ rfl JG (Aa0 _) rfl fun J4 stl4=>?_;have hb4:Blk J4 q2 101 (Af (~~~x)):=by
        have:=stl4.blk _ (lgS JG);rwa [A8 (by rfl)]at this
       unfold D7 at stl4;rw [lsR]at stl4;refine ldN (cs:=Af (~~~x)) AU (CK hb4) trivial ?_;exact⟨~~~x,j+1,by rw [hbr,hn];rfl,rfl,stl4.lft⟩
      ·refine ldN (cs:=Af x) AU (CK (stl2.blk _ Cx)) trivial (AI (cs:=Af x) stl2 _ rfl JG (Aa0 _) rfl fun J4 stl4=>?_);have hb4:Blk J4 q2 101 (Af x):=by
        have:=stl4.blk _ (lgS JG);rwa [A8 (by rfl)]at this
       unfold D7 at stl4;rw [lsR]at stl4;refine ldN (cs:=Af x) AU (CK hb4) trivial ?_;exact⟨x,j+1,by rw [hbr,hn];rfl,rfl,stl4.lft⟩
     ·have d2:((bt t j:Int)==(93:Int))=false:=beq_eq_false_iff_ne.2 (by omega);(conv=>whnf);try (refine AQ.run ?_)
      (conv=>whnf);rw [d2];refine Ah.mk (Gw (s:=Dl) hE hEB ht stl1 (Cl hp)) ?_ ?_
      ·rintro _ J2 ⟨lo,j1,hlo,rfl,stl2⟩;rw [Cm hp]at stl2;have hok:=CL hlo;have hmn:CG t (n+1) j x=FY t lo j1 x (CG t n):=by
        rw [CG,if_neg h93,hlo]
       rw [heq]at hmn;(conv=>whnf);try (refine AQ.run ?_)
       refine Ah.of (Ao (Ho (stl2.blk k (Cl hp))) fun J3 ja3=>?_);have stl3:=stl2.call ja3;by_cases h45:bt t j1=45
       ·have hj1l:j1<t.size:=Dc (by omega);rw [if_neg (by omega),decide_eq_true (by omega)];unfold FY at hmn;rw [if_pos h45]at hmn;have d3:((bt t j1:Int)==(45:Int))=true:=by rw [h45];rfl
        (conv=>whnf);try (refine AQ.run ?_)
        (conv=>whnf);rw [d3];refine VC.fa A9 ?_;refine ld1 (v:=.int .i64 ((j1:Nat):Int)) ct3 (by rw [(stl3.blk k (Cl hp)).cell];rfl) trivial ?_;(conv=>whnf);rw [w64 (x:=((j1:Nat):Int)+1) (by omega) (by omega)];refine VC.fa A9 (AT stl3 k ct3 (Cl hp) (by simp) rfl fun J4 stl4=>?_);replace stl4:StB B H0 J4 ((D7 ps k r t q2 q3 j1 x).set k (pRd r t (j1+1))):=stl4;rw [Cm hp]at stl4;refine VC.fa A9 ?_;refine ld1 (v:=.int .i64 ((j1+1:Nat):Int)) ct3 (by rw [(stl4.blk k (Cl hp)).cell];rfl) trivial ?_;refine Ah.mk (Gw (s:=Dl) hE hEB ht stl4 (Cl hp)) ?_ ?_
        ·rintro _ J5 ⟨hi2,j2,hhi,rfl,stl5⟩;rw [Cm hp]at stl5;have hok2:=CL hhi;rw [hhi]at hmn;by_cases hlt:hi2<lo
         ·have d4:decide ((hi2:Int)<(lo:Int))=true:=decide_eq_true (by omega);simp only [if_pos hlt]at hmn;(conv=>whnf);rw [d4];refine Ah.mk CX (fun _ _ h=>h.elim) ?_;rintro _ _ ⟨rfl,rfl⟩;exact⟨j1+1,j2,by rw [hbr,hmn],rfl,stl5.lft⟩
         ·have d4:decide ((hi2:Int)<(lo:Int))=false:=decide_eq_false (by omega);simp only [if_neg hlt]at hmn;(conv=>whnf);rw [d4];refine Ce.held (Old J5) [5] (sq [0,1,2] (.f 3 (.f 4 (.f 5 .e)))) (CQ _ _) rfl (by kernel_rfl) (ldN (cs:=Af x) AU (CK (stl5.blk _ Cx)) ((stl5.in_ _ Cx (k:=q3) rfl).2) (Ah.of (Ao (Fu lo hi2 (by omega) (by omega) J5) fun J1 ja1=>(⟨ja1,?_⟩))));refine Ah.of (Ao (FG x (AE lo hi2) J1) fun J2 ja2=>?_);have ja3:=ja1.trans (ja2.mono fun k hk=>As ja1 hk);refine⟨ja3,?_⟩;have stj:=stl5.call ja3;refine AI (cs:=Af (x ||| AE lo hi2)) stj _ rfl Cx (Aa0 _) rfl fun J4 stj4=>?_;rw [A8 (by rfl)]at stj4;replace stj4:StB B H0 J4 (D7 ps k r t q2 q3 j2 (x ||| AE lo hi2)):=by
           unfold D7 at stj4 ⊢;rw [lsR]at stj4;exact stj4
          (conv=>whnf);exact⟨rfl,(j2,n,x ||| AE lo hi2),rfl,⟨by simp only;omega,by simp only;omega,hmn.symm,stj4⟩,by simp only;omega⟩
        ·rintro _ J5 ⟨e,j2,hhi,rfl,stl5⟩;rw [Cm hp]at stl5;rw [hhi]at hmn;exact⟨e,j2,by rw [hbr,hmn],rfl,stl5.lft⟩
       ·unfold FY at hmn;rw [if_neg h45]at hmn;by_cases hj1:bt t j1=256
        ·rw [if_pos hj1,decide_eq_false (by omega)];(conv=>whnf);try (refine AQ.run ?_)
         refine Ce.held (Old J3) [5] (sq [0,1,2] (.f 3 (.f 4 (.f 5 .e)))) (CQ _ _) rfl (by kernel_rfl) (ldN (cs:=Af x) AU (CK (stl3.blk _ Cx)) ((stl3.in_ _ Cx (k:=q3) rfl).2) (Ah.of (Ao (Fu lo lo (by omega) (by omega) J3) fun J1 ja1=>(⟨ja1,?_⟩))));refine Ah.of (Ao (FG x (AE lo lo) J1) fun J2 ja2=>?_);have ja3:=ja1.trans (ja2.mono fun k hk=>As ja1 hk);refine⟨ja3,?_⟩;have stj:=stl3.call ja3;refine AI (cs:=Af (x ||| AE lo lo)) stj _ rfl Cx (Aa0 _) rfl fun J4 stj4=>?_;rw [A8 (by rfl)]at stj4;replace stj4:StB B H0 J4 (D7 ps k r t q2 q3 j1 (x ||| AE lo lo)):=by
          unfold D7 at stj4 ⊢;rw [lsR]at stj4;exact stj4
         (conv=>whnf);exact⟨rfl,(j1,n,x ||| AE lo lo),rfl,⟨by simp only;omega,by simp only;omega,hmn.symm,stj4⟩,by simp only;omega⟩
        ·have hb4:=CI (Dc hj1);rw [if_neg hj1,decide_eq_true (by omega)];have d3:((bt t j1:Int)==(45:Int))=false:=beq_eq_false_iff_ne.2 (by omega);(conv=>whnf);try (refine AQ.run ?_)
         (conv=>whnf);rw [d3];refine Ce.held (Old J3) [5] (sq [0,1,2] (.f 3 (.f 4 (.f 5 .e)))) (CQ _ _) rfl (by kernel_rfl) (ldN (cs:=Af x) AU (CK (stl3.blk _ Cx)) ((stl3.in_ _ Cx (k:=q3) rfl).2) (Ah.of (Ao (Fu lo lo (by omega) (by omega) J3) fun J1 ja1=>(⟨ja1,?_⟩))));refine Ah.of (Ao (FG x (AE lo lo) J1) fun J2 ja2=>?_);have ja3:=ja1.trans (ja2.mono fun k hk=>As ja1 hk);refine⟨ja3,?_⟩;have stj:=stl3.call ja3;refine AI (cs:=Af (x ||| AE lo lo)) stj _ rfl Cx (Aa0 _) rfl fun J4 stj4=>?_;rw [A8 (by rfl)]at stj4;replace stj4:StB B H0 J4 (D7 ps k r t q2 q3 j1 (x ||| AE lo lo)):=by
          unfold D7 at stj4 ⊢;rw [lsR]at stj4;exact stj4
         (conv=>whnf);exact⟨rfl,(j1,n,x ||| AE lo lo),rfl,⟨by simp only;omega,by simp only;omega,hmn.symm,stj4⟩,by simp only;omega⟩
      ·rintro _ J2 ⟨e,j1,hlo,rfl,stl2⟩;rw [Cm hp]at stl2;refine⟨e,j1,?_,rfl,stl2.lft⟩;rw [hbr,←heq];unfold CG;rw [if_neg h93,hlo]
end Go.Proofs.YtfbghcpdinlmcaaGreatDoor
namespace Go.VC
theorem P0{P:Program}{t A:TypeId}{S:Nat→Prop}{H:Aa}{K:Value→Prop}{v:Value}{d:TypeDesc}(hd:P.underlying A=some d)(hn:∀ms,d≠ .interface ms)(k:K v):AH P (Instr.typeAssert (.iface A v) t A false) S H K:=by
 refine AH.mk _ (fun w _=>?_) k;unfold Instr.typeAssert;simp only [Sem.run_bind,run_underlying hd,Result.andThen_ok];cases d<;>first | (exact absurd rfl (hn _)) | simp
end Go.VC
namespace Go.Proofs.YtfbghcpdinlmcaaGreatDoor
open Go.VC Go.Lib
theorem YZ:ofB 0#256 (byN ⟨#[10]⟩)=AE 10 10:=by decide+kernel
theorem XE{B:Nat→Prop}{H0 H:Aa}{ps:List Pc}{k r i:Nat}{t:ByteArray}(hE:Fx H0)(hEB:B 0)(ht:t.size≤1152921504606846976)(st:StB B H0 H ps)(hp:ps[k]? =some (pRd r t i))(hi:i<t.size):
  BC Tryz.prog 234 #[.pointer (some ⟨r,0,none⟩)] H (fun v H'=>∃(x:BitVec 256) (j:Nat),Bo t i= .inr (x,j)∧v=Bm x∧StB B H0 H' (ps.set k (pRd r t j)))
   (fun x H'=>∃e j:Nat,Bo t i= .inl e∧x=D5 10 e∧StB B H0 H' (ps.set k (pRd r t j))):=by
 refine BC.of_vc Tryz.func234 rfl (Tryz.call234 _) ?_;obtain⟨b,hb1,hb2,hb3⟩:=CI hi;refine Ak (Bm 0) (Af 0) rfl rfl ?_;intro q2 H2 hq2 hs2 hb2' ha2;have st2:=st.box hq2 hs2 hb2' ha2;have hp2:(ps++[pB 101 q2 (Af 0)])[k]? =some (pRd r t i):=lgL hp;have hset:∀(j:Nat),(ps++[pB 101 q2 (Af 0)]).set k (pRd r t j)=ps.set k (pRd r t j)++[pB 101 q2 (Af 0)]:=fun j=>lsL hp;have hl:∀(j:Nat),(ps.set k (pRd r t j)++[pB 101 q2 (Af 0)])[(ps.set k (pRd r t j)).length]? =some (pB 101 q2 (Af 0)):=fun j=>D6 _ _;have hbr:=st2.blk k hp2;refine Ce.of (Ar.lex rfl (by kernel_rfl) (VC.fa Nn ?_));refine ld1 (v:=.string t) ct9 (by rw [hbr.cell];rfl) trivial ?_;refine VC.fa A9 ?_;refine ld1 (v:=.int .i64 (i:Int)) ct3 (by rw [hbr.cell];rfl) trivial ?_;refine Dg E5 rfl hb1 ?_;rw [←hb2];have fin:∀(x:BitVec 256) (j:Nat) (G:Aa),Bo t i= .inr (x,j)→StB B H0 G (ps.set k (pRd r t j)++[pB 101 q2 (Af 0)])→True:=fun _ _ _ _ _=>trivial;by_cases h46:bt t i=46
 ·have d1:((bt t i:Int)==(46:Int))=true:=by rw [h46];rfl
  (conv=>whnf);try (refine AQ.run ?_)
  (conv=>whnf);rw [d1];refine VC.fa A9 ?_;refine ld1 (v:=.int .i64 ((i:Nat):Int)) ct3 (by rw [(st2.blk k hp2).cell];rfl) trivial ?_;(conv=>whnf);rw [w64 (x:=((i:Nat):Int)+1) (by omega) (by omega)];refine VC.fa A9 (AT st2 k ct3 hp2 (by simp) rfl fun H4 st4=>?_);replace st4:StB B H0 H4 ((ps++[pB 101 q2 (Af 0)]).set k (pRd r t (i+1))):=st4;rw [hset]at st4;refine Ah.of (Ao (ZO ⟨#[10]⟩ (by decide) H4) fun H5 ha5=>?_);have st5:=st4.call ha5;rw [YZ];refine Ah.of (Ao (UE (AE 10 10) H5) fun H6 ha6=>?_);have st6:=st5.call ha6;refine AI (cs:=Af (~~~(AE 10 10))) st6 _ rfl (hl _) (Aa0 _) rfl fun H7 st7=>?_;have hb7:Blk H7 q2 101 (Af (~~~(AE 10 10))):=by
   have:=st7.blk _ (lgS (hl _));rwa [A8 (by rfl)]at this
  rw [Nw]at st7;refine ldN (cs:=Af (~~~(AE 10 10))) AU (CK hb7) trivial ?_;exact⟨_,i+1,by unfold Bo;rw [if_pos h46],rfl,st7.lft⟩
 have d1:((bt t i:Int)==(46:Int))=false:=beq_eq_false_iff_ne.2 (by omega);by_cases h91:bt t i=91
 ·have d2:((bt t i:Int)==(91:Int))=true:=by rw [h91];rfl
  have hrs:Bo t i=GW t (i+1):=by unfold Bo;rw [if_neg h46,if_pos h91]
  (conv=>whnf);try (refine AQ.run ?_)
  (conv=>whnf);rw [d1];(conv=>whnf);rw [d2];refine VC.fa A9 ?_;refine ld1 (v:=.int .i64 ((i:Nat):Int)) ct3 (by rw [(st2.blk k hp2).cell];rfl) trivial ?_;(conv=>whnf);rw [w64 (x:=((i:Nat):Int)+1) (by omega) (by omega)];refine VC.fa A9 (AT st2 k ct3 hp2 (by simp) rfl fun H4 st4=>?_);replace st4:StB B H0 H4 ((ps++[pB 101 q2 (Af 0)]).set k (pRd r t (i+1))):=st4;refine Ah.mk (Q6 hE hEB ht st4 (lgS hp2) (by omega)) ?_ ?_
  ·rintro _ H5 ⟨x,j,hx,rfl,st5⟩;rw [AaE,hset]at st5;refine AI (cs:=Af x) st5 _ rfl (hl _) (Aa0 _) rfl fun H7 st7=>?_;have hb7:Blk H7 q2 101 (Af x):=by
    have:=st7.blk _ (lgS (hl _));rwa [A8 (by rfl)]at this
   rw [Nw]at st7;refine ldN (cs:=Af x) AU (CK hb7) trivial ?_;exact⟨x,j,by rw [hrs,hx],rfl,st7.lft⟩
  ·rintro _ H5 ⟨e,j,hx,rfl,st5⟩;rw [AaE,hset]at st5;exact⟨e,j,by rw [hrs,hx],rfl,st5.lft⟩
 have d2:((bt t i:Int)==(91:Int))=false:=beq_eq_false_iff_ne.2 (by omega);have hrs:Bo t i=match Bl t DW i with | .inl e=>.inl e | .inr (b,k)=>.inr (AE b b,k):=by unfold Bo;rw [if_neg h46,if_neg h91];rfl
 (conv=>whnf);try (refine AQ.run ?_)
 (conv=>whnf);rw [d1];(conv=>whnf);rw [d2];refine Ah.mk (Gw (s:=DW) hE hEB ht st2 hp2) ?_ ?_
 ·rintro _ H5 ⟨c,j,hx,rfl,st5⟩;have hok:=CL hx;rw [hset]at st5;rw [hx]at hrs;refine Ah.of (Ao (Fu c c (by omega) (by omega) H5) fun H6 ha6=>?_);have st6:=st5.call ha6;refine AI (cs:=Af (AE c c)) st6 _ rfl (hl _) (Aa0 _) rfl fun H7 st7=>?_;have hb7:Blk H7 q2 101 (Af (AE c c)):=by
   have:=st7.blk _ (lgS (hl _));rwa [A8 (by rfl)]at this
  rw [Nw]at st7;refine ldN (cs:=Af (AE c c)) AU (CK hb7) trivial ?_;exact⟨_,j,hrs,rfl,st7.lft⟩
 ·rintro _ H5 ⟨e,j,hx,rfl,st5⟩;rw [hset]at st5;rw [hx]at hrs;exact⟨e,j,hrs,rfl,st5.lft⟩
def Ej(c i:Nat):Value:=.agg #[.int .i64 (c:Int),.int .i64 (i:Int),.string ⟨#[]⟩]
def An(c i:Nat):List Value:=[.int .i64 (c:Int),.int .i64 (i:Int),.string ⟨#[]⟩]
def RU(q4 q5 q6:Nat)(x:BitVec 256)(j c e:Nat):List Pc:=[pB 101 q4 (Af x),pB 3 q5 [.int .i64 (j:Int)],pB 68 q6 (An c e)]
theorem W1{H:Aa}{q4 q5 q6:Nat}{K:Aa→Prop}(k:K H):Ew Tryz.prog 233 #[.pointer (some ⟨q4,0,none⟩),.pointer (some ⟨q5,0,none⟩),.pointer (some ⟨q6,0,none⟩)] .returning .returning H K:=by
 refine Ew.mk (R:=fun H'=>H'=H) (Gk (R:=fun H'=>H'=H) Tryz.func233 rfl ⟨⟨_,rfl⟩,rfl,rfl,rfl,rfl,rfl⟩ .ret rfl ?_) (fun H' h=>by rw [h];exact k);(conv=>whnf);refine⟨rfl,?_⟩;refine Uv Tryz.underlying20 ?_;(conv=>whnf)
theorem W0{B:Nat→Prop}{H0 H:Aa}{q4 q5 q6 e j c0 e0:Nat}{x:BitVec 256}{ps:List Pc}{K:Aa→Prop}(st:StB B H0 H (RU q4 q5 q6 x j c0 e0++ps))(k:∀H',StB B H0 H' (RU q4 q5 q6 0 0 10 e++ps)→K H'):
  Ew Tryz.prog 233 #[.pointer (some ⟨q4,0,none⟩),.pointer (some ⟨q5,0,none⟩),.pointer (some ⟨q6,0,none⟩)] (.panicking (pe (D5 10 e))) (.panicking [{v:=D5 10 e,recovered:=true}]) H K:=by
 refine Ew.mk (R:=fun H'=>StB B H0 H' (RU q4 q5 q6 0 0 10 e++ps)) (Gk (R:=fun H'=>StB B H0 H' (RU q4 q5 q6 0 0 10 e++ps)) Tryz.func233 rfl ⟨⟨_,rfl⟩,rfl,rfl,rfl,rfl,rfl⟩ (.pan _) rfl ?_) k;(conv=>whnf);refine⟨rfl,?_⟩;refine Uu Tryz.underlying20 (Ar.held (fun _=>False) 6 (sq [0,1,2] (.f 3 (.f 4 (.f 5 .e)))) rfl (by kernel_rfl) (Cv BW (Bm 0) rfl (Af 0) rfl (P0 Tryz.underlying68 (fun ms h=>by cases h) (AI (cs:=Af 0) st 0 rfl rfl (Aa0 _) rfl fun H1 st1=>(⟨fun k hk=>hk.elim,?_⟩)))));refine AT st1 1 ct3 rfl (by simp) rfl fun H2 st2=>(⟨fun k hk=>hk.elim,?_⟩);refine AI (cs:=An 10 e) st2 2 rfl rfl (Aa0 _) rfl fun H3 st3=>(⟨fun k hk=>hk.elim,?_⟩);(conv=>whnf);have e1:Ae (Af x) 0 (Af 0)=Af 0:=A8 rfl;have e2:Ae (An c0 e0) 0 (An 10 e)=An 10 e:=A8 rfl;rw [e2]at st3;rw [e1]at st3;exact st3
def KV(t:ByteArray)(i:Nat)(v:Value):Prop:=match Bo t i with
 | .inl e=>v= .tuple #[Bm 0,.int .i64 0,Ej 10 e]
 | .inr (x,j)=>v= .tuple #[Bm x,.int .i64 (j:Int),Ej 0 0]
theorem Ey{H:Aa}{t:ByteArray}{i:Nat}(hE:Fx H)(ht:t.size≤1152921504606846976)(hi:i<t.size):
  Al Tryz.prog 218 #[.string t,.int .i64 (i:Int)] H fun v H'=>Agr (Old H) H H'∧KV t i v:=by
 refine Al.of_defer Tryz.func218 rfl (Tryz.call218 _) ⟨rfl,rfl,rfl,⟨_,rfl⟩,rfl,rfl⟩ (fun vs w=>Tryz.call233 _ w) (Ak (Bm 0) (Af 0) rfl rfl ?_);intro q4 H1 hq1 hs1 hb1 ha1;have st1:=(St.nil H).box hq1 hs1 hb1 ha1;refine Ak (.int .i64 0) [.int .i64 0] rfl rfl ?_;intro q5 H2 hq2 hs2 hb2 ha2;have st2:=st1.box hq2 hs2 hb2 ha2;refine Ak (Ej 0 0) (An 0 0) rfl rfl ?_;intro q6 H3 hq3 hs3 hb3 ha3;have st3:=st2.box hq3 hs3 hb3 ha3;have d1:decide ((i:Int)<0)=false:=decide_eq_false (by omega);have d2:decide ((i:Int)≥(t.size:Int))=false:=decide_eq_false (by omega);(conv=>whnf);rw [d1];(conv=>whnf);rw [d2];(conv=>whnf);refine⟨rfl,?_⟩;refine A6 Tryz.underlying357 rfl _ rfl (rdL t i) rfl (B0 (rdL t i) rfl ?_);intro r H4 hq4 hs4 hb4 ha4;have st4:=st3.box hq4 hs4 hb4 ha4;have o3:q4<q5:=by have:q5=H1.size:=hq2;omega
 have o4:q5<q6:=by have:q6=H2.size:=hq3;omega
 have o5:q6<r:=by have:r=H3.size:=hq4;omega
 refine Ah.mk (XE (k:=3) hE hE.2 ht st4 rfl hi) ?_ ?_
 ·rintro _ H5 ⟨x,j,hx,rfl,st5⟩;refine AI (cs:=Af x) st5 0 rfl rfl (Aa0 _) rfl fun H6 st6=>?_;have e1:Ae (Af 0) 0 (Af x)=Af x:=A8 rfl;rw [e1]at st6;have b4:=st6.blk 0 rfl;have br:Blk H6 r 357 (rdL t j):=st6.blk 3 rfl;refine Ce.held (fun k=>k=q4∨k=r) [] (sq [0,1,2,3,4,5] (.f 6 (.f 7 (.f 8 .e)))) (PH (R:=fun v H5=>Agr (Old H) H H5∧KV t i v) (by kernel_rfl)) rfl (by kernel_rfl) (ldN (cs:=Af x) AU (CK b4) (.inl rfl) (VC.fa A9 ?_));refine ld1 (v:=.int .i64 (j:Int)) ct3 (by rw [br.cell];rfl) (.inr rfl) ?_;refine A6 Tryz.underlying68 rfl _ rfl (An 0 0) rfl (Bf (cs:=Af x) st6 0 rfl rfl (Aa0 _) rfl fun H7 st7 ha7 hs7=>?_);have e2:Ae (Af x) 0 (Af x)=Af x:=A8 rfl;rw [e2]at st7;have a7:Agr (fun k=>k=q4∨k=r) H6 H7:=fun k hk=>by
   rcases hk with h | h
   ·rw [h];exact(st7.blk 0 rfl).trans b4.symm
   ·exact ha7 _ (show k≠q4 by omega)
  refine⟨a7,?_⟩;refine Vg st7 1 ct3 rfl (by simp) rfl fun H8 st8 ha8 hs8=>?_;have a8:Agr (fun k=>k=q4∨k=r) H6 H8:=a7.trans (ha8.mono fun k hk=>by rcases hk with rfl | rfl<;>omega);refine⟨a8,?_⟩;refine Bf (cs:=An 0 0) st8 2 rfl rfl (Aa0 _) rfl fun H9 st9 ha9 hs9=>?_;have a9:Agr (fun k=>k=q4∨k=r) H6 H9:=a8.trans (ha9.mono fun k hk=>by rcases hk with rfl | rfl<;>omega);refine⟨a9,?_⟩;(conv=>whnf);refine W1 (ldN (cs:=Af x) AU (CK (st9.blk 0 rfl)) trivial ?_);refine ld1 (v:=.int .i64 (j:Int)) ct3 (by rw [(st9.blk 1 rfl).cell];rfl) trivial ?_;refine ldN (cs:=An 0 0) Jw ((st9.blk 2 rfl).cells (fun j v hv=>by rw [AaB];exact hv)) trivial ?_;refine⟨st9.old,?_⟩;unfold KV;rw [hx];rfl
 ·rintro _ H5 ⟨e,j,hx,rfl,st5⟩;refine W0 (q4:=q4) (q5:=q5) (q6:=q6) (x:=0) (j:=0) (c0:=0) (e0:=0) st5 fun H6 st6=>(ldN (cs:=Af 0) AU (CK (st6.blk 0 rfl)) trivial ?_);refine ld1 (v:=.int .i64 0) ct3 (by rw [(st6.blk 1 rfl).cell];rfl) trivial ?_;refine ldN (cs:=An 10 e) Jw ((st6.blk 2 rfl).cells (fun j v hv=>by rw [AaB];exact hv)) trivial ?_;refine⟨st6.old,?_⟩;unfold KV;rw [hx];rfl
end Go.Proofs.YtfbghcpdinlmcaaGreatDoor
namespace Go.VC
inductive Sc3 where
 | e
 | q (i:Nat) (s:Sc3)
 | f (i:Nat) (s:Sc3)
 | b (i:Nat) (s:Sc3) (j:Nat) (s':Sc3)
 | t (i:Nat) (s:Sc3) (j:Nat) (s':Sc3) (k:Nat) (s'':Sc3)
def sq3:List Nat→Sc3→Sc3
 | [],s=>s
 | i::l,s=>.q i (sq3 l s)
def Sc3.len:Sc3→Nat
 | .e=>0
 | .q _ s=>s.len+1
 | .f _ s=>s.len+1
 | .b _ s _ _=>s.len+1
 | .t _ s _ _ _ _=>s.len+1
def Sc3.even:Sc3→Bool
 | .e=>true
 | .q _ s=>s.even
 | .f _ s=>s.even
 | .b _ s _ s'=>s.even&&s'.even&&s.len==s'.len
 | .t _ s _ s' _ s''=>s.even&&s'.even&&s''.even&&s.len==s'.len&&s.len==s''.len
def DP(ops:Array Oper):Sc3→Array Bool→Bool
 | .e,listed=>(Region.ready .any ops listed).isEmpty
 | .q i s,listed=>(Region.ready .any ops listed).contains i&&Region.free .any ops listed i&&DP ops s (listed.setIfInBounds i true)
 | .f i s,listed=>Region.ready .any ops listed==[i]&&DP ops s (listed.setIfInBounds i true)
 | .b i s j s',listed=>Region.ready .any ops listed==[i,j]&&DP ops s (listed.setIfInBounds i true)&&DP ops s' (listed.setIfInBounds j true)
 | .t i s j s' k s'',listed=>Region.ready .any ops listed==[i,j,k]&&DP ops s (listed.setIfInBounds i true)&&DP ops s' (listed.setIfInBounds j true)&&DP ops s'' (listed.setIfInBounds k true)
def held3(P:Program)(S:Nat→Prop)(H0:Aa)(all:List Oper)(s:Sc3):Fr→Aa→(Fr→Aa→Prop)→Prop:=
 Sc3.rec (motive:=fun _=>Fr→Aa→(Fr→Aa→Prop)→Prop) (fun fr H K=>K fr H)
  (fun i _ ih fr H K=>match all[i]? with
   | none=>False
   | some o=>P1 all o fr (Q0 P S o H fun fr' H'=>ih fr' H' K) (Po o H fun fr' H'=>ih fr' H' K))
  (fun i _ ih fr H K=>Kk P S [] H0 all i fr H fun fr' H'=>ih fr' H' K)
  (fun i _ j _ ih ih' fr H K=>(Kk P S [] H0 all i fr H fun fr' H'=>ih fr' H' K)∧Kk P S [] H0 all j fr H fun fr' H'=>ih' fr' H' K)
  (fun i _ j _ k _ ih ih' ih'' fr H K=>(Kk P S [] H0 all i fr H fun fr' H'=>ih fr' H' K)∧(Kk P S [] H0 all j fr H fun fr' H'=>ih' fr' H' K)∧Kk P S [] H0 all k fr H fun fr' H'=>ih'' fr' H' K) s
theorem Wf(P:Program)(S:Nat→Prop)(H0:Aa)(all:List Oper)(i:Nat)(s:Sc3)(fr:Fr)(H:Aa)(K:Fr→Aa→Prop):held3 P S H0 all (.q i s) fr H K=
  (match all[i]? with
   | none=>False
   | some o=>P1 all o fr (Q0 P S o H fun fr' H'=>held3 P S H0 all s fr' H' K) (Po o H fun fr' H'=>held3 P S H0 all s fr' H' K)):=rfl
theorem Ct{P:Program}{S:Nat→Prop}{w0:World}{all:List Oper}{Q:Exit→Act→World→Prop}(hs:Region.noSelect all.toArray=true)
  (hp:∀c a w,¬Q (.panic c) a w):∀(l:Sc3) (listed:Array Bool) (fr:Fr) (a:Act) (w:World) (K:Fr→Aa→Prop),At fr a→Env w0 w→Cls w0 S w→HY all.toArray listed→
  (∀fr' a' w',At fr' a'→Env w0 w'→K fr' w'.heap→Q .normal a' w')→DP all.toArray l listed=true→l.even=true→
  held3 P S w0.heap all l fr w.heap K→IB P all.toArray Q (Cls w0 S) [] l.len listed a w
 | .e,listed,fr,a,w,K,hat,he,_,_,hq,hB,_,h=>⟨by simpa [DP]using hB,hq fr a w hat he h⟩
 | .q i s,listed,fr,a,w,K,hat,he,hc,hsh,hq,hB,hev,h=>by
   simp only [DP,Aa5]at hB;obtain⟨⟨b1,b2⟩,hB2⟩:=hB;rw [Wf]at h;split at h
   ·exact h.elim
   ·rename_i o ho;have ho':all.toArray[i]? =some o:=by simpa using ho
    have hri:i∈Region.ready .any all.toArray listed:=by simpa using b1
    rcases Kl hat h with⟨hwant,h⟩ | ⟨hwant,h⟩
    ·unfold Q0 at h;split at h
     ·obtain⟨v,hv,hk⟩:=Ei h;rw [BR]at hk;refine EV (v:=v) (f:=all.toArray.size) ho' (Region.noSelect_spec hs) (fun c a' w' hh=>(hp _ _ _ hh).elim) rfl (fun j hj=>by cases hj) s.len listed a w hsh (Region.free_spec ho' b2) hri
       (.inl ⟨hwant,fun w' hw'=>?_⟩) hc ?_
      ·rw [hat.evalF];exact hv w' fun k hk=>(hw'.2 k hk).trans (hc.2 k hk).symm
      ·exact Ct hs hp s _ _ _ w K (hat.put o.dst v) he hc (hsh.put hri) hq hB2 hev hk
     ·exact h.elim
    ·unfold Po at h;rw [BR]at h;exact EV (v:=undef) (f:=all.toArray.size) ho' (Region.noSelect_spec hs) (fun c a' w' hh=>(hp _ _ _ hh).elim) rfl (fun j hj=>by cases hj) s.len listed a w hsh (Region.free_spec ho' b2) hri
      (.inr ⟨hwant,rfl⟩) hc (Ct hs hp s _ _ _ w K (hat.put o.dst undef) he hc (hsh.put hri) hq hB2 hev h)
 | .f i s,listed,fr,a,w,K,hat,he,hc,hsh,hq,hB,hev,h=>by
   simp only [DP,Aa5,beq_iff_eq]at hB;obtain⟨b1,hB2⟩:=hB;refine⟨(fun h0=>by rw [b1]at h0;cases h0),fun j hj=>?_⟩;have hj0:=hj;rw [b1]at hj;obtain rfl:j=i:=by simpa using hj
   exact DE (Z:=[]) hat he (fun _=>hc) h fun fr' a' w' h1 h2 h3 h4=>⟨h3,Ct hs hp s _ _ _ w' K h1 h2 (h3 rfl) (hsh.put hj0) hq hB2 hev h4⟩
 | .b i s j s',listed,fr,a,w,K,hat,he,hc,hsh,hq,hB,hev,h=>by
   simp only [DP,Aa5,beq_iff_eq]at hB;obtain⟨⟨b1,hB2⟩,hB3⟩:=hB;simp only [Sc3.even,Aa5,beq_iff_eq]at hev;obtain⟨⟨e1,e2⟩,e3⟩:=hev;refine⟨(fun h0=>by rw [b1]at h0;cases h0),fun k hk=>?_⟩;have hk0:=hk;rw [b1]at hk;rcases AaM.1 hk with rfl | hk
   ·exact DE (Z:=[]) hat he (fun _=>hc) h.1 fun fr' a' w' h1 h2 h3 h4=>⟨h3,Ct hs hp s _ _ _ w' K h1 h2 (h3 rfl) (hsh.put hk0) hq hB2 e1 h4⟩
   ·obtain rfl:k=j:=by simpa using hk
    rw [e3];exact DE (Z:=[]) hat he (fun _=>hc) h.2 fun fr' a' w' h1 h2 h3 h4=>⟨h3,Ct hs hp s' _ _ _ w' K h1 h2 (h3 rfl) (hsh.put hk0) hq hB3 e2 h4⟩
 | .t i s j s' m s'',listed,fr,a,w,K,hat,he,hc,hsh,hq,hB,hev,h=>by
   simp only [DP,Aa5,beq_iff_eq]at hB;obtain⟨⟨⟨b1,hB2⟩,hB3⟩,hB4⟩:=hB;simp only [Sc3.even,Aa5,beq_iff_eq]at hev;obtain⟨⟨⟨⟨e1,e2⟩,e3⟩,e4⟩,e5⟩:=hev;refine⟨(fun h0=>by rw [b1]at h0;cases h0),fun k hk=>?_⟩;have hk0:=hk;rw [b1]at hk;rcases AaM.1 hk with rfl | hk
   ·exact DE (Z:=[]) hat he (fun _=>hc) h.1 fun fr' a' w' h1 h2 h3 h4=>⟨h3,Ct hs hp s _ _ _ w' K h1 h2 (h3 rfl) (hsh.put hk0) hq hB2 e1 h4⟩
   ·rcases AaM.1 hk with rfl | hk
    ·rw [e4];exact DE (Z:=[]) hat he (fun _=>hc) h.2.1 fun fr' a' w' h1 h2 h3 h4=>⟨h3,Ct hs hp s' _ _ _ w' K h1 h2 (h3 rfl) (hsh.put hk0) hq hB3 e2 h4⟩
    ·obtain rfl:k=m:=by simpa using hk
     rw [e5];exact DE (Z:=[]) hat he (fun _=>hc) h.2.2 fun fr' a' w' h1 h2 h3 h4=>⟨h3,Ct hs hp s'' _ _ _ w' K h1 h2 (h3 rfl) (hsh.put hk0) hq hB4 e3 h4⟩
theorem Ar.held3{P:Program}{l:List Oper}{fr:Fr}{H:Aa}{K:Fr→Aa→Prop}(S:Nat→Prop)(sched:Sc3)(hm:P.follows .mixedOrders=true)
  (hB:(Region.noSelect l.toArray&&(sched.len==l.length)&&sched.even&&DP l.toArray sched (AaK l.length false))=true)
  (h:VC.held3 P S H l sched fr H K):Ar P l fr H K:=by
 refine⟨?_⟩;intro id Q a w hat hw hp hq;subst hw;simp only [Aa5,beq_iff_eq]at hB;refine wp_region_any hm (GG (S:=Cls w S) (Z:=[]) _ _ _ _ ?_);have hsh:HY l.toArray (AaK l.length false):=fun j o _ hj=>by
  rw [Array.getD_eq_getD_getElem?,Array.getElem?_replicate]at hj;split at hj<;>simp at hj
 have:=Ct (P:=P) (S:=S) (w0:=w) (Q:=Q) hB.1.1.1 hp sched (AaK l.length false) fr a {w with drawn:=w.drawn+1} K hat ⟨rfl,rfl,rfl⟩ ⟨⟨rfl,rfl,rfl⟩,Agr.refl _ _⟩ hsh hq hB.2 hB.1.2 h;rw [hB.1.1.2]at this;simpa using this
end Go.VC
