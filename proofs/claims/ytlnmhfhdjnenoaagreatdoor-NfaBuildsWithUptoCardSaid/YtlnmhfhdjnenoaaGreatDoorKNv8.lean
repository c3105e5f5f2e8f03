/- Parts of the proof: PDp4, PDp5, PDp6, PDp7, PDp8, PDp9, PDp10 -/
import Derived.Test.YtlnmhfhdjnenoaaGreatDoorKNv7
import Derived.Test.YtlnmhfhdjnenoaaGreatDoorKNv6
set_option maxHeartbeats 64000000
open Bool renaming and_eq_true → US
open Int renaming eq_ofNat_of_zero_le → UZ, natCast_mul → Vc, toNat_natCast → Vf, toNat_of_nonneg → Vl
open List renaming length_append → UL, length_singleton → UN, getElem?_set_self → UO, getElem?_append_right → UP, length_set → UR, mem_singleton → UU, append_nil → UV, getElem?_eq_some_iff → UX, getElem?_append_left → UY, append_assoc → Va, set_set → Vd, getElem?_take → Ve, getElem?_map → Vg, all_eq_true → Vh, getElem?_replicate → Vi, mem_append → Vj, replicate → Vq
open Nat renaming zero_add → UM, mul_one → UQ, mul_le_mul → UT, mul_le_mul_left → UW, mul_le_mul_right → Vb, pow_le_pow_right → Vk, lt_of_lt_of_le → Vm, mul_add → Vn, zero_le → Vo, le_refl → Vp
set_option linter.unusedVariables false
set_option linter.unusedSimpArgs false
set_option maxRecDepth 100000
namespace Go.Proofs.YtlnmhfhdjnenoaaGreatDoor
open Go.VC Go.Lib
def BrD(t:ByteArray)(i:Nat)(v:Value):Prop:=match BD t i with
 | .inl (c,p)=>v= .tuple #[.int .i64 0,.int .i64 0,.int .i64 0,.int .i64 (c:Int),.int .i64 (p:Int)]
 | .inr (m,n,j)=>v= .tuple #[.int .i64 (m:Int),.int .i64 n,.int .i64 (j:Int),.int .i64 0,.int .i64 0]
abbrev pA2(q:Nat)(x y:Int):Pc:=pB 136 q [.int .i64 x,.int .i64 y]
theorem U0:(Tryz.prog.info? 136).bind (·.zero)=some (.agg #[.int .i64 0,.int .i64 0]):=by kernel_rfl
theorem Ow{t:ByteArray}{e w:Nat}(h:Do t e=false):∀k,Bz t k e w=(w,e)
 | 0=>rfl
 | k+1=>by unfold Bz;rw [h];rfl
structure BrI(t:ByteArray)(i k e:Nat)(x0 x1:Int):Prop where
 le:e≤t.size
 z:k=0→e=i+1∧x0=0∧x1=0
 one:k=1→Do t (i+1)=true∧x0=((Bz t 3 (i+1) 0).1:Int)∧x1=0∧e=(Bz t 3 (i+1) 0).2+1∧bt t (Bz t 3 (i+1) 0).2=44∧bt t e≠125
 two:k=2→Do t (i+1)=true∧x0=((Bz t 3 (i+1) 0).1:Int)∧x1= -1∧upM t (Bz t 3 (i+1) 0).1 (Bz t 3 (i+1) 0).2= .inr (-1,e)
 le2:k≤2
theorem TJ{t:ByteArray}{i:Nat}(hd:Do t (i+1)=true){n:Int}{e:Nat}(hu:upM t (Bz t 3 (i+1) 0).1 (Bz t 3 (i+1) 0).2= .inr (n,e)):BD t i=E1 t i (Bz t 3 (i+1) 0).1 n e:=by
 unfold BD;rw [if_pos hd,hu]
theorem TK{t:ByteArray}{i:Nat}(hd:Do t (i+1)=false):BD t i= .inl (20,i+1):=by
 unfold BD;rw [hd];rfl
theorem OH{t:ByteArray}{i:Nat}{H:Aa}(ht:t.size≤1048576)(hi:i<t.size):
  Ao Tryz.prog 30 #[.string t,.int .i64 (i:Int)] H fun v H'=>Agr (Old H) H H'∧BrD t i v:=by
 refine Ao.of_vcL Tryz.func30 rfl (Tryz.call30 _) ?_;(conv=>whnf);rw [w64 (x:=(i:Int)+1) (by omega) (by omega)];refine Ag (.agg #[.int .i64 0,.int .i64 0]) [.int .i64 0,.int .i64 0] U0 rfl ?_;intro q H1 hq1 hs1 hb1 ha1;have st1:=(St.nil H).box hq1 hs1 hb1 ha1;(conv=>whnf);refine Al.cut [11,9] (fun x:Nat×Nat×Int×Int=>match x with | (k,e,_,_)=>[.int .i64 (k:Int),.int .i64 (e:Int)]) (fun x G=>match x with | (k,e,x0,x1)=>((k=1∨k=2)∧e≤t.size∧Do t (i+1)=true∧x0=((Bz t 3 (i+1) 0).1:Int)∧(∃n:Int,upM t (Bz t 3 (i+1) 0).1 (Bz t 3 (i+1) 0).2= .inr (n,e)∧ -1≤n∧n<1000∧(k=1→n=x0)∧(k=2→n=x1)))∧St H G [pA2 q x0 x1]) ?_ ?_
 ·(conv=>whnf);refine AH.mk [11,9] (fun x:Nat×Nat×Int×Int=>match x with | (k,e,_,_)=>[.int .i64 (k:Int),.int .i64 (e:Int)]) (fun x G=>match x with | (k,e,x0,x1)=>BrI t i k e x0 x1∧St H G [pA2 q x0 x1]) (fun x _=>match x with | (k,_,_,_)=>2 - k) ?_ ?_
  ·(conv=>whnf);exact⟨(0,i+1,0,0),rfl,⟨hi,fun _=>⟨rfl,rfl,rfl⟩,fun h=>absurd h (by decide),fun h=>absurd h (by decide),by omega⟩,st1⟩
  ·rintro⟨k,e,x0,x1⟩ G junk ⟨hI,stg⟩;have hle:=hI.le;refine AQ.mk (fun hz=>?_) (fun hz=>?_)<;>simp only [decide_eq_true_eq,decide_eq_false_iff_not]at hz
   ·have hk2:k<2:=by omega
    rcases(show k=0∨k=1 by omega)with rfl | rfl
    ·(conv=>whnf);try (refine Al.run ?_)
     obtain⟨rfl,rfl,rfl⟩:=hI.z rfl;refine Af (Jf (i:=(i+1)) G) fun G1 hg1=>?_;have sg1:=stg.call hg1;cases hd:Do t (i+1)with
     | false=>
       (conv=>whnf);refine⟨sg1.old,?_⟩;unfold BrD;rw [TK hd];rfl
     | true=>
       (conv=>whnf);have hdi:=hd;(conv=>whnf);refine AH.mk [12,9] (fun x:Nat×Nat=>match x with | (jn,_)=>[.int .i64 (jn:Int),.int .i64 (((i+1)+jn:Nat):Int)]) (fun x G=>match x with | (jn,v)=>jn≤3∧v<10 ^ jn∧(i+1)+jn≤t.size∧Bz t 3 (i+1) 0=Bz t (3 - jn) ((i+1)+jn) v∧St H G [pA2 q (v:Int) 0]) (fun x _=>match x with | (jn,_)=>3 - jn) ?_ ?_
       ·(conv=>whnf);exact⟨(0,0),rfl,by omega,by decide,hle,rfl,sg1⟩
       ·rintro⟨jn,v⟩ G2 junk2 ⟨hjn,hv,hje,hvn,stj⟩;have hv1:v<1000:=Vm hv (Vk (by omega) hjn);have hout:(jn=3∨Do t ((i+1)+jn)=false)→Bz t 3 (i+1) 0=(v,(i+1)+jn):=fun h=>by
         rw [hvn];rcases h with rfl | h
         ·rfl
         ·exact Ow h _
        clear hI;by_cases hj3:jn<3
        ·have d2:decide ((jn:Int)<3)=true:=decide_eq_true (by omega);(conv=>whnf);rw [d2];refine Af (Jf (i:=(i+1)+jn) G2) fun G3 hg3=>?_;replace stj:=stj.call hg3;cases hdj:Do t ((i+1)+jn)with
         | true=>
           have hlt:(i+1)+jn<t.size:=by
            unfold Do at hdj;have:=of_decide_eq_true hdj;exact CX (by omega)
           have hdr:48≤bt t ((i+1)+jn)∧bt t ((i+1)+jn)≤57:=by unfold Do at hdj;exact of_decide_eq_true hdj
           (conv=>whnf);try (refine Al.run ?_)
           refine As.heldZ (fun k=>k=q) [12] (sq [0,1,2,3,4,5,6,7,8,9,10,11] (.f 12 .e)) rfl (by kernel_rfl) (ixa CA (by decide) (by decide) ?_);refine ld1 (v:=.int .i64 (v:Int)) ct3 (by rw [(stj.blk 0 rfl).cell];rfl) rfl ?_;(conv=>whnf);rw [w64 (x:=10*(v:Int)) (by omega) (by omega)];refine vbt hlt ?_;(conv=>whnf);rw [w8 (x:=((bt t ((i+1)+jn):Nat):Int) - 48) (by omega) (by omega)];(conv=>whnf);rw [w64 (x:=((bt t ((i+1)+jn):Nat):Int) - 48) (by omega) (by omega)];(conv=>whnf);rw [w64 (x:=10*(v:Int)+(((bt t ((i+1)+jn):Nat):Int) - 48)) (by omega) (by omega)];refine ixa CA (by decide) (by decide) ?_;refine AG stj 0 ct3 rfl (by show _<(2:Nat);decide) rfl fun G5 sg5=>?_;(conv=>whnf);rw [w64 (x:=(((i+1)+jn:Nat):Int)+1) (by omega) (by omega)];(conv=>whnf);rw [w64 (x:=(jn:Int)+1) (by omega) (by omega)];have ev:10*(v:Int)+(((bt t ((i+1)+jn):Nat):Int) - 48)=((10*v+(bt t ((i+1)+jn) - 48):Nat):Int):=by omega
           rw [ev]at sg5;refine⟨rfl,(jn+1,10*v+(bt t ((i+1)+jn) - 48)),rfl,⟨by omega,by rw [Nat.pow_succ];omega,by omega,?_,sg5⟩,by show 3 - (jn+1)<3 - jn;omega⟩;rw [hvn,show 3 - jn=(3 - (jn+1))+1 by omega,Bz,hdj];rfl
         | false=>
           (conv=>whnf);try (refine Al.run ?_)
           (conv=>whnf);have hv3:Bz t 3 (i+1) 0=(v,(i+1)+jn):=hout (.inr hdj);have hnm:Bz t 3 (i+1) 0=(v,(i+1)+jn):=hv3;by_cases h0:(i+1)+jn<t.size
           ·have d5:decide ((t.size:Int)≤(((i+1)+jn:Nat):Int))=false:=decide_eq_false (by omega);(conv=>whnf);rw [d5];refine vbt h0 ?_;by_cases h44:bt t ((i+1)+jn)=44
            ·have d6:(((bt t ((i+1)+jn):Nat):Int) != 44)=false:=by rw [h44];rfl
             (conv=>whnf);rw [d6];(conv=>whnf);rw [w64 (x:=(((i+1)+jn:Nat):Int)+1) (by omega) (by omega)];(conv=>whnf);try (refine Al.run ?_)
             (conv=>whnf);by_cases h1:(i+1)+jn+1<t.size
             ·have d7:decide ((((i+1)+jn:Nat):Int)+1<(t.size:Int))=true:=decide_eq_true (by omega);(conv=>whnf);rw [d7];refine vbt (i:=(i+1)+jn+1) h1 ?_;by_cases h125:bt t ((i+1)+jn+1)=125
              ·have d8:(((bt t ((i+1)+jn+1):Nat):Int)==125)=true:=by rw [h125];rfl
               (conv=>whnf);rw [d8];refine ixa CA (by decide) (by decide) ?_;refine AG stj 0 ct3 rfl (by show _<(2:Nat);decide) rfl fun G7 sg7=>?_;replace sg7:St H G7 [pA2 q (v:Int) (-1)]:=sg7;(conv=>whnf);exact⟨rfl,(2,(i+1)+jn+1,(v:Int),-1),rfl,⟨⟨by omega,fun h=>absurd h (by decide),fun h=>absurd h (by decide),fun _=>⟨hdi,by rw [hnm],rfl,by rw [hnm];unfold upM;rw [if_pos h44,if_pos h125]⟩,by omega⟩,sg7⟩,by show 2 - 2<2 - 0;omega⟩
              ·have d8:(((bt t ((i+1)+jn+1):Nat):Int)==125)=false:=DY h125;(conv=>whnf);rw [d8];(conv=>whnf);exact⟨rfl,(1,(i+1)+jn+1,(v:Int),0),rfl,⟨⟨by omega,fun h=>absurd h (by decide),fun _=>⟨hdi,by rw [hnm],rfl,by rw [hnm],by rw [hnm];exact h44,h125⟩,fun h=>absurd h (by decide),by omega⟩,stj⟩,by show 2 - 1<2 - 0;omega⟩
             ·have d7:decide ((((i+1)+jn:Nat):Int)+1<(t.size:Int))=false:=decide_eq_false (by omega);(conv=>whnf);rw [d7];(conv=>whnf);exact⟨rfl,(1,(i+1)+jn+1,(v:Int),0),rfl,⟨⟨by omega,fun h=>absurd h (by decide),fun _=>⟨hdi,by rw [hnm],rfl,by rw [hnm],by rw [hnm];exact h44,by rw [Cb h1];decide⟩,fun h=>absurd h (by decide),by omega⟩,stj⟩,by show 2 - 1<2 - 0;omega⟩
            ·have d6:(((bt t ((i+1)+jn):Nat):Int) != 44)=true:=bne_iff_ne.2 (by omega);(conv=>whnf);rw [d6];(conv=>whnf);exact⟨rfl,(1,(i+1)+jn,(v:Int),0),rfl,⟨⟨.inl rfl,hje,(by first | exact hdi | rfl),by rw [hnm],(v:Int),by rw [hnm];unfold upM;rw [if_neg h44],by omega,by omega,fun _=>rfl,fun h=>absurd h (by decide)⟩,stj⟩⟩
           ·have d5:decide ((t.size:Int)≤(((i+1)+jn:Nat):Int))=true:=decide_eq_true (by omega);(conv=>whnf);rw [d5];(conv=>whnf);exact⟨rfl,(1,(i+1)+jn,(v:Int),0),rfl,⟨⟨.inl rfl,hje,(by first | exact hdi | rfl),by rw [hnm],(v:Int),by rw [hnm];unfold upM;rw [if_neg (by rw [Cb h0];omega)],by omega,by omega,fun _=>rfl,fun h=>absurd h (by decide)⟩,stj⟩⟩
        ·have d2:decide ((jn:Int)<3)=false:=decide_eq_false (by omega);(conv=>whnf);rw [d2];(conv=>whnf);try (refine Al.run ?_)
         (conv=>whnf);have hv3:Bz t 3 (i+1) 0=(v,(i+1)+jn):=hout (.inl (by omega));have hnm:Bz t 3 (i+1) 0=(v,(i+1)+jn):=hv3;by_cases h0:(i+1)+jn<t.size
         ·have d5:decide ((t.size:Int)≤(((i+1)+jn:Nat):Int))=false:=decide_eq_false (by omega);(conv=>whnf);rw [d5];refine vbt h0 ?_;by_cases h44:bt t ((i+1)+jn)=44
          ·have d6:(((bt t ((i+1)+jn):Nat):Int) != 44)=false:=by rw [h44];rfl
           (conv=>whnf);rw [d6];(conv=>whnf);rw [w64 (x:=(((i+1)+jn:Nat):Int)+1) (by omega) (by omega)];(conv=>whnf);try (refine Al.run ?_)
           (conv=>whnf);by_cases h1:(i+1)+jn+1<t.size
           ·have d7:decide ((((i+1)+jn:Nat):Int)+1<(t.size:Int))=true:=decide_eq_true (by omega);(conv=>whnf);rw [d7];refine vbt (i:=(i+1)+jn+1) h1 ?_;by_cases h125:bt t ((i+1)+jn+1)=125
            ·have d8:(((bt t ((i+1)+jn+1):Nat):Int)==125)=true:=by rw [h125];rfl
             (conv=>whnf);rw [d8];refine ixa CA (by decide) (by decide) ?_;refine AG stj 0 ct3 rfl (by show _<(2:Nat);decide) rfl fun G7 sg7=>?_;replace sg7:St H G7 [pA2 q (v:Int) (-1)]:=sg7;(conv=>whnf);exact⟨rfl,(2,(i+1)+jn+1,(v:Int),-1),rfl,⟨⟨by omega,fun h=>absurd h (by decide),fun h=>absurd h (by decide),fun _=>⟨hdi,by rw [hnm],rfl,by rw [hnm];unfold upM;rw [if_pos h44,if_pos h125]⟩,by omega⟩,sg7⟩,by show 2 - 2<2 - 0;omega⟩
            ·have d8:(((bt t ((i+1)+jn+1):Nat):Int)==125)=false:=DY h125;(conv=>whnf);rw [d8];(conv=>whnf);exact⟨rfl,(1,(i+1)+jn+1,(v:Int),0),rfl,⟨⟨by omega,fun h=>absurd h (by decide),fun _=>⟨hdi,by rw [hnm],rfl,by rw [hnm],by rw [hnm];exact h44,h125⟩,fun h=>absurd h (by decide),by omega⟩,stj⟩,by show 2 - 1<2 - 0;omega⟩
           ·have d7:decide ((((i+1)+jn:Nat):Int)+1<(t.size:Int))=false:=decide_eq_false (by omega);(conv=>whnf);rw [d7];(conv=>whnf);exact⟨rfl,(1,(i+1)+jn+1,(v:Int),0),rfl,⟨⟨by omega,fun h=>absurd h (by decide),fun _=>⟨hdi,by rw [hnm],rfl,by rw [hnm],by rw [hnm];exact h44,by rw [Cb h1];decide⟩,fun h=>absurd h (by decide),by omega⟩,stj⟩,by show 2 - 1<2 - 0;omega⟩
          ·have d6:(((bt t ((i+1)+jn):Nat):Int) != 44)=true:=bne_iff_ne.2 (by omega);(conv=>whnf);rw [d6];(conv=>whnf);exact⟨rfl,(1,(i+1)+jn,(v:Int),0),rfl,⟨⟨.inl rfl,hje,(by first | exact hdi | rfl),by rw [hnm],(v:Int),by rw [hnm];unfold upM;rw [if_neg h44],by omega,by omega,fun _=>rfl,fun h=>absurd h (by decide)⟩,stj⟩⟩
         ·have d5:decide ((t.size:Int)≤(((i+1)+jn:Nat):Int))=true:=decide_eq_true (by omega);(conv=>whnf);rw [d5];(conv=>whnf);exact⟨rfl,(1,(i+1)+jn,(v:Int),0),rfl,⟨⟨.inl rfl,hje,(by first | exact hdi | rfl),by rw [hnm],(v:Int),by rw [hnm];unfold upM;rw [if_neg (by rw [Cb h0];omega)],by omega,by omega,fun _=>rfl,fun h=>absurd h (by decide)⟩,stj⟩⟩
    ·(conv=>whnf);try (refine Al.run ?_)
     obtain⟨hdi,hx0,rfl,hej,h44,h125⟩:=hI.one rfl;refine Af (Jf (i:=e) G) fun G1 hg1=>?_;have sg1:=stg.call hg1;cases hd:Do t e with
     | false=>
       (conv=>whnf);refine⟨sg1.old,?_⟩;unfold BrD;have hu:upM t (Bz t 3 (i+1) 0).1 (Bz t 3 (i+1) 0).2= .inl (20,e):=by
        unfold upM;rw [if_pos h44,←hej,if_neg h125,hd];rfl
       have hb:BD t i= .inl (20,e):=by unfold BD;rw [if_pos hdi,hu]
       rw [hb];rfl
     | true=>
       (conv=>whnf);(conv=>whnf);refine AH.mk [12,9] (fun x:Nat×Nat=>match x with | (jn,_)=>[.int .i64 (jn:Int),.int .i64 ((e+jn:Nat):Int)]) (fun x G=>match x with | (jn,v)=>jn≤3∧v<10 ^ jn∧e+jn≤t.size∧Bz t 3 e 0=Bz t (3 - jn) (e+jn) v∧St H G [pA2 q x0 (v:Int)]) (fun x _=>match x with | (jn,_)=>3 - jn) ?_ ?_
       ·(conv=>whnf);exact⟨(0,0),rfl,by omega,by decide,hle,rfl,sg1⟩
       ·rintro⟨jn,v⟩ G2 junk2 ⟨hjn,hv,hje,hvn,stj⟩;have hv1:v<1000:=Vm hv (Vk (by omega) hjn);have hout:(jn=3∨Do t (e+jn)=false)→Bz t 3 e 0=(v,e+jn):=fun h=>by
         rw [hvn];rcases h with rfl | h
         ·rfl
         ·exact Ow h _
        clear hI;by_cases hj3:jn<3
        ·have d2:decide ((jn:Int)<3)=true:=decide_eq_true (by omega);(conv=>whnf);rw [d2];refine Af (Jf (i:=e+jn) G2) fun G3 hg3=>?_;replace stj:=stj.call hg3;cases hdj:Do t (e+jn)with
         | true=>
           have hlt:e+jn<t.size:=by
            unfold Do at hdj;have:=of_decide_eq_true hdj;exact CX (by omega)
           have hdr:48≤bt t (e+jn)∧bt t (e+jn)≤57:=by unfold Do at hdj;exact of_decide_eq_true hdj
           (conv=>whnf);try (refine Al.run ?_)
           refine As.heldZ (fun k=>k=q) [12] (sq [0,1,2,3,4,5,6,7,8,9,10,11] (.f 12 .e)) rfl (by kernel_rfl) (ixa CA (by decide) (by decide) ?_);refine ld1 (v:=.int .i64 (v:Int)) ct3 (by rw [(stj.blk 0 rfl).cell];rfl) rfl ?_;(conv=>whnf);rw [w64 (x:=10*(v:Int)) (by omega) (by omega)];refine vbt hlt ?_;(conv=>whnf);rw [w8 (x:=((bt t (e+jn):Nat):Int) - 48) (by omega) (by omega)];(conv=>whnf);rw [w64 (x:=((bt t (e+jn):Nat):Int) - 48) (by omega) (by omega)];(conv=>whnf);rw [w64 (x:=10*(v:Int)+(((bt t (e+jn):Nat):Int) - 48)) (by omega) (by omega)];refine ixa CA (by decide) (by decide) ?_;refine AG stj 0 ct3 rfl (by show _<(2:Nat);decide) rfl fun G5 sg5=>?_;(conv=>whnf);rw [w64 (x:=((e+jn:Nat):Int)+1) (by omega) (by omega)];(conv=>whnf);rw [w64 (x:=(jn:Int)+1) (by omega) (by omega)];have ev:10*(v:Int)+(((bt t (e+jn):Nat):Int) - 48)=((10*v+(bt t (e+jn) - 48):Nat):Int):=by omega
           rw [ev]at sg5;refine⟨rfl,(jn+1,10*v+(bt t (e+jn) - 48)),rfl,⟨by omega,by rw [Nat.pow_succ];omega,by omega,?_,sg5⟩,by show 3 - (jn+1)<3 - jn;omega⟩;rw [hvn,show 3 - jn=(3 - (jn+1))+1 by omega,Bz,hdj];rfl
         | false=>
           (conv=>whnf);try (refine Al.run ?_)
           (conv=>whnf);have hv3:Bz t 3 e 0=(v,e+jn):=hout (.inr hdj);exact⟨rfl,(2,e+jn,x0,(v:Int)),rfl,⟨⟨.inr rfl,hje,hdi,hx0,(v:Int),by unfold upM;rw [if_pos h44,←hej,if_neg h125,hd];show(if true=true then _ else _)=_;rw [if_pos rfl,hv3],by omega,by omega,fun h=>absurd h (by decide),fun _=>rfl⟩,stj⟩⟩
        ·have d2:decide ((jn:Int)<3)=false:=decide_eq_false (by omega);(conv=>whnf);rw [d2];(conv=>whnf);try (refine Al.run ?_)
         (conv=>whnf);have hv3:Bz t 3 e 0=(v,e+jn):=hout (.inl (by omega));exact⟨rfl,(2,e+jn,x0,(v:Int)),rfl,⟨⟨.inr rfl,hje,hdi,hx0,(v:Int),by unfold upM;rw [if_pos h44,←hej,if_neg h125,hd];show(if true=true then _ else _)=_;rw [if_pos rfl,hv3],by omega,by omega,fun h=>absurd h (by decide),fun _=>rfl⟩,stj⟩⟩
   ·have hk:k=2:=by have:=hI.le2;omega
    subst hk;obtain⟨h1,h2,h3,h4⟩:=hI.two rfl;(conv=>whnf);exact⟨rfl,(2,e,x0,x1),rfl,⟨⟨.inr rfl,hle,h1,h2,-1,h4,by omega,by omega,fun h=>absurd h (by decide),fun _=>h3.symm⟩,stg⟩⟩
 ·rintro⟨k,e,x0,x1⟩ G junk ⟨⟨hk,he,hd,hx0,n,hu,hn1,hn2,h1n,h2n⟩,stg⟩;have hbr:=TJ hd hu;obtain⟨m,hm⟩:∃m,m=(Bz t 3 (i+1) 0).1:=⟨_,rfl⟩;rw [←hm]at hbr hx0;clear hu hm st1;rcases hk with rfl | rfl
  ·have hnx:=h1n rfl;refine Al.run (ixa CA (by decide) (by decide) ?_);refine ld1 (v:=.int .i64 (x0)) ct3 (by rw [(stg.blk 0 rfl).cell];rfl) trivial ?_;refine ixa CA (by decide) (by decide) ?_;refine AG stg 0 ct3 rfl (by show _<(2:Nat);decide) rfl fun G2 sg2=>?_;replace sg2:St H G2 [pA2 q x0 x0]:=sg2;(conv=>whnf);try (refine Al.run ?_)
   (conv=>whnf);by_cases he2:e<t.size
   ·have d1:decide ((t.size:Int)≤(e:Int))=false:=decide_eq_false (by omega);(conv=>whnf);rw [d1];refine vbt he2 ?_;by_cases h125:bt t e=125
    ·have d2:(((bt t e:Nat):Int) != 125)=false:=by rw [h125];rfl
     have hen:E1 t i m n e=(if 255<m∨255<n∨(0≤n∧n<(m:Int))then .inl (22,i)else .inr (m,n,e+1)):=by unfold E1;rw [if_pos h125]
     (conv=>whnf);rw [d2];refine ixa CA (by decide) (by decide) ?_;refine ld1 (v:=.int .i64 (x0)) ct3 (by rw [(sg2.blk 0 rfl).cell];rfl) trivial ?_;by_cases c1:255<x0
     ·have d3:decide (255<x0)=true:=decide_eq_true c1;(conv=>whnf);rw [d3];(conv=>whnf);refine⟨sg2.old,?_⟩;unfold BrD;rw [hbr,hen,if_pos (.inl (by omega))];rfl
     ·have d3:decide (255<x0)=false:=decide_eq_false c1;(conv=>whnf);rw [d3];refine ixa CA (by decide) (by decide) ?_;refine ld1 (v:=.int .i64 (x0)) ct3 (by rw [(sg2.blk 0 rfl).cell];rfl) trivial ?_;by_cases c2:255<n
      ·have d4:decide (255<x0)=true:=decide_eq_true (by omega);(conv=>whnf);rw [d4];(conv=>whnf);refine⟨sg2.old,?_⟩;unfold BrD;rw [hbr,hen,if_pos (.inr (.inl c2))];rfl
      ·have d4:decide (255<x0)=false:=decide_eq_false (by omega);(conv=>whnf);rw [d4];refine ixa CA (by decide) (by decide) ?_;refine ld1 (v:=.int .i64 (x0)) ct3 (by rw [(sg2.blk 0 rfl).cell];rfl) trivial ?_;by_cases c3:0≤n
       ·have d5:decide (0≤x0)=true:=decide_eq_true (by omega);(conv=>whnf);rw [d5];refine ixa CA (by decide) (by decide) ?_;refine ld1 (v:=.int .i64 (x0)) ct3 (by rw [(sg2.blk 0 rfl).cell];rfl) trivial ?_;refine ixa CA (by decide) (by decide) ?_;refine ld1 (v:=.int .i64 (x0)) ct3 (by rw [(sg2.blk 0 rfl).cell];rfl) trivial ?_;by_cases c4:n<(m:Int)
        ·have d6:decide (x0<x0)=true:=decide_eq_true (by omega);(conv=>whnf);rw [d6];(conv=>whnf);refine⟨sg2.old,?_⟩;unfold BrD;rw [hbr,hen,if_pos (.inr (.inr ⟨c3,c4⟩))];rfl
        ·have d6:decide (x0<x0)=false:=decide_eq_false (by omega);(conv=>whnf);rw [d6];refine As.lex rfl (by kernel_rfl) (ixa CA (by decide) (by decide) ?_);refine ld1 (v:=.int .i64 (x0)) ct3 (by rw [(sg2.blk 0 rfl).cell];rfl) trivial ?_;refine ixa CA (by decide) (by decide) ?_;refine ld1 (v:=.int .i64 (x0)) ct3 (by rw [(sg2.blk 0 rfl).cell];rfl) trivial ?_;(conv=>whnf);rw [w64 (x:=(e:Int)+1) (by omega) (by omega)];(conv=>whnf);refine⟨sg2.old,?_⟩;unfold BrD;rw [hbr,hen,if_neg (by omega),hnx,hx0];rfl
       ·have d5:decide (0≤x0)=false:=decide_eq_false (by omega);(conv=>whnf);rw [d5];refine As.lex rfl (by kernel_rfl) (ixa CA (by decide) (by decide) ?_);refine ld1 (v:=.int .i64 (x0)) ct3 (by rw [(sg2.blk 0 rfl).cell];rfl) trivial ?_;refine ixa CA (by decide) (by decide) ?_;refine ld1 (v:=.int .i64 (x0)) ct3 (by rw [(sg2.blk 0 rfl).cell];rfl) trivial ?_;(conv=>whnf);rw [w64 (x:=(e:Int)+1) (by omega) (by omega)];(conv=>whnf);refine⟨sg2.old,?_⟩;unfold BrD;rw [hbr,hen,if_neg (by omega),hnx,hx0];rfl
    ·have d2:(((bt t e:Nat):Int) != 125)=true:=bne_iff_ne.2 (by omega);have hen:E1 t i m n e= .inl (20,e):=by unfold E1;rw [if_neg h125]
     (conv=>whnf);rw [d2];(conv=>whnf);refine⟨sg2.old,?_⟩;unfold BrD;rw [hbr,hen];rfl
   ·have d1:decide ((t.size:Int)≤(e:Int))=true:=decide_eq_true (by omega);have hen:E1 t i m n e= .inl (20,e):=by unfold E1;rw [if_neg (by rw [Cb he2];omega)]
    (conv=>whnf);rw [d1];(conv=>whnf);refine⟨sg2.old,?_⟩;unfold BrD;rw [hbr,hen];rfl
  ·have hnx:=h2n rfl;refine Al.run ?_;(conv=>whnf);try (refine Al.run ?_)
   (conv=>whnf);by_cases he2:e<t.size
   ·have d1:decide ((t.size:Int)≤(e:Int))=false:=decide_eq_false (by omega);(conv=>whnf);rw [d1];refine vbt he2 ?_;by_cases h125:bt t e=125
    ·have d2:(((bt t e:Nat):Int) != 125)=false:=by rw [h125];rfl
     have hen:E1 t i m n e=(if 255<m∨255<n∨(0≤n∧n<(m:Int))then .inl (22,i)else .inr (m,n,e+1)):=by unfold E1;rw [if_pos h125]
     (conv=>whnf);rw [d2];refine ixa CA (by decide) (by decide) ?_;refine ld1 (v:=.int .i64 (x0)) ct3 (by rw [(stg.blk 0 rfl).cell];rfl) trivial ?_;by_cases c1:255<x0
     ·have d3:decide (255<x0)=true:=decide_eq_true c1;(conv=>whnf);rw [d3];(conv=>whnf);refine⟨stg.old,?_⟩;unfold BrD;rw [hbr,hen,if_pos (.inl (by omega))];rfl
     ·have d3:decide (255<x0)=false:=decide_eq_false c1;(conv=>whnf);rw [d3];refine ixa CA (by decide) (by decide) ?_;refine ld1 (v:=.int .i64 (x1)) ct3 (by rw [(stg.blk 0 rfl).cell];rfl) trivial ?_;by_cases c2:255<n
      ·have d4:decide (255<x1)=true:=decide_eq_true (by omega);(conv=>whnf);rw [d4];(conv=>whnf);refine⟨stg.old,?_⟩;unfold BrD;rw [hbr,hen,if_pos (.inr (.inl c2))];rfl
      ·have d4:decide (255<x1)=false:=decide_eq_false (by omega);(conv=>whnf);rw [d4];refine ixa CA (by decide) (by decide) ?_;refine ld1 (v:=.int .i64 (x1)) ct3 (by rw [(stg.blk 0 rfl).cell];rfl) trivial ?_;by_cases c3:0≤n
       ·have d5:decide (0≤x1)=true:=decide_eq_true (by omega);(conv=>whnf);rw [d5];refine ixa CA (by decide) (by decide) ?_;refine ld1 (v:=.int .i64 (x1)) ct3 (by rw [(stg.blk 0 rfl).cell];rfl) trivial ?_;refine ixa CA (by decide) (by decide) ?_;refine ld1 (v:=.int .i64 (x0)) ct3 (by rw [(stg.blk 0 rfl).cell];rfl) trivial ?_;by_cases c4:n<(m:Int)
        ·have d6:decide (x1<x0)=true:=decide_eq_true (by omega);(conv=>whnf);rw [d6];(conv=>whnf);refine⟨stg.old,?_⟩;unfold BrD;rw [hbr,hen,if_pos (.inr (.inr ⟨c3,c4⟩))];rfl
        ·have d6:decide (x1<x0)=false:=decide_eq_false (by omega);(conv=>whnf);rw [d6];refine As.lex rfl (by kernel_rfl) (ixa CA (by decide) (by decide) ?_);refine ld1 (v:=.int .i64 (x0)) ct3 (by rw [(stg.blk 0 rfl).cell];rfl) trivial ?_;refine ixa CA (by decide) (by decide) ?_;refine ld1 (v:=.int .i64 (x1)) ct3 (by rw [(stg.blk 0 rfl).cell];rfl) trivial ?_;(conv=>whnf);rw [w64 (x:=(e:Int)+1) (by omega) (by omega)];(conv=>whnf);refine⟨stg.old,?_⟩;unfold BrD;rw [hbr,hen,if_neg (by omega),hnx,hx0];rfl
       ·have d5:decide (0≤x1)=false:=decide_eq_false (by omega);(conv=>whnf);rw [d5];refine As.lex rfl (by kernel_rfl) (ixa CA (by decide) (by decide) ?_);refine ld1 (v:=.int .i64 (x0)) ct3 (by rw [(stg.blk 0 rfl).cell];rfl) trivial ?_;refine ixa CA (by decide) (by decide) ?_;refine ld1 (v:=.int .i64 (x1)) ct3 (by rw [(stg.blk 0 rfl).cell];rfl) trivial ?_;(conv=>whnf);rw [w64 (x:=(e:Int)+1) (by omega) (by omega)];(conv=>whnf);refine⟨stg.old,?_⟩;unfold BrD;rw [hbr,hen,if_neg (by omega),hnx,hx0];rfl
    ·have d2:(((bt t e:Nat):Int) != 125)=true:=bne_iff_ne.2 (by omega);have hen:E1 t i m n e= .inl (20,e):=by unfold E1;rw [if_neg h125]
     (conv=>whnf);rw [d2];(conv=>whnf);refine⟨stg.old,?_⟩;unfold BrD;rw [hbr,hen];rfl
   ·have d1:decide ((t.size:Int)≤(e:Int))=true:=decide_eq_true (by omega);have hen:E1 t i m n e= .inl (20,e):=by unfold E1;rw [if_neg (by rw [Cb he2];omega)]
    (conv=>whnf);rw [d1];(conv=>whnf);refine⟨stg.old,?_⟩;unfold BrD;rw [hbr,hen];rfl
def ED(c m:Nat)(n:Int):Nat:=
 if n<0 then(if m=0 then c+1 else m*c+m+c+1)else if n=0 then 1 else if m=0 then n.toNat*(c+2)+n.toNat - 1 else m*c+m - 1+(n.toNat - m)*(c+3)
theorem HL(a:ReM)(m:Nat):∀k,1≤k→((B9 a m k).getD .eps).nodes+1=min k m*(a.nodes+1)+(k - m)*(a.nodes+3)
 | 0,h=>absurd h (by decide)
 | 1,_=>by
   rw [GJ];by_cases hm:0<m
   ·rw [if_pos hm,show min 1 m=1 by omega,show 1 - m=0 by omega];simp
   ·rw [if_neg hm,show min 1 m=0 by omega,show 1 - m=1 by omega];show 1+a.nodes+1+1=_;omega
 | k+2,_=>by
   have ih:=HL a m (k+1) (by omega);rw [CM a m (k+1) (by omega)];show 1+_+(if k+1<m then a else AV a).nodes+1=_;by_cases hm:k+1<m
   ·rw [if_pos hm];rw [show min (k+1) m=k+1 by omega,show k+1 - m=0 by omega]at ih;rw [show min (k+2) m=k+1+1 by omega,show k+2 - m=0 by omega,Nat.add_mul (k+1) 1];omega
   ·rw [if_neg hm];rw [show min (k+1) m=m by omega]at ih;rw [show min (k+2) m=m by omega,show k+2 - m=(k+1 - m)+1 by omega,Nat.add_mul (k+1 - m) 1];show 1+_+(1+a.nodes+1)+1=_;omega
theorem N3(a:ReM)(m:Nat)(n:Int)(hmn:0≤n→(m:Int)≤n):(BG a m n).nodes=ED a.nodes m n:=by
 unfold BG ED;by_cases hn:n<0
 ·rw [if_pos hn,if_pos hn];by_cases hm:m=0
  ·rw [if_pos hm,if_pos hm];show 1+a.nodes=_;omega
  ·rw [if_neg hm,if_neg hm];have h:=HL a m m (by omega);rw [Nat.min_self,Nat.sub_self,Nat.zero_mul,Vn]at h;show 1+((B9 a m m).getD .eps).nodes+(1+a.nodes)=_;omega
 ·rw [if_neg hn,if_neg hn];by_cases h0:n=0
  ·rw [if_pos h0,if_pos h0];rfl
  ·rw [if_neg h0,if_neg h0];obtain⟨k,rfl⟩:=UZ (show 0≤n by omega);have hmk:m≤k:=by have:=hmn (by omega);omega
   have h:=HL a m k (by omega);rw [Vf];rw [show min k m=m by omega]at h;by_cases hm:m=0
   ·rw [if_pos hm];subst hm;have e1:k*(a.nodes+3)=k*(a.nodes+2)+k:=by rw [show a.nodes+3=a.nodes+2+1 by omega,Vn (k) (a.nodes+2) 1,UQ]
    simp only [Nat.zero_mul,UM,Nat.sub_zero]at h;omega
   ·rw [if_neg hm];rw [Vn,UQ]at h;have:1≤m*a.nodes+m:=by omega
    omega
theorem Q5(c m:Nat)(n:Int)(hmn:0≤n→(m:Int)≤n):min (ED (min c 2001) m n) 2001=min (ED c m n) 2001:=by
 by_cases hc:c≤2001
 ·rw [Nat.min_eq_left hc]
 ·have h1:ED 2001 m n≤ED c m n:=by
   unfold ED;split
   ·split
    ·omega
    ·have:=UW m (show 2001≤c by omega);omega
   ·split
    ·omega
    ·split
     ·have:=UW n.toNat (show 2001+2≤c+2 by omega);omega
     ·have h1:=UW m (show 2001≤c by omega);have h2:=UW (n.toNat - m) (show 2001+3≤c+3 by omega);omega
  have h2:n≠0→2001≤ED 2001 m n:=by
   intro hn;unfold ED;split
   ·split
    ·omega
    ·have:=Vb 2001 (show 1≤m by omega);omega
   ·have hk:1≤n.toNat:=by omega
    split
    ·have:=Vb (2001+2) hk;omega
    ·have:=Vb 2001 (show 1≤m by omega);have:=Vo ((n.toNat - m)*(2001+3));omega
  rw [Nat.min_eq_right (show 2001≤c by omega)];by_cases hn:n=0
  ·subst hn;rfl
  ·have:=h2 hn;omega
theorem RQ(a:ReM)(m:Nat)(n:Int)(hmn:0≤n→(m:Int)≤n):szR (BG a m n)=min (ED (szR a) m n) 2001:=by
 unfold szR;rw [N3 a m n hmn,Q5 _ _ _ hmn]
theorem Jw(op:ROp)(a b:ReM):szR (opR op a b)=min (1+szR a+szR b) 2001:=by unfold szR;rw [K3];omega
theorem RT{c:Nat}{m n:Int}(hc:c≤2001)(h:NL m n)(H:Aa):Bv Tryz.prog 57 #[.int .i64 (c:Int),.int .i64 m,.int .i64 n] H (.int .i64 ((ED c (AD m) n:Nat):Int)):=by
 refine Ao.of_vc Tryz.func57 rfl (Tryz.call57 _) ?_;by_cases h2:m= -2
 ·have hn:n= -1:=by rcases h with h | h;exact h.2;omega
  subst h2 hn;(conv=>whnf);refine⟨?_,Agr.refl _ _⟩
  congr 1
  rw [w64 (x:=(c:Int)+1) (by omega) (by omega)];rw [w64 (x:=(c:Int)+1+(c:Int)) (by omega) (by omega)];rw [w64 (x:=(c:Int)+1+(c:Int)+1) (by omega) (by omega)];show _=((1*c+1+c+1:Nat):Int);omega
 ·obtain⟨hm0,hm1,hn0,hn1,hmn⟩:0≤m∧m≤255∧ -1≤n∧n≤255∧(0≤n→m≤n):=by rcases h with h | h;exact absurd h.1 h2;exact h
  obtain⟨k,rfl⟩:=UZ hm0;have hlow:AD (k:Int)=k:=by unfold AD;rw [if_neg h2];rfl
  have d1:((k:Int)== -2)=false:=beq_eq_false_iff_ne.2 h2;have hp:k*c≤255*2001:=UT (by omega) hc;rw [hlow];unfold ED;(conv=>whnf);try rw [d1]
  (conv=>whnf);try (refine Al.run ?_)
  (conv=>whnf);by_cases hneg:n<0
  ·have d2:decide (n<0)=true:=decide_eq_true hneg;rw [if_pos hneg];rw [d2];by_cases hk:k=0
   ·subst hk;(conv=>whnf);refine⟨?_,Agr.refl _ _⟩
    congr 1
    rw [w64 (x:=(c:Int)+1) (by omega) (by omega)];rfl
   ·have d3:((k:Int)==0)=false:=beq_eq_false_iff_ne.2 (by omega);rw [if_neg hk];(conv=>whnf);try rw [d3]
    (conv=>whnf);try (refine Al.run ?_)
    (conv=>whnf);try rw [d2]
    (conv=>whnf);refine⟨?_,Agr.refl _ _⟩
    congr 1
    have ep:(k:Int)*(c:Int)=((k*c:Nat):Int):=(Vc k c).symm;rw [ep];generalize k*c=p at*;rw [w64 (x:=(p:Int)) (by omega) (by omega)];rw [w64 (x:=(p:Int)+k) (by omega) (by omega)];rw [w64 (x:=(p:Int)+k - 1) (by omega) (by omega)];rw [w64 (x:=(p:Int)+k - 1+1) (by omega) (by omega)];rw [w64 (x:=(p:Int)+k - 1+1+c) (by omega) (by omega)];rw [w64 (x:=(p:Int)+k - 1+1+c+1) (by omega) (by omega)];omega
  ·have d2:decide (n<0)=false:=decide_eq_false hneg;rw [if_neg hneg]
   try rw [d2]
   (conv=>whnf);try (refine Al.run ?_)
   (conv=>whnf);try rw [d2]
   (conv=>whnf);try (refine Al.run ?_)
   (conv=>whnf);obtain⟨j,rfl⟩:=UZ (show 0≤n by omega);have hq:j*(c+2)≤255*2003:=UT (by omega) (by omega);have hr:(j - k)*(c+3)≤255*2004:=UT (by omega) (by omega);rw [Vf];by_cases h0:j=0
   ·subst h0;(conv=>whnf);exact⟨by rw [if_pos (show((0:Nat):Int)=0 from rfl)];rfl,Agr.refl _ _⟩
   ·have d3:((j:Int)==0)=false:=beq_eq_false_iff_ne.2 (by omega);rw [if_neg (show¬(j:Int)=0 by omega)]
    try rw [d3]
    (conv=>whnf);try (refine Al.run ?_)
    (conv=>whnf);by_cases hk:k=0
    ·subst hk;(conv=>whnf);refine⟨?_,Agr.refl _ _⟩
     congr 1
     rw [if_pos (show(0:Nat)=0 from rfl)];rw [w64 (x:=(c:Int)+2) (by omega) (by omega)];have ep:(j:Int)*((c:Int)+2)=((j*(c+2):Nat):Int):=by rw [Vc];rfl
     rw [ep];have hj1:1≤j*(c+2):=Nat.le_trans (by omega) (UT (show 1≤j by omega) (show 2≤c+2 by omega));generalize j*(c+2)=p at*;rw [w64 (x:=(p:Int)) (by omega) (by omega)];rw [w64 (x:=(p:Int)+j) (by omega) (by omega)];rw [w64 (x:=(p:Int)+j - 1) (by omega) (by omega)];omega
    ·have d4:((k:Int)==0)=false:=beq_eq_false_iff_ne.2 (by omega);rw [if_neg hk]
     try rw [d4]
     (conv=>whnf);refine⟨?_,Agr.refl _ _⟩
     congr 1
     rw [w64 (x:=(c:Int)+2) (by omega) (by omega)];rw [w64 (x:=(c:Int)+2+1) (by omega) (by omega)];rw [w64 (x:=(j:Int) - (k:Int)) (by omega) (by omega)];have ep:(k:Int)*(c:Int)=((k*c:Nat):Int):=(Vc k c).symm;have eq:((j:Int) - (k:Int))*((c:Int)+2+1)=(((j - k)*(c+3):Nat):Int):=by
      rw [Vc,show((j - k:Nat):Int)=(j:Int) - k by have:=hmn (by omega);omega,show(c:Int)+2+1=((c+3:Nat):Int) by omega]
     rw [ep,eq];have hmn':=hmn (by omega);generalize k*c=p at*;generalize (j - k)*(c+3)=r at*;rw [w64 (x:=(p:Int)) (by omega) (by omega)];rw [w64 (x:=(p:Int)+k) (by omega) (by omega)];rw [w64 (x:=(p:Int)+k - 1) (by omega) (by omega)];rw [w64 (x:=(r:Int)) (by omega) (by omega)];rw [w64 (x:=(p:Int)+k - 1+r) (by omega) (by omega)];omega
theorem Ui(d:RnM):(rnL d)[259]? =some (.int .i64 d.m):=by
 unfold rnL AZ;rw [UP (by simp),UP (by simp [Ap])];simp [Ap]
theorem M5(d:RnM):(rnL d)[260]? =some (.int .i64 d.n):=by
 unfold rnL AZ;rw [UP (by simp),UP (by simp [Ap])];simp [Ap]
theorem RJ{c:Nat}{m n:Int}(hc:c≤2001)(h:NL m n):ED c (AD m) n≤2000000:=by
 have hm:AD m≤255:=by unfold AD;split<;>rcases h with h | h<;>omega
 have hn:n.toNat≤255:=by rcases h with h | h<;>omega
 have h1:AD m*c≤255*2001:=UT hm hc;have h2:n.toNat*(c+2)≤255*2003:=UT hn (by omega);have h3:(n.toNat - AD m)*(c+3)≤255*2004:=UT (by omega) (by omega);unfold ED;split
 ·split<;>omega
 ·split
  ·omega
  ·split<;>omega
def szI(w:RwM):Int:=((szR w.den:Nat):Int)
def szL(ws:List RwM)(j:Nat):List Int:=(ws.take j).map szI++Vq (ws.length - j) 0
theorem AL(ws:List RwM){j:Nat}(hj:j≤ws.length):(szL ws j).length=ws.length:=by unfold szL;simp;omega
theorem LF{ws:List RwM}{j i:Nat}{w:RwM}(h:ws[i]? =some w)(hi:i<j):(szL ws j)[i]? =some (szI w):=by
 have hl:=(UX.1 h).1;unfold szL;rw [UY (by simp;omega),Vg,Ve,if_pos hi,h];rfl
theorem CK{ws:List RwM}{j:Nat}{w:RwM}(h:ws[j]? =some w):(szL ws j).set j (szI w)=szL ws (j+1):=by
 have hl:=(UX.1 h).1;apply List.ext_getElem?;intro i;have l1:=AL ws (j:=j) (by omega);by_cases hi:i=j
 ·subst hi;rw [UO (by omega),LF h (by omega)]
 ·rw [List.getElem?_set_ne (by omega)];unfold szL;by_cases hij:i<j
  ·rw [UY (by simp;omega),UY (by simp;omega),Vg,Vg,Ve,Ve,if_pos hij,if_pos (by omega)]
  ·rw [UP (by simp;omega),UP (by simp;omega),Vi,Vi];simp only [List.length_map,List.length_take];by_cases hi2:i<ws.length
   ·rw [if_pos (by omega),if_pos (by omega)]
   ·rw [if_neg (by omega),if_neg (by omega)]
abbrev pSz(b n:Nat)(xs:List Int):Pc:=pS tPl 3 (some ⟨b,0,none⟩) n n xs
theorem RM{S:Nat→Prop}{H:Aa}{na:Option Addr}{nc:Nat}{ds:List RnM}{ws:List RwM}(hS:∀k,S k→k<H.size)(hR:Raw ds ws)(hl:ds.length≤16777216)(hd:SlD tRn S H na nc ds):
  Ao Tryz.prog 35 #[.slice na ds.length nc] H (fun v H'=>∃b,v= .slice (some ⟨b,0,none⟩) ds.length ds.length∧St H H' [pSz b ds.length (szL ws ws.length)]):=by
 have hlen:=hR.len;refine Ao.of_vc Tryz.func35 rfl (Tryz.call35 _) (Tu (T:=tPl) (v:=0) (S:=none_) BU ⟨rfl,BB (x:=0) (by decide)⟩ (by omega) rfl (by omega) (by omega) ?_);intro b H1 hb hs1 hb1 ha1;rw [Vf]at hb1 ⊢;have st1:St H H1 [pSz b ds.length (szL ws 0)]:=by
  have:=(St.nil H).new (T:=tPl) (n:=ds.length) (xs:=Vq ws.length (0:Int)) hb hs1 hb1 ha1 (by rw [hlen];exact GK (T:=tPl) (c:=[.int .i64 0]) ⟨rfl,BB (x:=0) (by decide)⟩ _) (by simp [hlen]) (by unfold maxLen;omega);unfold szL;simpa using this
 have hmax:ws.length≤16777216:=by omega
 (conv=>whnf);refine AH.mk [4] (fun j:Nat=>[.int .i64 (j:Int)]) (fun j G=>j≤ws.length∧St H G [pSz b ds.length (szL ws j)]) (fun j _=>ws.length - j) ?_ ?_
 ·(conv=>whnf);exact⟨0,rfl,by omega,st1⟩
 ·rintro j G junk ⟨hj,stg⟩;have hv:(ws.length:Int)=(ds.length:Int):=by rw [hlen]
  refine AQ.mk (fun hz=>?_) (fun hz=>?_)<;>simp only [decide_eq_true_eq,decide_eq_false_iff_not]at hz
  ·have hjl:j<ws.length:=by omega
   obtain⟨w,hw⟩:∃w,ws[j]? =some w:=⟨_,List.getElem?_eq_getElem hjl⟩;obtain⟨d,us,vs,hdd,hws,hul,hnr⟩:=hR.at_ hw;have hxl:=AL ws hj;have hlt:∀{i:Nat} {a:RwM},us[i]? =some a→(szL ws j)[i]? =some (szI a)∧i<ws.length:=fun{i a} h=>by
    have hi:=(UX.1 h).1;have:ws[i]? =some a:=by rw [hws];exact F2 h
    exact⟨LF this (by omega),by omega⟩
   have nd:∀{G':Aa} {S0:Nat→Prop} {K:Value→Prop},St H G' [pSz b ds.length (szL ws j)]→(∀b2 o2,Bo G' b2 o2 (rnL d)→Old G' b2→K (.pointer (some ⟨b2,o2,none⟩)))→AB Tryz.prog (Instr.indexAt 30 (.slice na ds.length nc) (.int .i64 (j:Int))) S0 G' K:=fun st k=>by
    refine ixr (i:=j) CU (hd.frame (st.old.mono hS)) hdd rfl ?_;rintro b2 o2 c2 hS2 hc2 ⟨rfl,hok⟩;exact k b2 o2 hc2 (st.up (hS b2 hS2))
   refine Al.run (Al.run (nd stg fun b2 o2 hc2 hO2=>(VC.fa Bt (ld1 (v:=.int .i64 d.op) ct3 (hc2 0 _ (Ch d)) trivial ?_))));cases w with
   | eps=>
     obtain rfl:d=Ax 0 0 0:=hnr;(conv=>whnf);try (refine Al.run ?_)
     (conv=>whnf);try (refine Al.run ?_)
     refine nd stg fun b3 o3 hc3 hO3=>(VC.fa Bt (ld1 (v:=.int .i64 (Ax 0 0 0).op) ct3 (hc3 0 _ (Ch _)) trivial ?_));(conv=>whnf);try (refine Al.run ?_)
     refine ixE (T:=tPl) (j:=j) BU stg 0 rfl (by rw [AL ws hj];exact hjl) rfl ?_;refine IZ (T:=tPl) (j:=j) (x:=1) stg 0 ct3 rfl rfl (UQ _) (by rw [AL ws hj];exact hjl) rfl (fun _ _=>⟨rfl,BB (x:=1) (by decide)⟩) fun G3 sg3=>?_;(conv=>whnf);try (refine Al.run ?_)
     refine ixO (j:=j) (x:=(1:Int)) BU sg3 0 rfl (by exact UO (by rw [AL ws hj];exact hjl)) rfl fun b9 o9 cs9 hO9 hc9 hr9=>?_;obtain⟨rfl,-⟩:=hr9;refine ld1 (v:=.int .i64 ((1:Int))) ct3 hc9.one trivial ?_;(conv=>whnf);rw [w64 (x:=(j:Int)+1) (by omega) (by omega)];refine⟨rfl,j+1,rfl,⟨by omega,?_⟩,by omega⟩;have e:(1:Int)=szI (.eps):=by unfold szI;show(1:Int)=((szR (RwM.eps).den:Nat):Int);rw [show szR (RwM.eps).den=1 from rfl];rfl
     have sg8:=sg3;replace sg8:St H _ [pSz b ds.length ((szL ws j).set j 1)]:=sg8;rw [e,CK hw]at sg8;exact sg8
   | cls s=>
     obtain rfl:d=De s:=hnr;(conv=>whnf);try (refine Al.run ?_)
     (conv=>whnf);try (refine Al.run ?_)
     refine nd stg fun b3 o3 hc3 hO3=>(VC.fa Bt (ld1 (v:=.int .i64 (De s).op) ct3 (hc3 0 _ (Ch _)) trivial ?_));(conv=>whnf);try (refine Al.run ?_)
     refine ixE (T:=tPl) (j:=j) BU stg 0 rfl (by rw [AL ws hj];exact hjl) rfl ?_;refine IZ (T:=tPl) (j:=j) (x:=1) stg 0 ct3 rfl rfl (UQ _) (by rw [AL ws hj];exact hjl) rfl (fun _ _=>⟨rfl,BB (x:=1) (by decide)⟩) fun G3 sg3=>?_;(conv=>whnf);try (refine Al.run ?_)
     refine ixO (j:=j) (x:=(1:Int)) BU sg3 0 rfl (by exact UO (by rw [AL ws hj];exact hjl)) rfl fun b9 o9 cs9 hO9 hc9 hr9=>?_;obtain⟨rfl,-⟩:=hr9;refine ld1 (v:=.int .i64 ((1:Int))) ct3 hc9.one trivial ?_;(conv=>whnf);rw [w64 (x:=(j:Int)+1) (by omega) (by omega)];refine⟨rfl,j+1,rfl,⟨by omega,?_⟩,by omega⟩;have e:(1:Int)=szI (.cls s):=by unfold szI;show(1:Int)=((szR (RwM.cls s).den:Nat):Int);rw [show szR (RwM.cls s).den=1 from rfl];rfl
     have sg8:=sg3;replace sg8:St H _ [pSz b ds.length ((szL ws j).set j 1)]:=sg8;rw [e,CK hw]at sg8;exact sg8
   | cat a c=>
     obtain⟨i1,i2,rfl,hi1,hi2⟩:=hnr;obtain⟨g1,l1⟩:=hlt hi1;obtain⟨g2,l2⟩:=hlt hi2;have za:=E3 a.den;have zc:=E3 c.den;have hsz:szR (RwM.cat a c).den=min (1+szR a.den+szR c.den) 2001:=Jw .cat a.den c.den;(conv=>whnf);try (refine Al.run ?_)
     refine nd stg fun b3 o3 hc3 hO3=>(VC.fa BJ (ld1 (v:=.int .i64 (i1:Int)) ct3 (hc3 257 _ (Ea _)) trivial (ixO (j:=i1) (x:=szI a) BU stg 0 rfl g1 rfl fun b9 o9 cs9 hO9 hc9 hr9=>?_)));obtain⟨rfl,-⟩:=hr9;refine ld1 (v:=.int .i64 (szI a)) ct3 hc9.one trivial ?_;(conv=>whnf);try (refine Al.run ?_)
     refine nd stg fun b4 o4 hc4 hO4=>(VC.fa Bt (ld1 (v:=.int .i64 (Ax 2 (i1:Int) (i2:Int)).op) ct3 (hc4 0 _ (Ch _)) trivial ?_));(conv=>whnf);try (refine Al.run ?_)
     (conv=>whnf);rw [w64 (x:=1+szI a) (by unfold szI;omega) (by unfold szI;omega)];refine nd stg fun b5 o5 hc5 hO5=>(VC.fa Dr (ld1 (v:=.int .i64 (i2:Int)) ct3 (hc5 258 _ (Hi _)) trivial (ixO (j:=i2) (x:=szI c) BU stg 0 rfl g2 rfl fun b9 o9 cs9 hO9 hc9 hr9=>?_)));obtain⟨rfl,-⟩:=hr9;refine ld1 (v:=.int .i64 (szI c)) ct3 hc9.one trivial ?_;(conv=>whnf);rw [w64 (x:=1+szI a+szI c) (by unfold szI;omega) (by unfold szI;omega)];rw [show 1+szI a+szI c=((1+szR a.den+szR c.den:Nat):Int) by unfold szI;omega];refine ixE (T:=tPl) (j:=j) BU stg 0 rfl (by rw [AL ws hj];exact hjl) rfl ?_;refine IZ (T:=tPl) (j:=j) (x:=((1+szR a.den+szR c.den:Nat):Int)) stg 0 ct3 rfl rfl (UQ _) (by rw [AL ws hj];exact hjl) rfl (fun _ _=>⟨rfl,BB (by omega)⟩) fun G3 sg3=>?_;(conv=>whnf);try (refine Al.run ?_)
     refine ixO (j:=j) (x:=(((1+szR a.den+szR c.den:Nat):Int):Int)) BU sg3 0 rfl (by exact UO (by rw [AL ws hj];exact hjl)) rfl fun b9 o9 cs9 hO9 hc9 hr9=>?_;obtain⟨rfl,-⟩:=hr9;refine ld1 (v:=.int .i64 ((((1+szR a.den+szR c.den:Nat):Int):Int))) ct3 hc9.one trivial ?_;by_cases hcap:2001<1+szR a.den+szR c.den
     ·have d9:decide (2001<(((1+szR a.den+szR c.den:Nat):Int):Int))=true:=decide_eq_true (by omega);(conv=>whnf);rw [d9];refine ixE (T:=tPl) (j:=j) BU sg3 0 rfl (by rw [UR,AL ws hj];exact hjl) rfl ?_;refine IZ (T:=tPl) (j:=j) (x:=2001) sg3 0 ct3 rfl rfl (UQ _) (by rw [UR,AL ws hj];exact hjl) rfl (fun _ _=>⟨rfl,BB (x:=2001) (by decide)⟩) fun G8 sg8=>?_;(conv=>whnf);rw [w64 (x:=(j:Int)+1) (by omega) (by omega)];refine⟨rfl,j+1,rfl,⟨by omega,?_⟩,by omega⟩;have e:(2001:Int)=szI (.cat a c):=by unfold szI;rw [hsz];omega
      replace sg8:St H G8 [pSz b ds.length (((szL ws j).set j ((1+szR a.den+szR c.den:Nat):Int)).set j 2001)]:=sg8;rw [Vd,e,CK hw]at sg8;exact sg8
     ·have d9:decide (2001<(((1+szR a.den+szR c.den:Nat):Int):Int))=false:=decide_eq_false (by omega);(conv=>whnf);rw [d9];(conv=>whnf);rw [w64 (x:=(j:Int)+1) (by omega) (by omega)];refine⟨rfl,j+1,rfl,⟨by omega,?_⟩,by omega⟩;have e:(((1+szR a.den+szR c.den:Nat):Int):Int)=szI (.cat a c):=by unfold szI;rw [hsz];omega
      have sg8:=sg3;replace sg8:St H _ [pSz b ds.length ((szL ws j).set j ((1+szR a.den+szR c.den:Nat):Int))]:=sg8;rw [e,CK hw]at sg8;exact sg8
   | alt a c=>
     obtain⟨i1,i2,rfl,hi1,hi2⟩:=hnr;obtain⟨g1,l1⟩:=hlt hi1;obtain⟨g2,l2⟩:=hlt hi2;have za:=E3 a.den;have zc:=E3 c.den;have hsz:szR (RwM.alt a c).den=min (1+szR a.den+szR c.den) 2001:=Jw .alt a.den c.den;(conv=>whnf);try (refine Al.run ?_)
     refine nd stg fun b3 o3 hc3 hO3=>(VC.fa BJ (ld1 (v:=.int .i64 (i1:Int)) ct3 (hc3 257 _ (Ea _)) trivial (ixO (j:=i1) (x:=szI a) BU stg 0 rfl g1 rfl fun b9 o9 cs9 hO9 hc9 hr9=>?_)));obtain⟨rfl,-⟩:=hr9;refine ld1 (v:=.int .i64 (szI a)) ct3 hc9.one trivial ?_;(conv=>whnf);try (refine Al.run ?_)
     refine nd stg fun b4 o4 hc4 hO4=>(VC.fa Bt (ld1 (v:=.int .i64 (Ax 3 (i1:Int) (i2:Int)).op) ct3 (hc4 0 _ (Ch _)) trivial ?_));(conv=>whnf);try (refine Al.run ?_)
     (conv=>whnf);rw [w64 (x:=1+szI a) (by unfold szI;omega) (by unfold szI;omega)];refine nd stg fun b5 o5 hc5 hO5=>(VC.fa Dr (ld1 (v:=.int .i64 (i2:Int)) ct3 (hc5 258 _ (Hi _)) trivial (ixO (j:=i2) (x:=szI c) BU stg 0 rfl g2 rfl fun b9 o9 cs9 hO9 hc9 hr9=>?_)));obtain⟨rfl,-⟩:=hr9;refine ld1 (v:=.int .i64 (szI c)) ct3 hc9.one trivial ?_;(conv=>whnf);rw [w64 (x:=1+szI a+szI c) (by unfold szI;omega) (by unfold szI;omega)];rw [show 1+szI a+szI c=((1+szR a.den+szR c.den:Nat):Int) by unfold szI;omega];refine ixE (T:=tPl) (j:=j) BU stg 0 rfl (by rw [AL ws hj];exact hjl) rfl ?_;refine IZ (T:=tPl) (j:=j) (x:=((1+szR a.den+szR c.den:Nat):Int)) stg 0 ct3 rfl rfl (UQ _) (by rw [AL ws hj];exact hjl) rfl (fun _ _=>⟨rfl,BB (by omega)⟩) fun G3 sg3=>?_;(conv=>whnf);try (refine Al.run ?_)
     refine ixO (j:=j) (x:=(((1+szR a.den+szR c.den:Nat):Int):Int)) BU sg3 0 rfl (by exact UO (by rw [AL ws hj];exact hjl)) rfl fun b9 o9 cs9 hO9 hc9 hr9=>?_;obtain⟨rfl,-⟩:=hr9;refine ld1 (v:=.int .i64 ((((1+szR a.den+szR c.den:Nat):Int):Int))) ct3 hc9.one trivial ?_;by_cases hcap:2001<1+szR a.den+szR c.den
     ·have d9:decide (2001<(((1+szR a.den+szR c.den:Nat):Int):Int))=true:=decide_eq_true (by omega);(conv=>whnf);rw [d9];refine ixE (T:=tPl) (j:=j) BU sg3 0 rfl (by rw [UR,AL ws hj];exact hjl) rfl ?_;refine IZ (T:=tPl) (j:=j) (x:=2001) sg3 0 ct3 rfl rfl (UQ _) (by rw [UR,AL ws hj];exact hjl) rfl (fun _ _=>⟨rfl,BB (x:=2001) (by decide)⟩) fun G8 sg8=>?_;(conv=>whnf);rw [w64 (x:=(j:Int)+1) (by omega) (by omega)];refine⟨rfl,j+1,rfl,⟨by omega,?_⟩,by omega⟩;have e:(2001:Int)=szI (.alt a c):=by unfold szI;rw [hsz];omega
      replace sg8:St H G8 [pSz b ds.length (((szL ws j).set j ((1+szR a.den+szR c.den:Nat):Int)).set j 2001)]:=sg8;rw [Vd,e,CK hw]at sg8;exact sg8
     ·have d9:decide (2001<(((1+szR a.den+szR c.den:Nat):Int):Int))=false:=decide_eq_false (by omega);(conv=>whnf);rw [d9];(conv=>whnf);rw [w64 (x:=(j:Int)+1) (by omega) (by omega)];refine⟨rfl,j+1,rfl,⟨by omega,?_⟩,by omega⟩;have e:(((1+szR a.den+szR c.den:Nat):Int):Int)=szI (.alt a c):=by unfold szI;rw [hsz];omega
      have sg8:=sg3;replace sg8:St H _ [pSz b ds.length ((szL ws j).set j ((1+szR a.den+szR c.den:Nat):Int))]:=sg8;rw [e,CK hw]at sg8;exact sg8
   | and_ a c=>
     obtain⟨i1,i2,rfl,hi1,hi2⟩:=hnr;obtain⟨g1,l1⟩:=hlt hi1;obtain⟨g2,l2⟩:=hlt hi2;have za:=E3 a.den;have zc:=E3 c.den;have hsz:szR (RwM.and_ a c).den=min (1+szR a.den+szR c.den) 2001:=Jw .and_ a.den c.den;(conv=>whnf);try (refine Al.run ?_)
     refine nd stg fun b3 o3 hc3 hO3=>(VC.fa BJ (ld1 (v:=.int .i64 (i1:Int)) ct3 (hc3 257 _ (Ea _)) trivial (ixO (j:=i1) (x:=szI a) BU stg 0 rfl g1 rfl fun b9 o9 cs9 hO9 hc9 hr9=>?_)));obtain⟨rfl,-⟩:=hr9;refine ld1 (v:=.int .i64 (szI a)) ct3 hc9.one trivial ?_;(conv=>whnf);try (refine Al.run ?_)
     refine nd stg fun b4 o4 hc4 hO4=>(VC.fa Bt (ld1 (v:=.int .i64 (Ax 5 (i1:Int) (i2:Int)).op) ct3 (hc4 0 _ (Ch _)) trivial ?_));(conv=>whnf);try (refine Al.run ?_)
     (conv=>whnf);rw [w64 (x:=1+szI a) (by unfold szI;omega) (by unfold szI;omega)];refine nd stg fun b5 o5 hc5 hO5=>(VC.fa Dr (ld1 (v:=.int .i64 (i2:Int)) ct3 (hc5 258 _ (Hi _)) trivial (ixO (j:=i2) (x:=szI c) BU stg 0 rfl g2 rfl fun b9 o9 cs9 hO9 hc9 hr9=>?_)));obtain⟨rfl,-⟩:=hr9;refine ld1 (v:=.int .i64 (szI c)) ct3 hc9.one trivial ?_;(conv=>whnf);rw [w64 (x:=1+szI a+szI c) (by unfold szI;omega) (by unfold szI;omega)];rw [show 1+szI a+szI c=((1+szR a.den+szR c.den:Nat):Int) by unfold szI;omega];refine ixE (T:=tPl) (j:=j) BU stg 0 rfl (by rw [AL ws hj];exact hjl) rfl ?_;refine IZ (T:=tPl) (j:=j) (x:=((1+szR a.den+szR c.den:Nat):Int)) stg 0 ct3 rfl rfl (UQ _) (by rw [AL ws hj];exact hjl) rfl (fun _ _=>⟨rfl,BB (by omega)⟩) fun G3 sg3=>?_;(conv=>whnf);try (refine Al.run ?_)
     refine ixO (j:=j) (x:=(((1+szR a.den+szR c.den:Nat):Int):Int)) BU sg3 0 rfl (by exact UO (by rw [AL ws hj];exact hjl)) rfl fun b9 o9 cs9 hO9 hc9 hr9=>?_;obtain⟨rfl,-⟩:=hr9;refine ld1 (v:=.int .i64 ((((1+szR a.den+szR c.den:Nat):Int):Int))) ct3 hc9.one trivial ?_;by_cases hcap:2001<1+szR a.den+szR c.den
     ·have d9:decide (2001<(((1+szR a.den+szR c.den:Nat):Int):Int))=true:=decide_eq_true (by omega);(conv=>whnf);rw [d9];refine ixE (T:=tPl) (j:=j) BU sg3 0 rfl (by rw [UR,AL ws hj];exact hjl) rfl ?_;refine IZ (T:=tPl) (j:=j) (x:=2001) sg3 0 ct3 rfl rfl (UQ _) (by rw [UR,AL ws hj];exact hjl) rfl (fun _ _=>⟨rfl,BB (x:=2001) (by decide)⟩) fun G8 sg8=>?_;(conv=>whnf);rw [w64 (x:=(j:Int)+1) (by omega) (by omega)];refine⟨rfl,j+1,rfl,⟨by omega,?_⟩,by omega⟩;have e:(2001:Int)=szI (.and_ a c):=by unfold szI;rw [hsz];omega
      replace sg8:St H G8 [pSz b ds.length (((szL ws j).set j ((1+szR a.den+szR c.den:Nat):Int)).set j 2001)]:=sg8;rw [Vd,e,CK hw]at sg8;exact sg8
     ·have d9:decide (2001<(((1+szR a.den+szR c.den:Nat):Int):Int))=false:=decide_eq_false (by omega);(conv=>whnf);rw [d9];(conv=>whnf);rw [w64 (x:=(j:Int)+1) (by omega) (by omega)];refine⟨rfl,j+1,rfl,⟨by omega,?_⟩,by omega⟩;have e:(((1+szR a.den+szR c.den:Nat):Int):Int)=szI (.and_ a c):=by unfold szI;rw [hsz];omega
      have sg8:=sg3;replace sg8:St H _ [pSz b ds.length ((szL ws j).set j ((1+szR a.den+szR c.den:Nat):Int))]:=sg8;rw [e,CK hw]at sg8;exact sg8
   | minus a c=>
     obtain⟨i1,i2,rfl,hi1,hi2⟩:=hnr;obtain⟨g1,l1⟩:=hlt hi1;obtain⟨g2,l2⟩:=hlt hi2;have za:=E3 a.den;have zc:=E3 c.den;have hsz:szR (RwM.minus a c).den=min (1+szR a.den+szR c.den) 2001:=Jw .minus a.den c.den;(conv=>whnf);try (refine Al.run ?_)
     refine nd stg fun b3 o3 hc3 hO3=>(VC.fa BJ (ld1 (v:=.int .i64 (i1:Int)) ct3 (hc3 257 _ (Ea _)) trivial (ixO (j:=i1) (x:=szI a) BU stg 0 rfl g1 rfl fun b9 o9 cs9 hO9 hc9 hr9=>?_)));obtain⟨rfl,-⟩:=hr9;refine ld1 (v:=.int .i64 (szI a)) ct3 hc9.one trivial ?_;(conv=>whnf);try (refine Al.run ?_)
     refine nd stg fun b4 o4 hc4 hO4=>(VC.fa Bt (ld1 (v:=.int .i64 (Ax 6 (i1:Int) (i2:Int)).op) ct3 (hc4 0 _ (Ch _)) trivial ?_));(conv=>whnf);try (refine Al.run ?_)
     (conv=>whnf);rw [w64 (x:=1+szI a) (by unfold szI;omega) (by unfold szI;omega)];refine nd stg fun b5 o5 hc5 hO5=>(VC.fa Dr (ld1 (v:=.int .i64 (i2:Int)) ct3 (hc5 258 _ (Hi _)) trivial (ixO (j:=i2) (x:=szI c) BU stg 0 rfl g2 rfl fun b9 o9 cs9 hO9 hc9 hr9=>?_)));obtain⟨rfl,-⟩:=hr9;refine ld1 (v:=.int .i64 (szI c)) ct3 hc9.one trivial ?_;(conv=>whnf);rw [w64 (x:=1+szI a+szI c) (by unfold szI;omega) (by unfold szI;omega)];rw [show 1+szI a+szI c=((1+szR a.den+szR c.den:Nat):Int) by unfold szI;omega];refine ixE (T:=tPl) (j:=j) BU stg 0 rfl (by rw [AL ws hj];exact hjl) rfl ?_;refine IZ (T:=tPl) (j:=j) (x:=((1+szR a.den+szR c.den:Nat):Int)) stg 0 ct3 rfl rfl (UQ _) (by rw [AL ws hj];exact hjl) rfl (fun _ _=>⟨rfl,BB (by omega)⟩) fun G3 sg3=>?_;(conv=>whnf);try (refine Al.run ?_)
     refine ixO (j:=j) (x:=(((1+szR a.den+szR c.den:Nat):Int):Int)) BU sg3 0 rfl (by exact UO (by rw [AL ws hj];exact hjl)) rfl fun b9 o9 cs9 hO9 hc9 hr9=>?_;obtain⟨rfl,-⟩:=hr9;refine ld1 (v:=.int .i64 ((((1+szR a.den+szR c.den:Nat):Int):Int))) ct3 hc9.one trivial ?_;by_cases hcap:2001<1+szR a.den+szR c.den
     ·have d9:decide (2001<(((1+szR a.den+szR c.den:Nat):Int):Int))=true:=decide_eq_true (by omega);(conv=>whnf);rw [d9];refine ixE (T:=tPl) (j:=j) BU sg3 0 rfl (by rw [UR,AL ws hj];exact hjl) rfl ?_;refine IZ (T:=tPl) (j:=j) (x:=2001) sg3 0 ct3 rfl rfl (UQ _) (by rw [UR,AL ws hj];exact hjl) rfl (fun _ _=>⟨rfl,BB (x:=2001) (by decide)⟩) fun G8 sg8=>?_;(conv=>whnf);rw [w64 (x:=(j:Int)+1) (by omega) (by omega)];refine⟨rfl,j+1,rfl,⟨by omega,?_⟩,by omega⟩;have e:(2001:Int)=szI (.minus a c):=by unfold szI;rw [hsz];omega
      replace sg8:St H G8 [pSz b ds.length (((szL ws j).set j ((1+szR a.den+szR c.den:Nat):Int)).set j 2001)]:=sg8;rw [Vd,e,CK hw]at sg8;exact sg8
     ·have d9:decide (2001<(((1+szR a.den+szR c.den:Nat):Int):Int))=false:=decide_eq_false (by omega);(conv=>whnf);rw [d9];(conv=>whnf);rw [w64 (x:=(j:Int)+1) (by omega) (by omega)];refine⟨rfl,j+1,rfl,⟨by omega,?_⟩,by omega⟩;have e:(((1+szR a.den+szR c.den:Nat):Int):Int)=szI (.minus a c):=by unfold szI;rw [hsz];omega
      have sg8:=sg3;replace sg8:St H _ [pSz b ds.length ((szL ws j).set j ((1+szR a.den+szR c.den:Nat):Int))]:=sg8;rw [e,CK hw]at sg8;exact sg8
   | rep a m n=>
     obtain⟨i1,rfl,hi1,hrk⟩:=hnr;obtain⟨g1,l1⟩:=hlt hi1;have za:=E3 a.den;have hmn:0≤n→((AD m:Nat):Int)≤n:=by intro h0;unfold AD;rcases hrk with h | h<;>split<;>omega
     have hsz:szR (RwM.rep a m n).den=min (ED (szR a.den) (AD m) n) 2001:=RQ a.den (AD m) n hmn;have hrl:=RJ za hrk;(conv=>whnf);try (refine Al.run ?_)
     refine nd stg fun b3 o3 hc3 hO3=>(VC.fa BJ (ld1 (v:=.int .i64 (i1:Int)) ct3 (hc3 257 _ (Ea _)) trivial (ixO (j:=i1) (x:=szI a) BU stg 0 rfl g1 rfl fun b9 o9 cs9 hO9 hc9 hr9=>?_)));obtain⟨rfl,-⟩:=hr9;refine ld1 (v:=.int .i64 (szI a)) ct3 hc9.one trivial ?_;(conv=>whnf);try (refine Al.run ?_)
     refine nd stg fun b4 o4 hc4 hO4=>(VC.fa Bt (ld1 (v:=.int .i64 (B8 (i1:Int) m n).op) ct3 (hc4 0 _ (Ch _)) trivial ?_));(conv=>whnf);try (refine Al.run ?_)
     refine As.heldZ (Old G) [15] (sq [0,1,2,3,4,5,6,7,8,9,10,11,12] (.f 13 (sq [14] (.f 15 .e)))) rfl (by kernel_rfl) (nd stg fun b5 o5 hc5 hO5=>(VC.fa PY (ld1 (v:=.int .i64 m) ct3 (hc5 259 _ (Ui _)) hO5 (nd stg fun b6 o6 hc6 hO6=>(VC.fa Gv (ld1 (v:=.int .i64 n) ct3 (hc6 260 _ (M5 _)) hO6 (Af (RT (c:=szR a.den) za hrk G) fun G7 ha7=>?_)))))));have sg7:=stg.call ha7;refine⟨ha7,?_⟩;refine ixE (T:=tPl) (j:=j) BU sg7 0 rfl (by rw [AL ws hj];exact hjl) rfl ?_;refine IZ (T:=tPl) (j:=j) (x:=((ED (szR a.den) (AD m) n:Nat):Int)) sg7 0 ct3 rfl rfl (UQ _) (by rw [AL ws hj];exact hjl) rfl (fun _ _=>⟨rfl,BB (by omega)⟩) fun G3 sg3=>?_;(conv=>whnf);try (refine Al.run ?_)
     refine ixO (j:=j) (x:=(((ED (szR a.den) (AD m) n:Nat):Int):Int)) BU sg3 0 rfl (by exact UO (by rw [AL ws hj];exact hjl)) rfl fun b9 o9 cs9 hO9 hc9 hr9=>?_;obtain⟨rfl,-⟩:=hr9;refine ld1 (v:=.int .i64 ((((ED (szR a.den) (AD m) n:Nat):Int):Int))) ct3 hc9.one trivial ?_;by_cases hcap:2001<ED (szR a.den) (AD m) n
     ·have d9:decide (2001<(((ED (szR a.den) (AD m) n:Nat):Int):Int))=true:=decide_eq_true (by omega);(conv=>whnf);rw [d9];refine ixE (T:=tPl) (j:=j) BU sg3 0 rfl (by rw [UR,AL ws hj];exact hjl) rfl ?_;refine IZ (T:=tPl) (j:=j) (x:=2001) sg3 0 ct3 rfl rfl (UQ _) (by rw [UR,AL ws hj];exact hjl) rfl (fun _ _=>⟨rfl,BB (x:=2001) (by decide)⟩) fun G8 sg8=>?_;(conv=>whnf);rw [w64 (x:=(j:Int)+1) (by omega) (by omega)];refine⟨rfl,j+1,rfl,⟨by omega,?_⟩,by omega⟩;have e:(2001:Int)=szI (.rep a m n):=by unfold szI;rw [hsz];omega
      replace sg8:St H G8 [pSz b ds.length (((szL ws j).set j ((ED (szR a.den) (AD m) n:Nat):Int)).set j 2001)]:=sg8;rw [Vd,e,CK hw]at sg8;exact sg8
     ·have d9:decide (2001<(((ED (szR a.den) (AD m) n:Nat):Int):Int))=false:=decide_eq_false (by omega);(conv=>whnf);rw [d9];(conv=>whnf);rw [w64 (x:=(j:Int)+1) (by omega) (by omega)];refine⟨rfl,j+1,rfl,⟨by omega,?_⟩,by omega⟩;have e:(((ED (szR a.den) (AD m) n:Nat):Int):Int)=szI (.rep a m n):=by unfold szI;rw [hsz];omega
      have sg8:=sg3;replace sg8:St H _ [pSz b ds.length ((szL ws j).set j ((ED (szR a.den) (AD m) n:Nat):Int))]:=sg8;rw [e,CK hw]at sg8;exact sg8
  ·obtain rfl:j=ws.length:=by omega
   (conv=>whnf);exact⟨b,rfl,stg⟩
abbrev reP(bb:Nat)(a:Option Addr)(c:Nat)(ns:List RnM)(root:Int)(rest:List Pc):List Pc:=pB tRe bb (reL (.slice a ns.length c) root)::pS tRn 94 a ns.length c ns::rest
section
variable{B:Nat→Prop}{H0 H:Aa}{bb c:Nat}{a:Option Addr}{ns:List RnM}{root:Int}{rest:List Pc}
theorem Ev{op x y:Int}(st:StB B H0 H (reP bb a c ns root rest))(h1:A9 op)(h2:A9 x)(h3:A9 y)(hl:ns.length≤16777216):
  Ao Tryz.prog 59 #[.pointer (some ⟨bb,0,none⟩),.int .i64 op,.int .i64 x,.int .i64 y] H
   (fun v H'=>v= .int .i64 (ns.length:Int)∧∃a' c',StB B H0 H' (reP bb a' c' (ns++[Ax op x y]) root rest)):=by
 refine Ao.of_vc Tryz.func59 rfl (Tryz.call59 _) (VC.fa Cm ?_);refine ld1 (v:=.slice a ns.length c) C0 (by rw [(st.blk 0 rfl).cell];rfl) trivial ?_;refine KE op x y (AM CU (rnL (Ax op x y)) rfl (Aq _) (by decide) (by decide) ?_);intro z H1 hz hs1 hb1 ha1;have st1:=st.skip hz ha1;refine Hp (ys:=[Ax op x y]) st1 1 CU rfl (hb1.cells (o:=0) (cs:=rnL (Ax op x y)) fun j v hv=>by rw [UM];exact hv) (Ty.reps_one ⟨rfl,PE h1 h2 h3⟩) rfl (fun u hu=>Vh.1 (Br _) u hu) (by simp [maxLen];omega) (by simp;omega) fun a9 c9 H9 st9 ha9=>?_;have el:ns.length+[Ax op x y].length=(ns++[Ax op x y]).length:=by simp
 rw [el]at st9 ⊢;refine VC.fa Cm (AG st9 0 C0 rfl (show 0<2 by decide) rfl fun H10 st10=>(VC.fa Cm ?_));refine ld1 (v:=.slice a9 (ns++[Ax op x y]).length c9) C0 (by rw [(st10.blk 0 rfl).cell];rfl) trivial ?_;have w1:IntKind.wrap .i64 (((ns++[Ax op x y]).length:Int) - 1)=(ns.length:Int):=by
  rw [UL,UN,w64 (by omega) (by omega)];omega
 (conv=>whnf);rw [w1];(conv=>whnf);exact⟨rfl,a9,c9,st10⟩
def OC(r:ReM)(ms:List RnM):Prop:=r.plain=true→∀d∈ms,d.op≠5∧d.op≠6
structure GrP(B:Nat→Prop)(H0:Aa)(bb:Nat)(root:Int)(rest:List Pc)(ns:List RnM)(r:ReM)(v:Value)(H':Aa):Prop where
 ex:∃(ms:List RnM) (a':Option Addr) (c':Nat),ms.length=r.nodes∧OC r ms∧v= .int .i64 ((ns.length+ms.length - 1:Nat):Int)∧Bc (ns++ms) r (ns.length+ms.length - 1)∧StB B H0 H' (reP bb a' c' (ns++ms) root rest)
def MW(w:RwM):Prop:=∀(B:Nat→Prop) (H0 H:Aa) (bb c:Nat) (a:Option Addr) (ns:List RnM) (root:Int) (rest:List Pc) (na:Option Addr) (nc i:Nat) (ds:List RnM) (ws:List RwM),Raw ds ws→SlD tRn B H0 na nc ds→(∀k,B k→k<H0.size)→ws[i]? =some w→
 ns.length+w.den.nodes≤4194304→StB B H0 H (reP bb a c ns root rest)→
 Ao Tryz.prog 36 #[.slice na ds.length nc,.int .i64 (i:Int),.pointer (some ⟨bb,0,none⟩)] H (GrP B H0 bb root rest ns w.den)
theorem AW(r:ReM):1≤r.nodes:=by cases r<;>simp [ReM.nodes]<;>omega
theorem Jn{α:Type}(l:List α)(x:α):(l++[x])[l.length]? =some x:=by simp
theorem Bq{n:Nat}(h:n≤4194304):A9 (n:Int):=by unfold A9;omega
theorem JL{w:RwM}(IH:MW w){na:Option Addr}{nc i:Nat}{ds:List RnM}{ws:List RwM}(hR:Raw ds ws)(hd:SlD tRn B H0 na nc ds)(hB:∀k,B k→k<H0.size)(hw:ws[i]? =some w)(hl:ns.length+w.den.nodes+2≤4194304)(st:StB B H0 H (reP bb a c ns root rest)):
  Ao Tryz.prog 86 #[.slice na ds.length nc,.int .i64 (i:Int),.pointer (some ⟨bb,0,none⟩)] H (GrP B H0 bb root rest ns (AV w.den)):=by
 refine Ao.of_vc Tryz.func86 rfl (Tryz.call86 _) (Ai.mk (IH B H0 H bb c a ns root rest na nc i ds ws hR hd hB hw (by omega) st) ?_);rintro _ H1 ⟨ms,a1,c1,hm,hsg,rfl,ht,st1⟩;have hp:=AW w.den;refine Ai.mk (Ev (op:=0) (x:=0) (y:=0) st1 (by unfold A9;omega) (by unfold A9;omega) (by unfold A9;omega) (by simp;omega)) ?_;rintro _ H2 ⟨rfl,a2,c2,st2⟩;refine Ai.mk (Ev (op:=3) (x:=((ns.length+ms.length - 1:Nat):Int)) (y:=((ns++ms).length:Int)) st2 (by unfold A9;omega) (Bq (by omega)) (Bq (by simp;omega)) (by simp;omega)) ?_;rintro _ H3 ⟨rfl,a3,c3,st3⟩;(conv=>whnf);refine⟨ms++[Ax 0 0 0]++[Ax 3 ((ns.length+ms.length - 1:Nat):Int) ((ns++ms).length:Int)],a3,c3,?_,?_,?_,?_,?_⟩
 ·simp [AV,ReM.nodes,hm];omega
 ·intro hp d hd;have hp1:w.den.plain=true:=by simpa [AV,ReM.plain]using hp
  simp only [Vj,UU]at hd;rcases hd with(hd | rfl) | rfl
  ·exact hsg hp1 d hd
  ·exact⟨show(0:Int)≠5 by decide,show(0:Int)≠6 by decide⟩
  ·exact⟨show(3:Int)≠5 by decide,show(3:Int)≠6 by decide⟩
 ·congr 1;simp only [UL,UN];omega
 ·have e:ns++(ms++[Ax 0 0 0]++[Ax 3 ((ns.length+ms.length - 1:Nat):Int) ((ns++ms).length:Int)])=((ns++ms)++[Ax 0 0 0])++[Ax 3 ((ns.length+ms.length - 1:Nat):Int) ((ns++ms).length:Int)]:=by simp [Va]
  rw [e];refine⟨Ax 3 ((ns.length+ms.length - 1:Nat):Int) ((ns++ms).length:Int),ns.length+ms.length - 1,(ns++ms).length,?_,rfl,rfl,rfl,ht.more.more,⟨Ax 0 0 0,F2 (Jn _ _),rfl⟩⟩;have:=Jn ((ns++ms)++[Ax 0 0 0]) (Ax 3 ((ns.length+ms.length - 1:Nat):Int) ((ns++ms).length:Int));rw [show ns.length+(ms++[Ax 0 0 0]++[Ax 3 ((ns.length+ms.length - 1:Nat):Int) ((ns++ms).length:Int)]).length - 1=((ns++ms)++[Ax 0 0 0]).length by simp only [UL,UN];omega];exact this
 ·have e:ns++(ms++[Ax 0 0 0]++[Ax 3 ((ns.length+ms.length - 1:Nat):Int) ((ns++ms).length:Int)])=((ns++ms)++[Ax 0 0 0])++[Ax 3 ((ns.length+ms.length - 1:Nat):Int) ((ns++ms).length:Int)]:=by simp [Va]
  rw [e];exact st3
end
def rO(r:ReM)(m k:Nat):ReM:=(B9 r m k).getD .eps
theorem I7(r:ReM)(m:Nat):rO r m 1=if 0<m then r else AV r:=rfl
theorem FU(r:ReM)(m k:Nat)(h:1≤k):rO r m (k+1)= .cat (rO r m k) (if k<m then r else AV r):=CM r m k h
theorem L8(r:ReM)(m:Nat){k:Nat}(h:1≤k):∀j,(rO r m k).nodes≤(rO r m (k+j)).nodes
 | 0=>Vp _
 | j+1=>by
   have ih:=L8 r m h j;have e:(rO r m (k+(j+1))).nodes=1+(rO r m (k+j)).nodes+(if k+j<m then r else AV r).nodes:=by
    rw [show k+(j+1)=(k+j)+1 by omega,FU r m (k+j) (by omega)];rfl
   omega
section
variable{B:Nat→Prop}{H0 H:Aa}{bb c:Nat}{a:Option Addr}{ns:List RnM}{root:Int}{rest:List Pc}
structure UnI(B:Nat→Prop)(H0:Aa)(bb:Nat)(root:Int)(rest:List Pc)(ns:List RnM)(r:ReM)(m k:Nat)(out:Int)(G:Aa):Prop where
 ex:∃(ms:List RnM) (a:Option Addr) (c:Nat),(k=0→ms=[]∧out= -1)∧(0<k→ms.length=(rO r m k).nodes∧OC (rO r m k) ms∧out=((ns.length+ms.length - 1:Nat):Int)∧Bc (ns++ms) (rO r m k) (ns.length+ms.length - 1))∧StB B H0 G (reP bb a c (ns++ms) root rest)
theorem Eg{r1 r2:ReM}{ms1 ms2:List RnM}{op:Int}{R:ReM}{G:Aa}{a':Option Addr}{c':Nat}(h1:ms1.length=r1.nodes)(n1:OC r1 ms1)(h2:ms2.length=r2.nodes)(n2:OC r2 ms2)(hg:R.plain=true→r1.plain=true∧r2.plain=true∧op≠5∧op≠6)
  (hR:R.nodes=1+r1.nodes+r2.nodes)
  (hT:∀ns' d j k,ns'[ns.length+(ms1++ms2++[d]).length - 1]? =some d→d=Ax op ((j:Nat):Int) ((k:Nat):Int)→Bc ns' r1 j→Bc ns' r2 k→Bc ns' R (ns.length+(ms1++ms2++[d]).length - 1))
  (t1:Bc (ns++ms1) r1 (ns.length+ms1.length - 1)) (t2:Bc (ns++ms1++ms2) r2 ((ns++ms1).length+ms2.length - 1))
  (st:StB B H0 G (reP bb a' c' (ns++ms1++ms2++[Ax op ((ns.length+ms1.length - 1:Nat):Int) (((ns++ms1).length+ms2.length - 1:Nat):Int)]) root rest)):
  GrP B H0 bb root rest ns R (.int .i64 ((ns++ms1++ms2).length:Int)) G:=by
 have p1:=AW r1;have p2:=AW r2;obtain⟨d,hd⟩:∃d,d=Ax op ((ns.length+ms1.length - 1:Nat):Int) (((ns++ms1).length+ms2.length - 1:Nat):Int):=⟨_,rfl⟩;rw [←hd]at st;have e:ns++(ms1++ms2++[d])=ns++ms1++ms2++[d]:=by simp [Va]
 refine⟨ms1++ms2++[d],a',c',?_,?_,?_,?_,?_⟩
 ·simp only [UL,UN,h1,h2];omega
 ·intro hp x hx;obtain⟨k1,k2,k3,k4⟩:=hg hp;simp only [Vj,UU]at hx;rcases hx with(hx | hx) | hx
  ·exact n1 k1 x hx
  ·exact n2 k2 x hx
  ·rw [hx,hd];exact⟨k3,k4⟩
 ·congr 1;simp only [UL,UN];omega
 ·rw [e];refine hT _ d _ _ ?_ hd t1.more.more t2.more;rw [show ns.length+(ms1++ms2++[d]).length - 1=(ns++ms1++ms2).length by simp only [UL,UN];omega];exact Jn _ _
 ·rw [e];exact st
theorem JG{r1:ReM}{ms1:List RnM}{G:Aa}{a':Option Addr}{c':Nat}(h1:ms1.length=r1.nodes)(n1:OC r1 ms1)(t1:Bc (ns++ms1) r1 (ns.length+ms1.length - 1))
  (st:StB B H0 G (reP bb a' c' (ns++ms1++[Ax 4 ((ns.length+ms1.length - 1:Nat):Int) 0]) root rest)):
  GrP B H0 bb root rest ns (.star r1) (.int .i64 ((ns++ms1).length:Int)) G:=by
 have p1:=AW r1;have e:ns++(ms1++[Ax 4 ((ns.length+ms1.length - 1:Nat):Int) 0])=ns++ms1++[Ax 4 ((ns.length+ms1.length - 1:Nat):Int) 0]:=by simp [Va]
 refine⟨ms1++[Ax 4 ((ns.length+ms1.length - 1:Nat):Int) 0],a',c',?_,?_,?_,?_,?_⟩
 ·simp only [UL,UN,h1,ReM.nodes];omega
 ·intro hp x hx;simp only [Vj,UU]at hx;rcases hx with hx | rfl
  ·exact n1 hp x hx
  ·exact⟨show(4:Int)≠5 by decide,show(4:Int)≠6 by decide⟩
 ·congr 1;simp only [UL,UN];omega
 ·rw [e];refine⟨Ax 4 ((ns.length+ms1.length - 1:Nat):Int) 0,ns.length+ms1.length - 1,?_,rfl,rfl,t1.more⟩;rw [show ns.length+(ms1++[Ax 4 ((ns.length+ms1.length - 1:Nat):Int) 0]).length - 1=(ns++ms1).length by simp only [UL,UN];omega];exact Jn _ _
 ·rw [e];exact st
theorem Oj{G:Aa}{a':Option Addr}{c':Nat}(st:StB B H0 G (reP bb a' c' (ns++[Ax 0 0 0]) root rest)):GrP B H0 bb root rest ns .eps (.int .i64 (ns.length:Int)) G:=
 ⟨[Ax 0 0 0],a',c',rfl,fun _ x hx=>by rcases UU.1 hx with rfl;exact⟨show(0:Int)≠5 by decide,show(0:Int)≠6 by decide⟩,by simp,⟨Ax 0 0 0,by simp,rfl⟩,st⟩
theorem GrP.drop{ms:List Pc}{r:ReM}{v:Value}{G:Aa}(h:GrP B H0 bb root (rest++ms) ns r v G):GrP B H0 bb root rest ns r v G:=by
 obtain⟨ms1,a1,c1,h1,hs,h2,h3,st⟩:=h;exact⟨ms1,a1,c1,h1,hs,h2,h3,st.subl (List.Sublist.cons_cons _ (List.Sublist.cons_cons _ (List.sublist_append_left _ _)))⟩
theorem QN{w:RwM}(IH:MW w){na:Option Addr}{nc i:Nat}{ds:List RnM}{ws:List RwM}{m n:Int}(hR:Raw ds ws)(hd:SlD tRn B H0 na nc ds)(hB:∀k,B k→k<H0.size)(hw:ws[i]? =some w)(hrk:NL m n)(hl:ns.length+(BG w.den (AD m) n).nodes≤4194304)(st:StB B H0 H (reP bb a c ns root rest)):
  Ao Tryz.prog 58 #[.slice na ds.length nc,.agg (rnL (B8 (i:Int) m n)).toArray,.pointer (some ⟨bb,0,none⟩)] H (GrP B H0 bb root rest ns (BG w.den (AD m) n)):=by
 have hmx:AD m≤255:=by unfold AD;split<;>rcases hrk with h | h<;>omega
 have hnx1:n≤255:=by rcases hrk with h | h<;>omega
 have hnx2: -1≤n:=by rcases hrk with h | h<;>omega
 have hmn:0≤n→((AD m:Nat):Int)≤n:=by intro h0;unfold AD;rcases hrk with h | h<;>split<;>omega
 have hpos:=AW w.den;refine Ao.of_vc Tryz.func58 rfl (Tryz.call58 _) (BM (rnL (B8 (i:Int) m n)) rfl ?_);intro x H1 hx hs1 hb1 ha1;have st1:=st.box hx hs1 hb1 ha1;replace st1:StB B H0 H1 (reP bb a c ns root (rest++[pB 94 x (rnL (B8 (i:Int) m n))])):=st1;refine VC.fa PY ?_;refine ld1 (v:=.int .i64 m) ct3 (by rw [(st1.blk _ (lgR (_::_::rest) _ 0)).cell,UM];exact Ui _) trivial ?_;(conv=>whnf);refine Al.cut [7] (fun _:Unit=>[.int .i64 ((AD m:Nat):Int)]) (fun _ G=>StB B H0 G (reP bb a c ns root (rest++[pB 94 x (rnL (B8 (i:Int) m n))]))) ?_ ?_
 ·by_cases h2:m= -2
  ·subst h2;(conv=>whnf);exact⟨rfl,(),rfl,st1⟩
  ·have d1:(m== -2)=false:=beq_eq_false_iff_ne.2 h2;(conv=>whnf);rw [d1];(conv=>whnf);refine⟨rfl,(),?_,st1⟩;have:((AD m:Nat):Int)=m:=by
    unfold AD;rw [if_neg h2];have:0≤m:=by rcases hrk with h | h<;>omega
    omega
   rw [this]
 rintro⟨⟩ G junk sg;clear st st1 hb1 ha1;refine VC.fa Gv ?_;refine ld1 (v:=.int .i64 n) ct3 (by rw [(sg.blk _ (lgR (_::_::rest) _ 0)).cell,UM];exact M5 _) trivial ?_;(conv=>whnf);by_cases h1:n<0
 ·have d1:decide (n<0)=true:=decide_eq_true h1;rw [d1];by_cases h0:AD m=0
  ·have hrep:BG w.den (AD m) n= .star w.den:=by unfold BG;rw [if_pos h1,if_pos h0]
   rw [hrep]at hl ⊢;simp only [ReM.nodes]at hl;have d2:(((AD m:Nat):Int)==0)=true:=by rw [h0];rfl
   (conv=>whnf);rw [d2];refine VC.fa BJ ?_;refine ld1 (v:=.int .i64 (i:Int)) ct3 (by rw [(sg.blk _ (lgR (_::_::rest) _ 0)).cell,UM];exact Ea _) trivial ?_;refine Ai.mk (IH B H0 _ bb _ _ (ns) root (rest++[pB 94 x (rnL (B8 (i:Int) m n))]) na nc i ds ws hR hd hB hw (by omega) sg) ?_;rintro _ G1 ⟨ms1,a1,c1,hm1,hs1,rfl,ht1,sg1⟩;refine Ai.mk (Ev (op:=4) (x:=((ns.length+ms1.length - 1:Nat):Int)) (y:=0) sg1 (by unfold A9;omega) (Bq (by omega)) (by unfold A9;omega) (by simp;omega)) ?_;rintro _ G2 ⟨rfl,a2,c2,sg2⟩;(conv=>whnf);exact(JG hm1 hs1 ht1 sg2).drop
  ·have d2:(((AD m:Nat):Int)==0)=false:=beq_eq_false_iff_ne.2 (by omega);(conv=>whnf);rw [d2];have hns:¬(n<0∧AD m=0):=fun h=>h0 h.2;clear d1 d2;refine VC.fa Gv ?_;refine ld1 (v:=.int .i64 n) ct3 (by rw [(sg.blk _ (lgR (_::_::rest) _ 0)).cell,UM];exact M5 _) trivial ?_;(conv=>whnf);by_cases h0:n=0
   ·have d1:(n==0)=true:=by rw [h0];rfl
    have hrep:BG w.den (AD m) n= .eps:=by unfold BG;rw [if_neg (by omega),if_pos h0]
    rw [hrep]at hl ⊢;simp only [ReM.nodes]at hl;rw [d1];refine Ai.mk (Ev (op:=0) (x:=0) (y:=0) sg (by unfold A9;omega) (by unfold A9;omega) (by unfold A9;omega) (by omega)) ?_;rintro _ G3 ⟨rfl,a2,c2,sg3⟩;(conv=>whnf);exact(Oj sg3).drop
   ·have d1:(n==0)=false:=beq_eq_false_iff_ne.2 h0;rw [d1];have hn0:n≠0:=h0;have sg3:=sg;clear sg;obtain⟨K,hK⟩:∃K:Nat,K=if n<0 then AD m else n.toNat:=⟨_,rfl⟩
    have hK1:1≤K:=by rw [hK];split<;>omega
    have hKb:K≤255:=by rw [hK];split<;>omega
    have hKO:(rO w.den (AD m) K).nodes≤(BG w.den (AD m) n).nodes:=by
     unfold BG;by_cases h1:n<0
     ·rw [if_pos h1,if_neg (by omega),hK,if_pos h1];show _≤1+((B9 w.den (AD m) (AD m)).getD .eps).nodes+_;unfold rO;omega
     ·rw [if_neg h1,if_neg hn0,hK,if_neg h1];exact Vp _
    refine VC.fa Gv ?_;refine ld1 (v:=.int .i64 n) ct3 (by rw [(sg3.blk _ (lgR (_::_::rest) _ 0)).cell,UM];exact M5 _) trivial ?_;(conv=>whnf);refine Al.cut [8] (fun _:Unit=>[.int .i64 (K:Int)]) (fun _ G=>StB B H0 G (reP bb a c ns root (rest++[pB 94 x (rnL (B8 (i:Int) m n))]))) ?_ ?_
    ·(conv=>whnf);by_cases h1:n<0
     ·have d1:decide (n<0)=true:=decide_eq_true h1;rw [d1];(conv=>whnf);exact⟨rfl,(),by rw [hK,if_pos h1],sg3⟩
     ·have d1:decide (n<0)=false:=decide_eq_false h1;rw [d1];(conv=>whnf);exact⟨rfl,(),by rw [hK,if_neg h1,Vl (by omega)],sg3⟩
    rintro⟨⟩ G4 junk4 sg4;clear sg3;(conv=>whnf);refine AH.mk [9,10] (fun y:Nat×Int=>match y with | (k,out)=>[.int .i64 out,.int .i64 (k:Int)]) (fun y G=>match y with | (k,out)=>k≤K∧UnI B H0 bb root (rest++[pB 94 x (rnL (B8 (i:Int) m n))]) ns w.den (AD m) k out G) (fun y _=>match y with | (k,_)=>K - k) ?_ ?_
    ·(conv=>whnf);exact⟨(0,-1),rfl,Vo _,⟨[],_,_,fun _=>⟨rfl,rfl⟩,fun h=>absurd h (by decide),by simpa using sg4⟩⟩
    ·rintro⟨k,out⟩ G junk5 ⟨hk,⟨ms,a1,c1,hz0,hz1,sg⟩⟩;clear sg4;have hnext:k<K→(rO w.den (AD m) (k+1)).nodes≤(BG w.den (AD m) n).nodes:=fun h=>by
      have:=L8 w.den (AD m) (k:=k+1) (by omega) (K - (k+1));rw [show k+1+(K - (k+1))=K by omega]at this;omega
     have hpart:k<K→(ns++ms).length+(if k<AD m then w.den else AV w.den).nodes≤4194304:=fun h=>by
      have h1:=hnext h;by_cases hk0:k=0
      ·obtain⟨rfl,-⟩:=hz0 hk0;subst hk0;rw [I7]at h1;simp only [UV];omega
      ·obtain⟨hm1,-,-,-⟩:=hz1 (by omega);rw [FU _ _ _ (by omega)]at h1;simp only [ReM.nodes]at h1;simp only [UL];omega
     refine AQ.mk (fun hz=>?_) (fun hz=>?_)<;>simp only [decide_eq_true_eq,decide_eq_false_iff_not]at hz
     ·have hkK:k<K:=by omega
      replace hnext:=hnext hkK;replace hpart:=hpart hkK;(conv=>whnf);try (refine Al.run ?_)
      (conv=>whnf);try (refine Al.run ?_)
      (conv=>whnf);by_cases hkm:k<AD m
      ·have d1:decide ((k:Int)<((AD m:Nat):Int))=true:=decide_eq_true (by omega);rw [if_pos hkm]at hpart;rw [d1];refine VC.fa BJ ?_;refine ld1 (v:=.int .i64 (i:Int)) ct3 (by rw [(sg.blk _ (lgR (_::_::rest) _ 0)).cell,UM];exact Ea _) trivial ?_;refine Ai.mk (IH B H0 _ bb _ _ (ns++ms) root (rest++[pB 94 x (rnL (B8 (i:Int) m n))]) na nc i ds ws hR hd hB hw (by omega) sg) ?_;rintro _ G1 ⟨ms2,a2,c2,hm2,hs2,rfl,ht2,st2⟩;have p2:=AW (w.den);(conv=>whnf);try (refine Al.run ?_)
       (conv=>whnf);by_cases hk0:k=0
       ·obtain⟨rfl,rfl⟩:=hz0 hk0;subst hk0;(conv=>whnf);rw [w64 (x:=((0:Nat):Int)+1) (by omega) (by omega)];have e1:rO w.den (AD m) 1=w.den:=by rw [I7];exact if_pos hkm
        refine⟨rfl,(1,_),rfl,⟨by omega,⟨ms2,a2,c2,fun h=>absurd h (by decide),fun _=>?_,by simpa using st2⟩⟩,by show K - 1<K - 0;omega⟩;rw [e1];simp only [UV]at ht2;exact⟨hm2,hs2,by simp,ht2⟩
       ·obtain⟨hm1,hs1,rfl,ht1⟩:=hz1 (by omega);have hnx:rO w.den (AD m) (k+1)= .cat (rO w.den (AD m) k) (w.den):=by rw [FU _ _ _ (by omega)];rw [if_pos hkm]
        have hnn:(rO w.den (AD m) (k+1)).nodes=1+(rO w.den (AD m) k).nodes+(w.den).nodes:=by rw [hnx];rfl
        have p1:=AW (rO w.den (AD m) k);have hout:decide (((ns.length+ms.length - 1:Nat):Int)<0)=false:=decide_eq_false (by omega)
        try rw [hout]
        refine Ai.mk (Ev (op:=2) (x:=((ns.length+ms.length - 1:Nat):Int)) (y:=(((ns++ms).length+ms2.length - 1:Nat):Int)) st2 (by unfold A9;omega) (Bq (by omega)) (Bq (by simp;omega)) (by simp;omega)) ?_;rintro _ G2 ⟨rfl,a3,c3,st3⟩;(conv=>whnf);rw [w64 (x:=(k:Int)+1) (by omega) (by omega)];obtain⟨ms3,a4,c4,g1,gs,g2,g3,g4⟩:=Eg (R:=rO w.den (AD m) (k+1)) hm1 hs1 hm2 hs2 (fun h=>by rw [hnx]at h;simp only [ReM.plain,US]at h;exact⟨h.1,h.2,by decide,by decide⟩) hnn (fun ns' d j k' h1 h2 h3 h4=>by rw [hnx];exact⟨d,j,k',h1,by rw [h2];rfl,by rw [h2];rfl,by rw [h2];rfl,h3,h4⟩) ht1 ht2 st3;have g2':((ns++ms++ms2).length:Int)=((ns.length+ms3.length - 1:Nat):Int):=by injection g2
        refine⟨rfl,(k+1,((ns++ms++ms2).length:Int)),rfl,⟨by omega,⟨ms3,a4,c4,fun h=>absurd h (by omega),fun _=>⟨g1,gs,g2',g3⟩,g4⟩⟩,by show K - (k+1)<K - k;omega⟩
      ·have d1:decide ((k:Int)<((AD m:Nat):Int))=false:=decide_eq_false (by omega);rw [if_neg hkm]at hpart;rw [d1];refine VC.fa BJ ?_;refine ld1 (v:=.int .i64 (i:Int)) ct3 (by rw [(sg.blk _ (lgR (_::_::rest) _ 0)).cell,UM];exact Ea _) trivial ?_;refine Ai.mk (JL IH hR hd hB hw (by simp only [AV,ReM.nodes]at hpart;omega) sg) ?_;rintro _ G1 ⟨ms2,a2,c2,hm2,hs2,rfl,ht2,st2⟩;have p2:=AW (AV w.den);(conv=>whnf);try (refine Al.run ?_)
       (conv=>whnf);by_cases hk0:k=0
       ·obtain⟨rfl,rfl⟩:=hz0 hk0;subst hk0;(conv=>whnf);rw [w64 (x:=((0:Nat):Int)+1) (by omega) (by omega)];have e1:rO w.den (AD m) 1=AV w.den:=by rw [I7];exact if_neg hkm
        refine⟨rfl,(1,_),rfl,⟨by omega,⟨ms2,a2,c2,fun h=>absurd h (by decide),fun _=>?_,by simpa using st2⟩⟩,by show K - 1<K - 0;omega⟩;rw [e1];simp only [UV]at ht2;exact⟨hm2,hs2,by simp,ht2⟩
       ·obtain⟨hm1,hs1,rfl,ht1⟩:=hz1 (by omega);have hnx:rO w.den (AD m) (k+1)= .cat (rO w.den (AD m) k) (AV w.den):=by rw [FU _ _ _ (by omega)];rw [if_neg hkm]
        have hnn:(rO w.den (AD m) (k+1)).nodes=1+(rO w.den (AD m) k).nodes+(AV w.den).nodes:=by rw [hnx];rfl
        have p1:=AW (rO w.den (AD m) k);have hout:decide (((ns.length+ms.length - 1:Nat):Int)<0)=false:=decide_eq_false (by omega)
        try rw [hout]
        refine Ai.mk (Ev (op:=2) (x:=((ns.length+ms.length - 1:Nat):Int)) (y:=(((ns++ms).length+ms2.length - 1:Nat):Int)) st2 (by unfold A9;omega) (Bq (by omega)) (Bq (by simp;omega)) (by simp;omega)) ?_;rintro _ G2 ⟨rfl,a3,c3,st3⟩;(conv=>whnf);rw [w64 (x:=(k:Int)+1) (by omega) (by omega)];obtain⟨ms3,a4,c4,g1,gs,g2,g3,g4⟩:=Eg (R:=rO w.den (AD m) (k+1)) hm1 hs1 hm2 hs2 (fun h=>by rw [hnx]at h;simp only [ReM.plain,US]at h;exact⟨h.1,h.2,by decide,by decide⟩) hnn (fun ns' d j k' h1 h2 h3 h4=>by rw [hnx];exact⟨d,j,k',h1,by rw [h2];rfl,by rw [h2];rfl,by rw [h2];rfl,h3,h4⟩) ht1 ht2 st3;have g2':((ns++ms++ms2).length:Int)=((ns.length+ms3.length - 1:Nat):Int):=by injection g2
        refine⟨rfl,(k+1,((ns++ms++ms2).length:Int)),rfl,⟨by omega,⟨ms3,a4,c4,fun h=>absurd h (by omega),fun _=>⟨g1,gs,g2',g3⟩,g4⟩⟩,by show K - (k+1)<K - k;omega⟩
     ·obtain rfl:k=K:=by omega
      obtain⟨hm1,hs1,rfl,ht1⟩:=hz1 (by omega);have p1:=AW (rO w.den (AD m) k);(conv=>whnf);try (refine Al.run ?_)
      refine VC.fa Gv ?_;refine ld1 (v:=.int .i64 n) ct3 (by rw [(sg.blk _ (lgR (_::_::rest) _ 0)).cell,UM];exact M5 _) trivial ?_;(conv=>whnf);by_cases h1:n<0
      ·have d1:decide (n<0)=true:=decide_eq_true h1;rw [if_pos h1]at hK;have hrep:BG w.den (AD m) n= .cat (rO w.den (AD m) k) (.star w.den):=by unfold BG;rw [if_pos h1,if_neg (by omega),hK];rfl
       rw [hrep]at hl ⊢;simp only [ReM.nodes]at hl;rw [d1];refine VC.fa BJ ?_;refine ld1 (v:=.int .i64 (i:Int)) ct3 (by rw [(sg.blk _ (lgR (_::_::rest) _ 0)).cell,UM];exact Ea _) trivial ?_;refine Ai.mk (IH B H0 _ bb _ _ (ns++ms) root (rest++[pB 94 x (rnL (B8 (i:Int) m n))]) na nc i ds ws hR hd hB hw (by simp only [UL];omega) sg) ?_;rintro _ G6 ⟨ms1,a6,c6,hm6,hs6,rfl,ht6,sg6⟩;refine Ai.mk (Ev (op:=4) (x:=(((ns++ms).length+ms1.length - 1:Nat):Int)) (y:=0) sg6 (by unfold A9;omega) (Bq (by simp only [UL];omega)) (by unfold A9;omega) (by simp only [UL];omega)) ?_;rintro _ G7 ⟨rfl,a7,c7,sg7⟩;obtain⟨ms2,a8,c8,g1,gs,g2,g3,g4⟩:=JG hm6 hs6 ht6 sg7;have g2':((ns++ms++ms1).length:Int)=(((ns++ms).length+ms2.length - 1:Nat):Int):=by injection g2
       rw [g2'];simp only [ReM.nodes]at g1;refine Ai.mk (Ev (op:=2) (x:=((ns.length+ms.length - 1:Nat):Int)) (y:=(((ns++ms).length+ms2.length - 1:Nat):Int)) g4 (by unfold A9;omega) (Bq (by omega)) (Bq (by simp only [UL];omega)) (by simp only [UL];omega)) ?_;rintro _ G8 ⟨rfl,a9,c9,sg9⟩;(conv=>whnf);exact(Eg (R:=.cat (rO w.den (AD m) k) (.star w.den)) hm1 hs1 (r2:=.star w.den) (by simp only [ReM.nodes];exact g1) gs (fun h=>by simp only [ReM.plain,US]at h ⊢;exact⟨h.1,h.2,by decide,by decide⟩) rfl (fun ns' d j k' h1 h2 h3 h4=>⟨d,j,k',h1,by rw [h2];rfl,by rw [h2];rfl,by rw [h2];rfl,h3,h4⟩) ht1 g3 sg9).drop
      ·have d1:decide (n<0)=false:=decide_eq_false h1;rw [if_neg h1]at hK;have hrep:BG w.den (AD m) n=rO w.den (AD m) k:=by unfold BG;rw [if_neg h1,if_neg hn0,hK];rfl
       rw [hrep];rw [d1];(conv=>whnf);exact GrP.drop ⟨ms,a1,c1,hm1,hs1,rfl,ht1,sg⟩
 ·have d1:decide (n<0)=false:=decide_eq_false h1;rw [d1];have hns:¬(n<0∧AD m=0):=fun h=>h1 h.1;clear d1;refine VC.fa Gv ?_;refine ld1 (v:=.int .i64 n) ct3 (by rw [(sg.blk _ (lgR (_::_::rest) _ 0)).cell,UM];exact M5 _) trivial ?_;(conv=>whnf);by_cases h0:n=0
  ·have d1:(n==0)=true:=by rw [h0];rfl
   have hrep:BG w.den (AD m) n= .eps:=by unfold BG;rw [if_neg (by omega),if_pos h0]
   rw [hrep]at hl ⊢;simp only [ReM.nodes]at hl;rw [d1];refine Ai.mk (Ev (op:=0) (x:=0) (y:=0) sg (by unfold A9;omega) (by unfold A9;omega) (by unfold A9;omega) (by omega)) ?_;rintro _ G3 ⟨rfl,a2,c2,sg3⟩;(conv=>whnf);exact(Oj sg3).drop
  ·have d1:(n==0)=false:=beq_eq_false_iff_ne.2 h0;rw [d1];have hn0:n≠0:=h0;have sg3:=sg;clear sg;obtain⟨K,hK⟩:∃K:Nat,K=if n<0 then AD m else n.toNat:=⟨_,rfl⟩
   have hK1:1≤K:=by rw [hK];split<;>omega
   have hKb:K≤255:=by rw [hK];split<;>omega
   have hKO:(rO w.den (AD m) K).nodes≤(BG w.den (AD m) n).nodes:=by
    unfold BG;by_cases h1:n<0
    ·rw [if_pos h1,if_neg (by omega),hK,if_pos h1];show _≤1+((B9 w.den (AD m) (AD m)).getD .eps).nodes+_;unfold rO;omega
    ·rw [if_neg h1,if_neg hn0,hK,if_neg h1];exact Vp _
   refine VC.fa Gv ?_;refine ld1 (v:=.int .i64 n) ct3 (by rw [(sg3.blk _ (lgR (_::_::rest) _ 0)).cell,UM];exact M5 _) trivial ?_;(conv=>whnf);refine Al.cut [8] (fun _:Unit=>[.int .i64 (K:Int)]) (fun _ G=>StB B H0 G (reP bb a c ns root (rest++[pB 94 x (rnL (B8 (i:Int) m n))]))) ?_ ?_
   ·(conv=>whnf);by_cases h1:n<0
    ·have d1:decide (n<0)=true:=decide_eq_true h1;rw [d1];(conv=>whnf);exact⟨rfl,(),by rw [hK,if_pos h1],sg3⟩
    ·have d1:decide (n<0)=false:=decide_eq_false h1;rw [d1];(conv=>whnf);exact⟨rfl,(),by rw [hK,if_neg h1,Vl (by omega)],sg3⟩
   rintro⟨⟩ G4 junk4 sg4;clear sg3;(conv=>whnf);refine AH.mk [9,10] (fun y:Nat×Int=>match y with | (k,out)=>[.int .i64 out,.int .i64 (k:Int)]) (fun y G=>match y with | (k,out)=>k≤K∧UnI B H0 bb root (rest++[pB 94 x (rnL (B8 (i:Int) m n))]) ns w.den (AD m) k out G) (fun y _=>match y with | (k,_)=>K - k) ?_ ?_
   ·(conv=>whnf);exact⟨(0,-1),rfl,Vo _,⟨[],_,_,fun _=>⟨rfl,rfl⟩,fun h=>absurd h (by decide),by simpa using sg4⟩⟩
   ·rintro⟨k,out⟩ G junk5 ⟨hk,⟨ms,a1,c1,hz0,hz1,sg⟩⟩;clear sg4;have hnext:k<K→(rO w.den (AD m) (k+1)).nodes≤(BG w.den (AD m) n).nodes:=fun h=>by
     have:=L8 w.den (AD m) (k:=k+1) (by omega) (K - (k+1));rw [show k+1+(K - (k+1))=K by omega]at this;omega
    have hpart:k<K→(ns++ms).length+(if k<AD m then w.den else AV w.den).nodes≤4194304:=fun h=>by
     have h1:=hnext h;by_cases hk0:k=0
     ·obtain⟨rfl,-⟩:=hz0 hk0;subst hk0;rw [I7]at h1;simp only [UV];omega
     ·obtain⟨hm1,-,-,-⟩:=hz1 (by omega);rw [FU _ _ _ (by omega)]at h1;simp only [ReM.nodes]at h1;simp only [UL];omega
    refine AQ.mk (fun hz=>?_) (fun hz=>?_)<;>simp only [decide_eq_true_eq,decide_eq_false_iff_not]at hz
    ·have hkK:k<K:=by omega
     replace hnext:=hnext hkK;replace hpart:=hpart hkK;(conv=>whnf);try (refine Al.run ?_)
     (conv=>whnf);try (refine Al.run ?_)
     (conv=>whnf);by_cases hkm:k<AD m
     ·have d1:decide ((k:Int)<((AD m:Nat):Int))=true:=decide_eq_true (by omega);rw [if_pos hkm]at hpart;rw [d1];refine VC.fa BJ ?_;refine ld1 (v:=.int .i64 (i:Int)) ct3 (by rw [(sg.blk _ (lgR (_::_::rest) _ 0)).cell,UM];exact Ea _) trivial ?_;refine Ai.mk (IH B H0 _ bb _ _ (ns++ms) root (rest++[pB 94 x (rnL (B8 (i:Int) m n))]) na nc i ds ws hR hd hB hw (by omega) sg) ?_;rintro _ G1 ⟨ms2,a2,c2,hm2,hs2,rfl,ht2,st2⟩;have p2:=AW (w.den);(conv=>whnf);try (refine Al.run ?_)
      (conv=>whnf);by_cases hk0:k=0
      ·obtain⟨rfl,rfl⟩:=hz0 hk0;subst hk0;(conv=>whnf);rw [w64 (x:=((0:Nat):Int)+1) (by omega) (by omega)];have e1:rO w.den (AD m) 1=w.den:=by rw [I7];exact if_pos hkm
       refine⟨rfl,(1,_),rfl,⟨by omega,⟨ms2,a2,c2,fun h=>absurd h (by decide),fun _=>?_,by simpa using st2⟩⟩,by show K - 1<K - 0;omega⟩;rw [e1];simp only [UV]at ht2;exact⟨hm2,hs2,by simp,ht2⟩
      ·obtain⟨hm1,hs1,rfl,ht1⟩:=hz1 (by omega);have hnx:rO w.den (AD m) (k+1)= .cat (rO w.den (AD m) k) (w.den):=by rw [FU _ _ _ (by omega)];rw [if_pos hkm]
       have hnn:(rO w.den (AD m) (k+1)).nodes=1+(rO w.den (AD m) k).nodes+(w.den).nodes:=by rw [hnx];rfl
       have p1:=AW (rO w.den (AD m) k);have hout:decide (((ns.length+ms.length - 1:Nat):Int)<0)=false:=decide_eq_false (by omega)
       try rw [hout]
       refine Ai.mk (Ev (op:=2) (x:=((ns.length+ms.length - 1:Nat):Int)) (y:=(((ns++ms).length+ms2.length - 1:Nat):Int)) st2 (by unfold A9;omega) (Bq (by omega)) (Bq (by simp;omega)) (by simp;omega)) ?_;rintro _ G2 ⟨rfl,a3,c3,st3⟩;(conv=>whnf);rw [w64 (x:=(k:Int)+1) (by omega) (by omega)];obtain⟨ms3,a4,c4,g1,gs,g2,g3,g4⟩:=Eg (R:=rO w.den (AD m) (k+1)) hm1 hs1 hm2 hs2 (fun h=>by rw [hnx]at h;simp only [ReM.plain,US]at h;exact⟨h.1,h.2,by decide,by decide⟩) hnn (fun ns' d j k' h1 h2 h3 h4=>by rw [hnx];exact⟨d,j,k',h1,by rw [h2];rfl,by rw [h2];rfl,by rw [h2];rfl,h3,h4⟩) ht1 ht2 st3;have g2':((ns++ms++ms2).length:Int)=((ns.length+ms3.length - 1:Nat):Int):=by injection g2
       refine⟨rfl,(k+1,((ns++ms++ms2).length:Int)),rfl,⟨by omega,⟨ms3,a4,c4,fun h=>absurd h (by omega),fun _=>⟨g1,gs,g2',g3⟩,g4⟩⟩,by show K - (k+1)<K - k;omega⟩
     ·have d1:decide ((k:Int)<((AD m:Nat):Int))=false:=decide_eq_false (by omega);rw [if_neg hkm]at hpart;rw [d1];refine VC.fa BJ ?_;refine ld1 (v:=.int .i64 (i:Int)) ct3 (by rw [(sg.blk _ (lgR (_::_::rest) _ 0)).cell,UM];exact Ea _) trivial ?_;refine Ai.mk (JL IH hR hd hB hw (by simp only [AV,ReM.nodes]at hpart;omega) sg) ?_;rintro _ G1 ⟨ms2,a2,c2,hm2,hs2,rfl,ht2,st2⟩;have p2:=AW (AV w.den);(conv=>whnf);try (refine Al.run ?_)
      (conv=>whnf);by_cases hk0:k=0
      ·obtain⟨rfl,rfl⟩:=hz0 hk0;subst hk0;(conv=>whnf);rw [w64 (x:=((0:Nat):Int)+1) (by omega) (by omega)];have e1:rO w.den (AD m) 1=AV w.den:=by rw [I7];exact if_neg hkm
       refine⟨rfl,(1,_),rfl,⟨by omega,⟨ms2,a2,c2,fun h=>absurd h (by decide),fun _=>?_,by simpa using st2⟩⟩,by show K - 1<K - 0;omega⟩;rw [e1];simp only [UV]at ht2;exact⟨hm2,hs2,by simp,ht2⟩
      ·obtain⟨hm1,hs1,rfl,ht1⟩:=hz1 (by omega);have hnx:rO w.den (AD m) (k+1)= .cat (rO w.den (AD m) k) (AV w.den):=by rw [FU _ _ _ (by omega)];rw [if_neg hkm]
       have hnn:(rO w.den (AD m) (k+1)).nodes=1+(rO w.den (AD m) k).nodes+(AV w.den).nodes:=by rw [hnx];rfl
       have p1:=AW (rO w.den (AD m) k);have hout:decide (((ns.length+ms.length - 1:Nat):Int)<0)=false:=decide_eq_false (by omega)
       try rw [hout]
       refine Ai.mk (Ev (op:=2) (x:=((ns.length+ms.length - 1:Nat):Int)) (y:=(((ns++ms).length+ms2.length - 1:Nat):Int)) st2 (by unfold A9;omega) (Bq (by omega)) (Bq (by simp;omega)) (by simp;omega)) ?_;rintro _ G2 ⟨rfl,a3,c3,st3⟩;(conv=>whnf);rw [w64 (x:=(k:Int)+1) (by omega) (by omega)];obtain⟨ms3,a4,c4,g1,gs,g2,g3,g4⟩:=Eg (R:=rO w.den (AD m) (k+1)) hm1 hs1 hm2 hs2 (fun h=>by rw [hnx]at h;simp only [ReM.plain,US]at h;exact⟨h.1,h.2,by decide,by decide⟩) hnn (fun ns' d j k' h1 h2 h3 h4=>by rw [hnx];exact⟨d,j,k',h1,by rw [h2];rfl,by rw [h2];rfl,by rw [h2];rfl,h3,h4⟩) ht1 ht2 st3;have g2':((ns++ms++ms2).length:Int)=((ns.length+ms3.length - 1:Nat):Int):=by injection g2
       refine⟨rfl,(k+1,((ns++ms++ms2).length:Int)),rfl,⟨by omega,⟨ms3,a4,c4,fun h=>absurd h (by omega),fun _=>⟨g1,gs,g2',g3⟩,g4⟩⟩,by show K - (k+1)<K - k;omega⟩
    ·obtain rfl:k=K:=by omega
     obtain⟨hm1,hs1,rfl,ht1⟩:=hz1 (by omega);have p1:=AW (rO w.den (AD m) k);(conv=>whnf);try (refine Al.run ?_)
     refine VC.fa Gv ?_;refine ld1 (v:=.int .i64 n) ct3 (by rw [(sg.blk _ (lgR (_::_::rest) _ 0)).cell,UM];exact M5 _) trivial ?_;(conv=>whnf);by_cases h1:n<0
     ·have d1:decide (n<0)=true:=decide_eq_true h1;rw [if_pos h1]at hK;have hrep:BG w.den (AD m) n= .cat (rO w.den (AD m) k) (.star w.den):=by unfold BG;rw [if_pos h1,if_neg (by omega),hK];rfl
      rw [hrep]at hl ⊢;simp only [ReM.nodes]at hl;rw [d1];refine VC.fa BJ ?_;refine ld1 (v:=.int .i64 (i:Int)) ct3 (by rw [(sg.blk _ (lgR (_::_::rest) _ 0)).cell,UM];exact Ea _) trivial ?_;refine Ai.mk (IH B H0 _ bb _ _ (ns++ms) root (rest++[pB 94 x (rnL (B8 (i:Int) m n))]) na nc i ds ws hR hd hB hw (by simp only [UL];omega) sg) ?_;rintro _ G6 ⟨ms1,a6,c6,hm6,hs6,rfl,ht6,sg6⟩;refine Ai.mk (Ev (op:=4) (x:=(((ns++ms).length+ms1.length - 1:Nat):Int)) (y:=0) sg6 (by unfold A9;omega) (Bq (by simp only [UL];omega)) (by unfold A9;omega) (by simp only [UL];omega)) ?_;rintro _ G7 ⟨rfl,a7,c7,sg7⟩;obtain⟨ms2,a8,c8,g1,gs,g2,g3,g4⟩:=JG hm6 hs6 ht6 sg7;have g2':((ns++ms++ms1).length:Int)=(((ns++ms).length+ms2.length - 1:Nat):Int):=by injection g2
      rw [g2'];simp only [ReM.nodes]at g1;refine Ai.mk (Ev (op:=2) (x:=((ns.length+ms.length - 1:Nat):Int)) (y:=(((ns++ms).length+ms2.length - 1:Nat):Int)) g4 (by unfold A9;omega) (Bq (by omega)) (Bq (by simp only [UL];omega)) (by simp only [UL];omega)) ?_;rintro _ G8 ⟨rfl,a9,c9,sg9⟩;(conv=>whnf);exact(Eg (R:=.cat (rO w.den (AD m) k) (.star w.den)) hm1 hs1 (r2:=.star w.den) (by simp only [ReM.nodes];exact g1) gs (fun h=>by simp only [ReM.plain,US]at h ⊢;exact⟨h.1,h.2,by decide,by decide⟩) rfl (fun ns' d j k' h1 h2 h3 h4=>⟨d,j,k',h1,by rw [h2];rfl,by rw [h2];rfl,by rw [h2];rfl,h3,h4⟩) ht1 g3 sg9).drop
     ·have d1:decide (n<0)=false:=decide_eq_false h1;rw [if_neg h1]at hK;have hrep:BG w.den (AD m) n=rO w.den (AD m) k:=by unfold BG;rw [if_neg h1,if_neg hn0,hK];rfl
      rw [hrep];rw [d1];(conv=>whnf);exact GrP.drop ⟨ms,a1,c1,hm1,hs1,rfl,ht1,sg⟩
end
theorem Mn{B:Nat→Prop}{H0 G:Aa}{bb:Nat}{root:Int}{rest:List Pc}{ns:List RnM}{d:RnM}{r:ReM}{a':Option Addr}{c':Nat}(h1:r.nodes=1)(hop:d.op≠5∧d.op≠6)(hT:∀ns' k,ns'[k]? =some d→Bc ns' r k)(st:StB B H0 G (reP bb a' c' (ns++[d]) root rest)):
  GrP B H0 bb root rest ns r (.int .i64 (ns.length:Int)) G:=
 ⟨[d],a',c',h1.symm,fun _ x hx=>by rcases UU.1 hx with rfl;exact hop,by simp,hT _ _ (by simp),st⟩
theorem SK:∀w:RwM,MW w:=fun w=>by
 induction w with
 | eps=>
   intro B H0 H bb c a ns root rest na nc i ds ws hR hd hB hw hl st;obtain⟨d,hdd,hnr⟩:=hR.at2 hw;refine Ao.of_vc Tryz.func36 rfl (Tryz.call36 _) ?_;obtain rfl:d=Ax 0 0 0:=hnr;refine ixr (i:=i) CU (hd.frame (st.old.mono fun k hk=>hk)) hdd rfl ?_;rintro b2 o2 c2 hS2 hc2 ⟨rfl,hok⟩;refine ldN (cs:=rnL (Ax 0 0 0)) (by rw [Aq];exact Gn) hc2 trivial ?_;refine Ag _ rnZ FY rfl ?_;intro x H3 hx hs3 hb3 ha3;have st3:=st.box hx hs3 hb3 ha3;refine Ay (cs:=rnL (Ax 0 0 0)) st3 _ (by rw [Aq];rfl) (lgR (_::_::rest) _ 0) (by rw [Aq,AP];decide) (Br _) fun H4 st4=>?_;rw [Ae (show(rnL (Ax 0 0 0)).length=rnZ.length by rw [Aq,AP])]at st4;replace st4:StB B H0 H4 (reP bb a c ns root (rest++[pB 94 x (rnL (Ax 0 0 0))])):=by
    have e:=lsR (pB tRe bb (reL (.slice a ns.length c) root)::pS tRn 94 a ns.length c ns::rest) [pB 94 x rnZ] 0 (pB 94 x (rnL (Ax 0 0 0)));rw [e]at st4;exact st4
   have hx4:Blk H4 x 94 (rnL (Ax 0 0 0)):=st4.blk _ (lgR (_::_::rest) _ 0);refine VC.fa Bt ?_;refine ld1 (v:=.int .i64 (Ax 0 0 0).op) ct3 (by rw [hx4.cell];exact Ch _) trivial ?_;(conv=>whnf);try (refine Al.run ?_)
   (conv=>whnf);try (refine Al.run ?_)
   have bl:=(st4.blk 0 rfl).lt;have f1:bb≠x:=fun e=>st4.apart2 (i:=0) (j:=(pB tRe bb (reL (.slice a ns.length c) root)::pS tRn 94 a ns.length c ns::rest).length+0) rfl (lgR (_::_::rest) _ 0) (by simp) bb rfl e;refine As.heldZ (fun k=>k=bb∨k=x) [14] (sq [0,1,2,3,4,5,6,7,8,9] (.f 10 (.f 11 (sq [12,13] (.f 14 .e))))) rfl (by kernel_rfl) (VC.fa Cm ?_);refine ld1 (v:=.slice a ns.length c) C0 (by rw [(st4.blk 0 rfl).cell];rfl) (.inl rfl) ?_;refine VC.fa Bt ?_;refine ld1 (v:=.int .i64 (Ax 0 0 0).op) ct3 (by rw [hx4.cell];exact Ch _) (.inr rfl) ?_;refine VC.fa Ls ?_;refine ldN (cs:=Ar (0#256)) (by rw [Ap];exact Kf) (hx4.cells (o:=0+1) fun j v hv=>L9 (Ax 0 0 0) j v hv) (.inr rfl) ?_;refine I9 0 (0#256) (AM CU (rnL (Ax 0 0 0)) rfl (Aq _) (by decide) (by decide) ?_);intro z H5 hz hs5 hb5 ha5;have st5:=st4.skip hz ha5;have hx5:Blk H5 x 94 (rnL (Ax 0 0 0)):=st5.blk _ (lgR (_::_::rest) _ 0);refine⟨fun k hk=>by
    rcases hk with hk | hk
    ·rw [show k=bb from hk];exact(st5.blk 0 rfl).trans (st4.blk 0 rfl).symm
    ·rw [show k=x from hk];exact hx5.trans hx4.symm,?_⟩
   refine KT (ys:=[Ax 0 0 0]) st5 1 CU rfl (hb5.cells (o:=0) (cs:=rnL (Ax 0 0 0)) fun j v hv=>by rw [UM];exact hv) (Ty.reps_one ⟨rfl,hok⟩) rfl (fun u hu=>Vh.1 (Br _) u hu) (by simp [RwM.den,ReM.nodes]at hl ⊢;omega) (by decide) fun a9 c9 H9 st9 ha9=>?_;have el:ns.length+[Ax 0 0 0].length=(ns++[Ax 0 0 0]).length:=by simp
   rw [el]at st9 ⊢;have hx9:Blk H9 x 94 (rnL (Ax 0 0 0)):=st9.blk _ (lgR (_::_::rest) _ 0);refine⟨fun k hk=>by
    rcases hk with hk | hk
    ·rw [show k=bb from hk];exact(st9.blk 0 rfl).trans (st4.blk 0 rfl).symm
    ·rw [show k=x from hk];exact hx9.trans hx4.symm,?_⟩
   refine VC.fa Cm (AG st9 0 C0 rfl (show 0<2 by decide) rfl fun H10 st10=>(VC.fa Cm ?_));refine ld1 (v:=.slice a9 (ns++[Ax 0 0 0]).length c9) C0 (by rw [(st10.blk 0 rfl).cell];rfl) trivial ?_;have w1:IntKind.wrap .i64 (((ns++[Ax 0 0 0]).length:Int) - 1)=(ns.length:Int):=by
    simp only [RwM.den,ReM.nodes]at hl;rw [UL,UN,w64 (by omega) (by omega)];omega
   (conv=>whnf);rw [w1];(conv=>whnf);replace st10:StB B H0 H10 (reP bb a9 c9 (ns++[Ax 0 0 0]) root (rest++[pB 94 x (rnL (Ax 0 0 0))])):=st10;exact(Mn (r:=.eps) rfl ⟨show(0:Int)≠5 by decide,show(0:Int)≠6 by decide⟩ (fun ns' k h=>⟨_,h,rfl⟩) st10).drop
 | cls s=>
   intro B H0 H bb c a ns root rest na nc i ds ws hR hd hB hw hl st;obtain⟨d,hdd,hnr⟩:=hR.at2 hw;refine Ao.of_vc Tryz.func36 rfl (Tryz.call36 _) ?_;obtain rfl:d=De s:=hnr;refine ixr (i:=i) CU (hd.frame (st.old.mono fun k hk=>hk)) hdd rfl ?_;rintro b2 o2 c2 hS2 hc2 ⟨rfl,hok⟩;refine ldN (cs:=rnL (De s)) (by rw [Aq];exact Gn) hc2 trivial ?_;refine Ag _ rnZ FY rfl ?_;intro x H3 hx hs3 hb3 ha3;have st3:=st.box hx hs3 hb3 ha3;refine Ay (cs:=rnL (De s)) st3 _ (by rw [Aq];rfl) (lgR (_::_::rest) _ 0) (by rw [Aq,AP];decide) (Br _) fun H4 st4=>?_;rw [Ae (show(rnL (De s)).length=rnZ.length by rw [Aq,AP])]at st4;replace st4:StB B H0 H4 (reP bb a c ns root (rest++[pB 94 x (rnL (De s))])):=by
    have e:=lsR (pB tRe bb (reL (.slice a ns.length c) root)::pS tRn 94 a ns.length c ns::rest) [pB 94 x rnZ] 0 (pB 94 x (rnL (De s)));rw [e]at st4;exact st4
   have hx4:Blk H4 x 94 (rnL (De s)):=st4.blk _ (lgR (_::_::rest) _ 0);refine VC.fa Bt ?_;refine ld1 (v:=.int .i64 (De s).op) ct3 (by rw [hx4.cell];exact Ch _) trivial ?_;(conv=>whnf);try (refine Al.run ?_)
   (conv=>whnf);try (refine Al.run ?_)
   have bl:=(st4.blk 0 rfl).lt;have f1:bb≠x:=fun e=>st4.apart2 (i:=0) (j:=(pB tRe bb (reL (.slice a ns.length c) root)::pS tRn 94 a ns.length c ns::rest).length+0) rfl (lgR (_::_::rest) _ 0) (by simp) bb rfl e;refine As.heldZ (fun k=>k=bb∨k=x) [14] (sq [0,1,2,3,4,5,6,7,8,9] (.f 10 (.f 11 (sq [12,13] (.f 14 .e))))) rfl (by kernel_rfl) (VC.fa Cm ?_);refine ld1 (v:=.slice a ns.length c) C0 (by rw [(st4.blk 0 rfl).cell];rfl) (.inl rfl) ?_;refine VC.fa Bt ?_;refine ld1 (v:=.int .i64 (De s).op) ct3 (by rw [hx4.cell];exact Ch _) (.inr rfl) ?_;refine VC.fa Ls ?_;refine ldN (cs:=Ar (s)) (by rw [Ap];exact Kf) (hx4.cells (o:=0+1) fun j v hv=>L9 (De s) j v hv) (.inr rfl) ?_;refine I9 1 (s) (AM CU (rnL (De s)) rfl (Aq _) (by decide) (by decide) ?_);intro z H5 hz hs5 hb5 ha5;have st5:=st4.skip hz ha5;have hx5:Blk H5 x 94 (rnL (De s)):=st5.blk _ (lgR (_::_::rest) _ 0);refine⟨fun k hk=>by
    rcases hk with hk | hk
    ·rw [show k=bb from hk];exact(st5.blk 0 rfl).trans (st4.blk 0 rfl).symm
    ·rw [show k=x from hk];exact hx5.trans hx4.symm,?_⟩
   refine KT (ys:=[De s]) st5 1 CU rfl (hb5.cells (o:=0) (cs:=rnL (De s)) fun j v hv=>by rw [UM];exact hv) (Ty.reps_one ⟨rfl,hok⟩) rfl (fun u hu=>Vh.1 (Br _) u hu) (by simp [RwM.den,ReM.nodes]at hl ⊢;omega) (by decide) fun a9 c9 H9 st9 ha9=>?_;have el:ns.length+[De s].length=(ns++[De s]).length:=by simp
   rw [el]at st9 ⊢;have hx9:Blk H9 x 94 (rnL (De s)):=st9.blk _ (lgR (_::_::rest) _ 0);refine⟨fun k hk=>by
    rcases hk with hk | hk
    ·rw [show k=bb from hk];exact(st9.blk 0 rfl).trans (st4.blk 0 rfl).symm
    ·rw [show k=x from hk];exact hx9.trans hx4.symm,?_⟩
   refine VC.fa Cm (AG st9 0 C0 rfl (show 0<2 by decide) rfl fun H10 st10=>(VC.fa Cm ?_));refine ld1 (v:=.slice a9 (ns++[De s]).length c9) C0 (by rw [(st10.blk 0 rfl).cell];rfl) trivial ?_;have w1:IntKind.wrap .i64 (((ns++[De s]).length:Int) - 1)=(ns.length:Int):=by
    simp only [RwM.den,ReM.nodes]at hl;rw [UL,UN,w64 (by omega) (by omega)];omega
   (conv=>whnf);rw [w1];(conv=>whnf);replace st10:StB B H0 H10 (reP bb a9 c9 (ns++[De s]) root (rest++[pB 94 x (rnL (De s))])):=st10;exact(Mn (r:=.cls s) rfl ⟨show(1:Int)≠5 by decide,show(1:Int)≠6 by decide⟩ (fun ns' k h=>⟨_,h,rfl,rfl⟩) st10).drop
 | cat w1 w2 ih1 ih2=>
   intro B H0 H bb c a ns root rest na nc i ds ws hR hd hB hw hl st;obtain⟨d,hdd,hnr⟩:=hR.at2 hw;refine Ao.of_vc Tryz.func36 rfl (Tryz.call36 _) ?_;obtain⟨i1,i2,rfl,hi1,hi2⟩:=hnr;simp only [RwM.den,ReM.nodes]at hl;refine ixr (i:=i) CU (hd.frame (st.old.mono fun k hk=>hk)) hdd rfl ?_;rintro b2 o2 c2 hS2 hc2 ⟨rfl,hok⟩;refine ldN (cs:=rnL (Ax 2 (i1:Int) (i2:Int))) (by rw [Aq];exact Gn) hc2 trivial ?_;refine Ag _ rnZ FY rfl ?_;intro x H3 hx hs3 hb3 ha3;have st3:=st.box hx hs3 hb3 ha3;refine Ay (cs:=rnL (Ax 2 (i1:Int) (i2:Int))) st3 _ (by rw [Aq];rfl) (lgR (_::_::rest) _ 0) (by rw [Aq,AP];decide) (Br _) fun H4 st4=>?_;rw [Ae (show(rnL (Ax 2 (i1:Int) (i2:Int))).length=rnZ.length by rw [Aq,AP])]at st4;replace st4:StB B H0 H4 (reP bb a c ns root (rest++[pB 94 x (rnL (Ax 2 (i1:Int) (i2:Int)))])):=by
    have e:=lsR (pB tRe bb (reL (.slice a ns.length c) root)::pS tRn 94 a ns.length c ns::rest) [pB 94 x rnZ] 0 (pB 94 x (rnL (Ax 2 (i1:Int) (i2:Int))));rw [e]at st4;exact st4
   have hx4:Blk H4 x 94 (rnL (Ax 2 (i1:Int) (i2:Int))):=st4.blk _ (lgR (_::_::rest) _ 0);refine VC.fa Bt ?_;refine ld1 (v:=.int .i64 (Ax 2 (i1:Int) (i2:Int)).op) ct3 (by rw [hx4.cell];exact Ch _) trivial ?_;(conv=>whnf);try (refine Al.run ?_)
   (conv=>whnf);try (refine Al.run ?_)
   refine VC.fa BJ ?_;refine ld1 (v:=.int .i64 (i1:Int)) ct3 (by rw [(st4.blk _ (lgR (_::_::rest) _ 0)).cell,UM];exact Ea _) trivial ?_;refine Ai.mk (ih1 B H0 _ bb _ _ ns root (rest++[pB 94 x (rnL (Ax 2 (i1:Int) (i2:Int)))]) na nc i1 ds ws hR hd hB hi1 (by omega) st4) ?_;rintro _ G1 ⟨ms1,a1,c1,hm1,hs1,rfl,ht1,sg1⟩;refine VC.fa Dr ?_;refine ld1 (v:=.int .i64 (i2:Int)) ct3 (by rw [(sg1.blk _ (lgR (_::_::rest) _ 0)).cell,UM];exact Hi _) trivial ?_;refine Ai.mk (ih2 B H0 _ bb _ _ (ns++ms1) root (rest++[pB 94 x (rnL (Ax 2 (i1:Int) (i2:Int)))]) na nc i2 ds ws hR hd hB hi2 (by simp only [UL];omega) sg1) ?_;rintro _ G2 ⟨ms2,a2,c2,hm2,hs2,rfl,ht2,sg2⟩;have p1:=AW w1.den;have p2:=AW w2.den;refine VC.fa Bt ?_;refine ld1 (v:=.int .i64 (Ax 2 (i1:Int) (i2:Int)).op) ct3 (by rw [(sg2.blk _ (lgR (_::_::rest) _ 0)).cell];exact Ch _) trivial ?_;refine Ai.mk (Ev (op:=2) (x:=((ns.length+ms1.length - 1:Nat):Int)) (y:=(((ns++ms1).length+ms2.length - 1:Nat):Int)) sg2 (by unfold A9;omega) (Bq (by omega)) (Bq (by simp only [UL];omega)) (by simp only [UL];omega)) ?_;rintro _ G3 ⟨rfl,a3,c3,sg3⟩;(conv=>whnf);exact(Eg (R:=.cat w1.den w2.den) hm1 hs1 hm2 hs2 (fun h=>by simp only [ReM.plain,US]at h;exact⟨h.1,h.2,by decide,by decide⟩) rfl (fun ns' d j k' h1 h2 h3 h4=>⟨d,j,k',h1,by rw [h2];rfl,by rw [h2];rfl,by rw [h2];rfl,h3,h4⟩) ht1 ht2 sg3).drop
 | alt w1 w2 ih1 ih2=>
   intro B H0 H bb c a ns root rest na nc i ds ws hR hd hB hw hl st;obtain⟨d,hdd,hnr⟩:=hR.at2 hw;refine Ao.of_vc Tryz.func36 rfl (Tryz.call36 _) ?_;obtain⟨i1,i2,rfl,hi1,hi2⟩:=hnr;simp only [RwM.den,ReM.nodes]at hl;refine ixr (i:=i) CU (hd.frame (st.old.mono fun k hk=>hk)) hdd rfl ?_;rintro b2 o2 c2 hS2 hc2 ⟨rfl,hok⟩;refine ldN (cs:=rnL (Ax 3 (i1:Int) (i2:Int))) (by rw [Aq];exact Gn) hc2 trivial ?_;refine Ag _ rnZ FY rfl ?_;intro x H3 hx hs3 hb3 ha3;have st3:=st.box hx hs3 hb3 ha3;refine Ay (cs:=rnL (Ax 3 (i1:Int) (i2:Int))) st3 _ (by rw [Aq];rfl) (lgR (_::_::rest) _ 0) (by rw [Aq,AP];decide) (Br _) fun H4 st4=>?_;rw [Ae (show(rnL (Ax 3 (i1:Int) (i2:Int))).length=rnZ.length by rw [Aq,AP])]at st4;replace st4:StB B H0 H4 (reP bb a c ns root (rest++[pB 94 x (rnL (Ax 3 (i1:Int) (i2:Int)))])):=by
    have e:=lsR (pB tRe bb (reL (.slice a ns.length c) root)::pS tRn 94 a ns.length c ns::rest) [pB 94 x rnZ] 0 (pB 94 x (rnL (Ax 3 (i1:Int) (i2:Int))));rw [e]at st4;exact st4
   have hx4:Blk H4 x 94 (rnL (Ax 3 (i1:Int) (i2:Int))):=st4.blk _ (lgR (_::_::rest) _ 0);refine VC.fa Bt ?_;refine ld1 (v:=.int .i64 (Ax 3 (i1:Int) (i2:Int)).op) ct3 (by rw [hx4.cell];exact Ch _) trivial ?_;(conv=>whnf);try (refine Al.run ?_)
   (conv=>whnf);try (refine Al.run ?_)
   refine VC.fa BJ ?_;refine ld1 (v:=.int .i64 (i1:Int)) ct3 (by rw [(st4.blk _ (lgR (_::_::rest) _ 0)).cell,UM];exact Ea _) trivial ?_;refine Ai.mk (ih1 B H0 _ bb _ _ ns root (rest++[pB 94 x (rnL (Ax 3 (i1:Int) (i2:Int)))]) na nc i1 ds ws hR hd hB hi1 (by omega) st4) ?_;rintro _ G1 ⟨ms1,a1,c1,hm1,hs1,rfl,ht1,sg1⟩;refine VC.fa Dr ?_;refine ld1 (v:=.int .i64 (i2:Int)) ct3 (by rw [(sg1.blk _ (lgR (_::_::rest) _ 0)).cell,UM];exact Hi _) trivial ?_;refine Ai.mk (ih2 B H0 _ bb _ _ (ns++ms1) root (rest++[pB 94 x (rnL (Ax 3 (i1:Int) (i2:Int)))]) na nc i2 ds ws hR hd hB hi2 (by simp only [UL];omega) sg1) ?_;rintro _ G2 ⟨ms2,a2,c2,hm2,hs2,rfl,ht2,sg2⟩;have p1:=AW w1.den;have p2:=AW w2.den;refine VC.fa Bt ?_;refine ld1 (v:=.int .i64 (Ax 3 (i1:Int) (i2:Int)).op) ct3 (by rw [(sg2.blk _ (lgR (_::_::rest) _ 0)).cell];exact Ch _) trivial ?_;refine Ai.mk (Ev (op:=3) (x:=((ns.length+ms1.length - 1:Nat):Int)) (y:=(((ns++ms1).length+ms2.length - 1:Nat):Int)) sg2 (by unfold A9;omega) (Bq (by omega)) (Bq (by simp only [UL];omega)) (by simp only [UL];omega)) ?_;rintro _ G3 ⟨rfl,a3,c3,sg3⟩;(conv=>whnf);exact(Eg (R:=.alt w1.den w2.den) hm1 hs1 hm2 hs2 (fun h=>by simp only [ReM.plain,US]at h;exact⟨h.1,h.2,by decide,by decide⟩) rfl (fun ns' d j k' h1 h2 h3 h4=>⟨d,j,k',h1,by rw [h2];rfl,by rw [h2];rfl,by rw [h2];rfl,h3,h4⟩) ht1 ht2 sg3).drop
 | and_ w1 w2 ih1 ih2=>
   intro B H0 H bb c a ns root rest na nc i ds ws hR hd hB hw hl st;obtain⟨d,hdd,hnr⟩:=hR.at2 hw;refine Ao.of_vc Tryz.func36 rfl (Tryz.call36 _) ?_;obtain⟨i1,i2,rfl,hi1,hi2⟩:=hnr;simp only [RwM.den,ReM.nodes]at hl;refine ixr (i:=i) CU (hd.frame (st.old.mono fun k hk=>hk)) hdd rfl ?_;rintro b2 o2 c2 hS2 hc2 ⟨rfl,hok⟩;refine ldN (cs:=rnL (Ax 5 (i1:Int) (i2:Int))) (by rw [Aq];exact Gn) hc2 trivial ?_;refine Ag _ rnZ FY rfl ?_;intro x H3 hx hs3 hb3 ha3;have st3:=st.box hx hs3 hb3 ha3;refine Ay (cs:=rnL (Ax 5 (i1:Int) (i2:Int))) st3 _ (by rw [Aq];rfl) (lgR (_::_::rest) _ 0) (by rw [Aq,AP];decide) (Br _) fun H4 st4=>?_;rw [Ae (show(rnL (Ax 5 (i1:Int) (i2:Int))).length=rnZ.length by rw [Aq,AP])]at st4;replace st4:StB B H0 H4 (reP bb a c ns root (rest++[pB 94 x (rnL (Ax 5 (i1:Int) (i2:Int)))])):=by
    have e:=lsR (pB tRe bb (reL (.slice a ns.length c) root)::pS tRn 94 a ns.length c ns::rest) [pB 94 x rnZ] 0 (pB 94 x (rnL (Ax 5 (i1:Int) (i2:Int))));rw [e]at st4;exact st4
   have hx4:Blk H4 x 94 (rnL (Ax 5 (i1:Int) (i2:Int))):=st4.blk _ (lgR (_::_::rest) _ 0);refine VC.fa Bt ?_;refine ld1 (v:=.int .i64 (Ax 5 (i1:Int) (i2:Int)).op) ct3 (by rw [hx4.cell];exact Ch _) trivial ?_;(conv=>whnf);try (refine Al.run ?_)
   (conv=>whnf);try (refine Al.run ?_)
   refine VC.fa BJ ?_;refine ld1 (v:=.int .i64 (i1:Int)) ct3 (by rw [(st4.blk _ (lgR (_::_::rest) _ 0)).cell,UM];exact Ea _) trivial ?_;refine Ai.mk (ih1 B H0 _ bb _ _ ns root (rest++[pB 94 x (rnL (Ax 5 (i1:Int) (i2:Int)))]) na nc i1 ds ws hR hd hB hi1 (by omega) st4) ?_;rintro _ G1 ⟨ms1,a1,c1,hm1,hs1,rfl,ht1,sg1⟩;refine VC.fa Dr ?_;refine ld1 (v:=.int .i64 (i2:Int)) ct3 (by rw [(sg1.blk _ (lgR (_::_::rest) _ 0)).cell,UM];exact Hi _) trivial ?_;refine Ai.mk (ih2 B H0 _ bb _ _ (ns++ms1) root (rest++[pB 94 x (rnL (Ax 5 (i1:Int) (i2:Int)))]) na nc i2 ds ws hR hd hB hi2 (by simp only [UL];omega) sg1) ?_;rintro _ G2 ⟨ms2,a2,c2,hm2,hs2,rfl,ht2,sg2⟩;have p1:=AW w1.den;have p2:=AW w2.den;refine VC.fa Bt ?_;refine ld1 (v:=.int .i64 (Ax 5 (i1:Int) (i2:Int)).op) ct3 (by rw [(sg2.blk _ (lgR (_::_::rest) _ 0)).cell];exact Ch _) trivial ?_;refine Ai.mk (Ev (op:=5) (x:=((ns.length+ms1.length - 1:Nat):Int)) (y:=(((ns++ms1).length+ms2.length - 1:Nat):Int)) sg2 (by unfold A9;omega) (Bq (by omega)) (Bq (by simp only [UL];omega)) (by simp only [UL];omega)) ?_;rintro _ G3 ⟨rfl,a3,c3,sg3⟩;(conv=>whnf);exact(Eg (R:=.and_ w1.den w2.den) hm1 hs1 hm2 hs2 (fun h=>by cases h) rfl (fun ns' d j k' h1 h2 h3 h4=>⟨d,j,k',h1,by rw [h2];rfl,by rw [h2];rfl,by rw [h2];rfl,h3,h4⟩) ht1 ht2 sg3).drop
 | minus w1 w2 ih1 ih2=>
   intro B H0 H bb c a ns root rest na nc i ds ws hR hd hB hw hl st;obtain⟨d,hdd,hnr⟩:=hR.at2 hw;refine Ao.of_vc Tryz.func36 rfl (Tryz.call36 _) ?_;obtain⟨i1,i2,rfl,hi1,hi2⟩:=hnr;simp only [RwM.den,ReM.nodes]at hl;refine ixr (i:=i) CU (hd.frame (st.old.mono fun k hk=>hk)) hdd rfl ?_;rintro b2 o2 c2 hS2 hc2 ⟨rfl,hok⟩;refine ldN (cs:=rnL (Ax 6 (i1:Int) (i2:Int))) (by rw [Aq];exact Gn) hc2 trivial ?_;refine Ag _ rnZ FY rfl ?_;intro x H3 hx hs3 hb3 ha3;have st3:=st.box hx hs3 hb3 ha3;refine Ay (cs:=rnL (Ax 6 (i1:Int) (i2:Int))) st3 _ (by rw [Aq];rfl) (lgR (_::_::rest) _ 0) (by rw [Aq,AP];decide) (Br _) fun H4 st4=>?_;rw [Ae (show(rnL (Ax 6 (i1:Int) (i2:Int))).length=rnZ.length by rw [Aq,AP])]at st4;replace st4:StB B H0 H4 (reP bb a c ns root (rest++[pB 94 x (rnL (Ax 6 (i1:Int) (i2:Int)))])):=by
    have e:=lsR (pB tRe bb (reL (.slice a ns.length c) root)::pS tRn 94 a ns.length c ns::rest) [pB 94 x rnZ] 0 (pB 94 x (rnL (Ax 6 (i1:Int) (i2:Int))));rw [e]at st4;exact st4
   have hx4:Blk H4 x 94 (rnL (Ax 6 (i1:Int) (i2:Int))):=st4.blk _ (lgR (_::_::rest) _ 0);refine VC.fa Bt ?_;refine ld1 (v:=.int .i64 (Ax 6 (i1:Int) (i2:Int)).op) ct3 (by rw [hx4.cell];exact Ch _) trivial ?_;(conv=>whnf);try (refine Al.run ?_)
   (conv=>whnf);try (refine Al.run ?_)
   refine VC.fa BJ ?_;refine ld1 (v:=.int .i64 (i1:Int)) ct3 (by rw [(st4.blk _ (lgR (_::_::rest) _ 0)).cell,UM];exact Ea _) trivial ?_;refine Ai.mk (ih1 B H0 _ bb _ _ ns root (rest++[pB 94 x (rnL (Ax 6 (i1:Int) (i2:Int)))]) na nc i1 ds ws hR hd hB hi1 (by omega) st4) ?_;rintro _ G1 ⟨ms1,a1,c1,hm1,hs1,rfl,ht1,sg1⟩;refine VC.fa Dr ?_;refine ld1 (v:=.int .i64 (i2:Int)) ct3 (by rw [(sg1.blk _ (lgR (_::_::rest) _ 0)).cell,UM];exact Hi _) trivial ?_;refine Ai.mk (ih2 B H0 _ bb _ _ (ns++ms1) root (rest++[pB 94 x (rnL (Ax 6 (i1:Int) (i2:Int)))]) na nc i2 ds ws hR hd hB hi2 (by simp only [UL];omega) sg1) ?_;rintro _ G2 ⟨ms2,a2,c2,hm2,hs2,rfl,ht2,sg2⟩;have p1:=AW w1.den;have p2:=AW w2.den;refine VC.fa Bt ?_;refine ld1 (v:=.int .i64 (Ax 6 (i1:Int) (i2:Int)).op) ct3 (by rw [(sg2.blk _ (lgR (_::_::rest) _ 0)).cell];exact Ch _) trivial ?_;refine Ai.mk (Ev (op:=6) (x:=((ns.length+ms1.length - 1:Nat):Int)) (y:=(((ns++ms1).length+ms2.length - 1:Nat):Int)) sg2 (by unfold A9;omega) (Bq (by omega)) (Bq (by simp only [UL];omega)) (by simp only [UL];omega)) ?_;rintro _ G3 ⟨rfl,a3,c3,sg3⟩;(conv=>whnf);exact(Eg (R:=.minus w1.den w2.den) hm1 hs1 hm2 hs2 (fun h=>by cases h) rfl (fun ns' d j k' h1 h2 h3 h4=>⟨d,j,k',h1,by rw [h2];rfl,by rw [h2];rfl,by rw [h2];rfl,h3,h4⟩) ht1 ht2 sg3).drop
 | rep w m n ih=>
   intro B H0 H bb c a ns root rest na nc i ds ws hR hd hB hw hl st;obtain⟨d,hdd,hnr⟩:=hR.at2 hw;refine Ao.of_vc Tryz.func36 rfl (Tryz.call36 _) ?_;obtain⟨i1,rfl,hi1,hrk⟩:=hnr;refine ixr (i:=i) CU (hd.frame (st.old.mono fun k hk=>hk)) hdd rfl ?_;rintro b2 o2 c2 hS2 hc2 ⟨rfl,hok⟩;refine ldN (cs:=rnL (B8 (i1:Int) m n)) (by rw [Aq];exact Gn) hc2 trivial ?_;refine Ag _ rnZ FY rfl ?_;intro x H3 hx hs3 hb3 ha3;have st3:=st.box hx hs3 hb3 ha3;refine Ay (cs:=rnL (B8 (i1:Int) m n)) st3 _ (by rw [Aq];rfl) (lgR (_::_::rest) _ 0) (by rw [Aq,AP];decide) (Br _) fun H4 st4=>?_;rw [Ae (show(rnL (B8 (i1:Int) m n)).length=rnZ.length by rw [Aq,AP])]at st4;replace st4:StB B H0 H4 (reP bb a c ns root (rest++[pB 94 x (rnL (B8 (i1:Int) m n))])):=by
    have e:=lsR (pB tRe bb (reL (.slice a ns.length c) root)::pS tRn 94 a ns.length c ns::rest) [pB 94 x rnZ] 0 (pB 94 x (rnL (B8 (i1:Int) m n)));rw [e]at st4;exact st4
   have hx4:Blk H4 x 94 (rnL (B8 (i1:Int) m n)):=st4.blk _ (lgR (_::_::rest) _ 0);refine VC.fa Bt ?_;refine ld1 (v:=.int .i64 (B8 (i1:Int) m n).op) ct3 (by rw [hx4.cell];exact Ch _) trivial ?_;(conv=>whnf);try (refine Al.run ?_)
   (conv=>whnf);try (refine Al.run ?_)
   refine ldN (cs:=rnL (B8 (i1:Int) m n)) (by rw [Aq];exact Gn) (hx4.cells (o:=0) fun j v hv=>by rw [UM];exact hv) trivial ?_;refine Ai.mk (QN ih hR hd hB hi1 hrk hl st4) ?_;intro v G1 h;(conv=>whnf);exact GrP.drop h
end Go.Proofs.YtlnmhfhdjnenoaaGreatDoor
