/- Parts of the proof: PRd2, PRd3, VHeldT, PPa8, PDp7, PDp8, PDp9, PDp10 -/
import Derived.Test.YtfbghcpdinlmcaaGreatDoorKLt6
import Derived.Test.YtfbghcpdinlmcaaGreatDoorKLt5
import Derived.Test.YtfbghcpdinlmcaaGreatDoorKLt2
import Derived.Test.YtfbghcpdinlmcaaGreatDoorKLt7
set_option maxHeartbeats 64000000
open Array renaming replicate → AcO
open Bool renaming and_eq_true → Ab8
open Int renaming toNat_of_nonneg → AcS, toNat_natCast → AcT
open List renaming length_append → AaS, append_assoc → AaV, length_singleton → AbD, append_sublist_append_left → AbH, getElem?_set_self → AbK, getElem?_append_right → AbM, length_set → AbV, set_set → AbX, nil_sublist → AbY, mem_singleton → Ac3, append_nil → Ac4, getElem?_eq_some_iff → Ac5, getElem?_append_left → Ac8, getElem?_take → AcK, getElem?_map → AcL, all_eq_true → AcM, getElem?_replicate → AcN, mem_append → AcP, mem_cons → AcR, replicate → AcU
open Nat renaming zero_add → AaT, le_refl → AaU, mul_one → AbW, zero_le → AcF, mul_le_mul → AcQ
set_option linter.unusedVariables false
set_option linter.unusedSimpArgs false
set_option maxRecDepth 100000
namespace Go.Proofs.YtfbghcpdinlmcaaGreatDoor
open Go.VC Go.Lib
def Ef(ps:List Pc)(k r:Nat)(t:ByteArray)(q2 q3 i:Nat)(x:BitVec 256):List Pc:=ps.set k (pRd r t i)++[pB 101 q2 (Ac 0),pB 101 q3 (Ac x)]
theorem C0{ps:List Pc}{k r q2 q3 i:Nat}{t:ByteArray}{x:BitVec 256}{p:Pc}(hp:ps[k]? =some p):(Ef ps k r t q2 q3 i x)[k]? =some (pRd r t i):=lgL (lgS hp)
theorem C1{ps:List Pc}{k r q2 q3 i j:Nat}{t:ByteArray}{x:BitVec 256}{p:Pc}(hp:ps[k]? =some p):(Ef ps k r t q2 q3 i x).set k (pRd r t j)=Ef ps k r t q2 q3 j x:=by
 unfold Ef;rw [lsL (lgS hp),AbX]
theorem CH{ps:List Pc}{k r q2 q3 i:Nat}{t:ByteArray}{x:BitVec 256}:(Ef ps k r t q2 q3 i x)[(ps.set k (pRd r t i)).length+1]? =some (pB 101 q3 (Ac x)):=lgR _ _ 1
theorem K9{ps:List Pc}{k r q2 q3 i:Nat}{t:ByteArray}{x:BitVec 256}:(Ef ps k r t q2 q3 i x)[(ps.set k (pRd r t i)).length+0]? =some (pB 101 q2 (Ac 0)):=lgR _ _ 0
theorem Dc{H:Aa}{b:Nat}{x:BitVec 256}(h:Blk H b 101 (Ac x)):AX H b 0 (Ac x):=h.cells (fun j v hv=>by rw [AaT];exact hv)
structure MemI(B:Nat→Prop)(H0:Aa)(ps:List Pc)(k r:Nat)(t:ByteArray)(q2 q3:Nat)(M:Sum Nat (BitVec 256×Nat))(y:Nat×Nat×BitVec 256)(G:Aa):Prop where
 le:y.1≤t.size
 fuel:t.size<y.2.1+y.1
 eq:CX t y.2.1 y.1 y.2.2=M
 st:StB B H0 G (Ef ps k r t q2 q3 y.1 y.2.2)
theorem Sy{B:Nat→Prop}{H0 H:Aa}{ps:List Pc}{k r i:Nat}{t:ByteArray}(hE:Gu H0)(hEB:B 0)(ht:t.size≤1152921504606846976)(st:StB B H0 H ps)(hp:ps[k]? =some (pRd r t i))(hi:i≤t.size):
  BW Tryz.prog 241 #[.pointer (some ⟨r,0,none⟩)] H (fun v H'=>∃(x:BitVec 256) (j:Nat),HO t i= .inr (x,j)∧v=Bt x∧StB B H0 H' (ps.set k (pRd r t j)))
   (fun x H'=>∃e j:Nat,HO t i= .inl e∧x=Ee 10 e∧StB B H0 H' (ps.set k (pRd r t j))):=by
 refine BW.of_vc Tryz.func241 rfl (Tryz.call241 _) (An (Bt 0) (Ac 0) rfl rfl ?_);intro q2 H2 hq2 hs2 hb2 ha2;have st2:=st.box hq2 hs2 hb2 ha2;refine An (Bt 0) (Ac 0) rfl rfl ?_;intro q3 H3 hq3 hs3 hb3 ha3;have st3:=st2.box hq3 hs3 hb3 ha3;rw [AaV]at st3;replace st3:StB B H0 H3 (Ef ps k r t q2 q3 i 0#256):=by
  unfold Ef;rw [lset hp];exact st3
 refine Ah.of (Am (Ig (st3.blk k (C0 hp))) fun H4 ha4=>?_);have st4:=st3.call ha4;obtain⟨nt,hnt⟩:∃nt:Bool,nt=decide (bt t i=94):=⟨_,rfl⟩;have hbr:HO t i=match CX t (t.size+1) (if nt then i+1 else i) 0#256 with | .inl e=>.inl e | .inr (x,k)=>.inr (if nt then ~~~x else x,k):=by
  unfold HO;rw [hnt];by_cases h:bt t i=94
  ·simp only [h,if_true,decide_true];cases CX t (t.size+1) (i+1) 0#256<;>rfl
  ·simp only [h,if_false,decide_false,Bool.false_eq_true];cases CX t (t.size+1) i 0#256<;>rfl
 obtain⟨M,hM⟩:∃M,M=CX t (t.size+1) (if nt then i+1 else i) 0#256:=⟨_,rfl⟩;rw [←hM]at hbr;have hle:(if nt then i+1 else i)≤t.size:=by
  cases hn:nt with
  | false=>exact hi
  | true=>
    rw [hn]at hnt;have h94:=of_decide_eq_true hnt.symm;exact D2 (by omega)
 by_cases h0:bt t i=256
 ·have hn0:nt=false:=by rw [hnt,decide_eq_false];omega
  rw [if_pos h0,decide_eq_false (by omega)];(conv=>whnf);refine Bb.cut [] (fun _:Unit=>[]) (fun _ G=>StB B H0 G (Ef ps k r t q2 q3 (if nt then i+1 else i) 0#256)) ?_ ?_
  ·(conv=>whnf);exact⟨rfl,(),rfl,by rw [hn0];exact st4⟩
  ·rintro⟨⟩ G junk0 stg;(conv=>whnf);refine EG.mk [] (fun _:Nat×Nat×BitVec 256=>[]) (fun y G=>MemI B H0 ps k r t q2 q3 M y G) (fun y _=>t.size - y.1) ?_ ?_
   ·(conv=>whnf);exact⟨((if nt then i+1 else i),t.size+1,0#256),rfl,⟨hle,by simp only;omega,hM.symm,stg⟩⟩
   ·rintro⟨j,n,x⟩ J0 junk1 ⟨hj,hfu,heq,stl⟩;simp only at hj hfu heq stl;obtain⟨n,rfl⟩:∃m,n=m+1:=⟨n - 1,by omega⟩;(conv=>whnf);try (refine Bb.run ?_)
    refine Ah.of (Am (Ig (stl.blk k (C0 hp))) fun J1 ja1=>?_);have stl1:=stl.call ja1;by_cases hj0:bt t j=256
    ·rw [if_pos hj0,decide_eq_false (by omega)];have hmn:CX t (n+1) j x= .inl j:=by
      unfold CX;rw [if_neg (by omega)];have:BA t DD j= .inl j:=by unfold BA;rw [hj0,if_neg (by decide),if_pos (.inr (.inl (by decide)))]
      rw [this]
     (conv=>whnf);try (refine Bb.run ?_)
     refine Ah.mk (Hm (s:=DD) hE hEB ht stl1 (C0 hp)) ?_ ?_
     ·rintro _ J2 ⟨lo,j1,hlo,rfl,stl2⟩;exfalso;have:BA t DD j= .inl j:=by unfold BA;rw [hj0,if_neg (by decide),if_pos (.inr (.inl (by decide)))]
      rw [this]at hlo;cases hlo
     ·rintro _ J2 ⟨e,j1,hlo,rfl,stl2⟩;rw [C1 hp]at stl2;refine⟨e,j1,?_,rfl,stl2.lft⟩;have:BA t DD j= .inl j:=by unfold BA;rw [hj0,if_neg (by decide),if_pos (.inr (.inl (by decide)))]
      rw [this]at hlo;cases hlo;rw [hbr,←heq,hmn]
    ·have hjl:=D2 hj0;obtain⟨b1,hb1,hb2,hb3⟩:=Di hjl;rw [if_neg hj0,decide_eq_true (by omega)];by_cases h93:bt t j=93
     ·have d2:((bt t j:Int)==(93:Int))=true:=by rw [h93];rfl
      have hmn:M= .inr (x,j+1):=by rw [←heq];unfold CX;rw [if_pos h93]
      (conv=>whnf);try (refine Bb.run ?_)
      (conv=>whnf);rw [d2];refine VC.fa AC ?_;refine ld1 (v:=.int .i64 ((j:Nat):Int)) ct3 (by rw [(stl1.blk k (C0 hp)).cell];rfl) trivial ?_;(conv=>whnf);rw [w64 (x:=((j:Nat):Int)+1) (by omega) (by omega)];refine VC.fa AC (AZ stl1 k ct3 (C0 hp) (by simp) rfl fun J2 stl2=>?_);replace stl2:StB B H0 J2 ((Ef ps k r t q2 q3 j x).set k (pRd r t (j+1))):=stl2;rw [C1 hp]at stl2;rw [hmn]at hbr
      ·refine ldN (cs:=Ac x) AP (Dc (stl2.blk _ CH)) trivial (AI (cs:=Ac x) stl2 _ rfl K9 (AaU _) rfl fun J4 stl4=>?_);have hb4:Blk J4 q2 101 (Ac x):=by
        have:=stl4.blk _ (lgS K9);rwa [AD (by rfl)]at this
       unfold Ef at stl4;rw [lsR]at stl4;refine ldN (cs:=Ac x) AP (Dc hb4) trivial ?_;exact⟨x,j+1,by rw [hbr,hn0];rfl,rfl,stl4.lft⟩
     ·have d2:((bt t j:Int)==(93:Int))=false:=beq_eq_false_iff_ne.2 (by omega);(conv=>whnf);try (refine Bb.run ?_)
      (conv=>whnf);rw [d2];refine Ah.mk (Hm (s:=DD) hE hEB ht stl1 (C0 hp)) ?_ ?_
      ·rintro _ J2 ⟨lo,j1,hlo,rfl,stl2⟩;rw [C1 hp]at stl2;have hok:=Dd hlo;have hmn:CX t (n+1) j x=GJ t lo j1 x (CX t n):=by
        rw [CX,if_neg h93,hlo]
       rw [heq]at hmn;(conv=>whnf);try (refine Bb.run ?_)
       refine Ah.of (Am (Ig (stl2.blk k (C0 hp))) fun J3 ja3=>?_);have stl3:=stl2.call ja3;by_cases h45:bt t j1=45
       ·have hj1l:j1<t.size:=D2 (by omega);rw [if_neg (by omega),decide_eq_true (by omega)];unfold GJ at hmn;rw [if_pos h45]at hmn;have d3:((bt t j1:Int)==(45:Int))=true:=by rw [h45];rfl
        (conv=>whnf);try (refine Bb.run ?_)
        (conv=>whnf);rw [d3];refine VC.fa AC ?_;refine ld1 (v:=.int .i64 ((j1:Nat):Int)) ct3 (by rw [(stl3.blk k (C0 hp)).cell];rfl) trivial ?_;(conv=>whnf);rw [w64 (x:=((j1:Nat):Int)+1) (by omega) (by omega)];refine VC.fa AC (AZ stl3 k ct3 (C0 hp) (by simp) rfl fun J4 stl4=>?_);replace stl4:StB B H0 J4 ((Ef ps k r t q2 q3 j1 x).set k (pRd r t (j1+1))):=stl4;rw [C1 hp]at stl4;refine VC.fa AC ?_;refine ld1 (v:=.int .i64 ((j1+1:Nat):Int)) ct3 (by rw [(stl4.blk k (C0 hp)).cell];rfl) trivial ?_;refine Ah.mk (Hm (s:=DD) hE hEB ht stl4 (C0 hp)) ?_ ?_
        ·rintro _ J5 ⟨hi2,j2,hhi,rfl,stl5⟩;rw [C1 hp]at stl5;have hok2:=Dd hhi;rw [hhi]at hmn;by_cases hlt:hi2<lo
         ·have d4:decide ((hi2:Int)<(lo:Int))=true:=decide_eq_true (by omega);simp only [if_pos hlt]at hmn;(conv=>whnf);rw [d4];refine Ah.mk Dx (fun _ _ h=>h.elim) ?_;rintro _ _ ⟨rfl,rfl⟩;exact⟨j1+1,j2,by rw [hbr,hmn],rfl,stl5.lft⟩
         ·have d4:decide ((hi2:Int)<(lo:Int))=false:=decide_eq_false (by omega);simp only [if_neg hlt]at hmn;(conv=>whnf);rw [d4];refine Cw.held (Old J5) [5] (sq [0,1,2] (.f 3 (.f 4 (.f 5 .e)))) (Dn _ _) rfl (by kernel_rfl) (ldN (cs:=Ac x) AP (Dc (stl5.blk _ CH)) ((stl5.in_ _ CH (k:=q3) rfl).2) (Ah.of (Am (FV lo hi2 (by omega) (by omega) J5) fun J1 ja1=>(⟨ja1,?_⟩))));refine Ah.of (Am (FD x (A8 lo hi2) J1) fun J2 ja2=>?_);have ja3:=ja1.trans (ja2.mono fun k hk=>Aj ja1 hk);refine⟨ja3,?_⟩;have stj:=stl5.call ja3;refine AI (cs:=Ac (x ||| A8 lo hi2)) stj _ rfl CH (AaU _) rfl fun J4 stj4=>?_;rw [AD (by rfl)]at stj4;replace stj4:StB B H0 J4 (Ef ps k r t q2 q3 j2 (x ||| A8 lo hi2)):=by
           unfold Ef at stj4 ⊢;rw [lsR]at stj4;exact stj4
          (conv=>whnf);exact⟨rfl,(j2,n,x ||| A8 lo hi2),rfl,⟨by simp only;omega,by simp only;omega,hmn.symm,stj4⟩,by simp only;omega⟩
        ·rintro _ J5 ⟨e,j2,hhi,rfl,stl5⟩;rw [C1 hp]at stl5;rw [hhi]at hmn;exact⟨e,j2,by rw [hbr,hmn],rfl,stl5.lft⟩
       ·unfold GJ at hmn;rw [if_neg h45]at hmn;by_cases hj1:bt t j1=256
        ·rw [if_pos hj1,decide_eq_false (by omega)];(conv=>whnf);try (refine Bb.run ?_)
         refine Cw.held (Old J3) [5] (sq [0,1,2] (.f 3 (.f 4 (.f 5 .e)))) (Dn _ _) rfl (by kernel_rfl) (ldN (cs:=Ac x) AP (Dc (stl3.blk _ CH)) ((stl3.in_ _ CH (k:=q3) rfl).2) (Ah.of (Am (FV lo lo (by omega) (by omega) J3) fun J1 ja1=>(⟨ja1,?_⟩))));refine Ah.of (Am (FD x (A8 lo lo) J1) fun J2 ja2=>?_);have ja3:=ja1.trans (ja2.mono fun k hk=>Aj ja1 hk);refine⟨ja3,?_⟩;have stj:=stl3.call ja3;refine AI (cs:=Ac (x ||| A8 lo lo)) stj _ rfl CH (AaU _) rfl fun J4 stj4=>?_;rw [AD (by rfl)]at stj4;replace stj4:StB B H0 J4 (Ef ps k r t q2 q3 j1 (x ||| A8 lo lo)):=by
          unfold Ef at stj4 ⊢;rw [lsR]at stj4;exact stj4
         (conv=>whnf);exact⟨rfl,(j1,n,x ||| A8 lo lo),rfl,⟨by simp only;omega,by simp only;omega,hmn.symm,stj4⟩,by simp only;omega⟩
        ·have hb4:=Di (D2 hj1);rw [if_neg hj1,decide_eq_true (by omega)];have d3:((bt t j1:Int)==(45:Int))=false:=beq_eq_false_iff_ne.2 (by omega);(conv=>whnf);try (refine Bb.run ?_)
         (conv=>whnf);rw [d3];refine Cw.held (Old J3) [5] (sq [0,1,2] (.f 3 (.f 4 (.f 5 .e)))) (Dn _ _) rfl (by kernel_rfl) (ldN (cs:=Ac x) AP (Dc (stl3.blk _ CH)) ((stl3.in_ _ CH (k:=q3) rfl).2) (Ah.of (Am (FV lo lo (by omega) (by omega) J3) fun J1 ja1=>(⟨ja1,?_⟩))));refine Ah.of (Am (FD x (A8 lo lo) J1) fun J2 ja2=>?_);have ja3:=ja1.trans (ja2.mono fun k hk=>Aj ja1 hk);refine⟨ja3,?_⟩;have stj:=stl3.call ja3;refine AI (cs:=Ac (x ||| A8 lo lo)) stj _ rfl CH (AaU _) rfl fun J4 stj4=>?_;rw [AD (by rfl)]at stj4;replace stj4:StB B H0 J4 (Ef ps k r t q2 q3 j1 (x ||| A8 lo lo)):=by
          unfold Ef at stj4 ⊢;rw [lsR]at stj4;exact stj4
         (conv=>whnf);exact⟨rfl,(j1,n,x ||| A8 lo lo),rfl,⟨by simp only;omega,by simp only;omega,hmn.symm,stj4⟩,by simp only;omega⟩
      ·rintro _ J2 ⟨e,j1,hlo,rfl,stl2⟩;rw [C1 hp]at stl2;refine⟨e,j1,?_,rfl,stl2.lft⟩;rw [hbr,←heq];unfold CX;rw [if_neg h93,hlo]
 ·have d1:((bt t i:Int)==(94:Int))=nt:=by
   rw [hnt];by_cases h:bt t i=94
   ·rw [h];rfl
   ·rw [decide_eq_false h];exact beq_eq_false_iff_ne.2 (by omega)
  rw [if_neg h0,decide_eq_true (by omega)];(conv=>whnf);rw [d1];(conv=>whnf);refine Bb.cut [] (fun _:Unit=>[]) (fun _ G=>StB B H0 G (Ef ps k r t q2 q3 (if nt then i+1 else i) 0#256)) ?_ ?_
  ·refine AN.mk (fun hn=>?_) (fun hn=>?_)
   ·(conv=>whnf);refine VC.fa AC ?_;refine ld1 (v:=.int .i64 ((i:Nat):Int)) ct3 (by rw [(st4.blk k (C0 hp)).cell];rfl) trivial ?_;(conv=>whnf);rw [w64 (x:=((i:Nat):Int)+1) (by omega) (by omega)];refine VC.fa AC (AZ st4 k ct3 (C0 hp) (by simp) rfl fun H5 st5=>?_);replace st5:StB B H0 H5 ((Ef ps k r t q2 q3 i 0#256).set k (pRd r t (i+1))):=st5;rw [C1 hp]at st5;exact⟨rfl,(),rfl,by rw [hn];exact st5⟩
   ·(conv=>whnf);exact⟨rfl,(),rfl,by rw [hn];exact st4⟩
  ·rintro⟨⟩ G junk0 stg;(conv=>whnf);refine EG.mk [] (fun _:Nat×Nat×BitVec 256=>[]) (fun y G=>MemI B H0 ps k r t q2 q3 M y G) (fun y _=>t.size - y.1) ?_ ?_
   ·(conv=>whnf);exact⟨((if nt then i+1 else i),t.size+1,0#256),rfl,⟨hle,by simp only;omega,hM.symm,stg⟩⟩
   ·rintro⟨j,n,x⟩ J0 junk1 ⟨hj,hfu,heq,stl⟩;simp only at hj hfu heq stl;obtain⟨n,rfl⟩:∃m,n=m+1:=⟨n - 1,by omega⟩;(conv=>whnf);try (refine Bb.run ?_)
    refine Ah.of (Am (Ig (stl.blk k (C0 hp))) fun J1 ja1=>?_);have stl1:=stl.call ja1;by_cases hj0:bt t j=256
    ·rw [if_pos hj0,decide_eq_false (by omega)];have hmn:CX t (n+1) j x= .inl j:=by
      unfold CX;rw [if_neg (by omega)];have:BA t DD j= .inl j:=by unfold BA;rw [hj0,if_neg (by decide),if_pos (.inr (.inl (by decide)))]
      rw [this]
     (conv=>whnf);try (refine Bb.run ?_)
     refine Ah.mk (Hm (s:=DD) hE hEB ht stl1 (C0 hp)) ?_ ?_
     ·rintro _ J2 ⟨lo,j1,hlo,rfl,stl2⟩;exfalso;have:BA t DD j= .inl j:=by unfold BA;rw [hj0,if_neg (by decide),if_pos (.inr (.inl (by decide)))]
      rw [this]at hlo;cases hlo
     ·rintro _ J2 ⟨e,j1,hlo,rfl,stl2⟩;rw [C1 hp]at stl2;refine⟨e,j1,?_,rfl,stl2.lft⟩;have:BA t DD j= .inl j:=by unfold BA;rw [hj0,if_neg (by decide),if_pos (.inr (.inl (by decide)))]
      rw [this]at hlo;cases hlo;rw [hbr,←heq,hmn]
    ·have hjl:=D2 hj0;obtain⟨b1,hb1,hb2,hb3⟩:=Di hjl;rw [if_neg hj0,decide_eq_true (by omega)];by_cases h93:bt t j=93
     ·have d2:((bt t j:Int)==(93:Int))=true:=by rw [h93];rfl
      have hmn:M= .inr (x,j+1):=by rw [←heq];unfold CX;rw [if_pos h93]
      (conv=>whnf);try (refine Bb.run ?_)
      (conv=>whnf);rw [d2];refine VC.fa AC ?_;refine ld1 (v:=.int .i64 ((j:Nat):Int)) ct3 (by rw [(stl1.blk k (C0 hp)).cell];rfl) trivial ?_;(conv=>whnf);rw [w64 (x:=((j:Nat):Int)+1) (by omega) (by omega)];refine VC.fa AC (AZ stl1 k ct3 (C0 hp) (by simp) rfl fun J2 stl2=>?_);replace stl2:StB B H0 J2 ((Ef ps k r t q2 q3 j x).set k (pRd r t (j+1))):=stl2;rw [C1 hp]at stl2;rw [hmn]at hbr;refine AN.mk (fun hn=>?_) (fun hn=>?_)
      ·refine ldN (cs:=Ac x) AP (Dc (stl2.blk _ CH)) trivial (Ah.of (Am (Wk x J2) fun J3 ja3=>?_));have stl3:=stl2.call ja3;refine AI (cs:=Ac (~~~x)) stl3 _ rfl K9 (AaU _) rfl fun J4 stl4=>?_;have hb4:Blk J4 q2 101 (Ac (~~~x)):=by
        have:=stl4.blk _ (lgS K9);rwa [AD (by rfl)]at this
       unfold Ef at stl4;rw [lsR]at stl4;refine ldN (cs:=Ac (~~~x)) AP (Dc hb4) trivial ?_;exact⟨~~~x,j+1,by rw [hbr,hn];rfl,rfl,stl4.lft⟩
      ·refine ldN (cs:=Ac x) AP (Dc (stl2.blk _ CH)) trivial (AI (cs:=Ac x) stl2 _ rfl K9 (AaU _) rfl fun J4 stl4=>?_);have hb4:Blk J4 q2 101 (Ac x):=by
        have:=stl4.blk _ (lgS K9);rwa [AD (by rfl)]at this
       unfold Ef at stl4;rw [lsR]at stl4;refine ldN (cs:=Ac x) AP (Dc hb4) trivial ?_;exact⟨x,j+1,by rw [hbr,hn];rfl,rfl,stl4.lft⟩
     ·have d2:((bt t j:Int)==(93:Int))=false:=beq_eq_false_iff_ne.2 (by omega);(conv=>whnf);try (refine Bb.run ?_)
      (conv=>whnf);rw [d2];refine Ah.mk (Hm (s:=DD) hE hEB ht stl1 (C0 hp)) ?_ ?_
      ·rintro _ J2 ⟨lo,j1,hlo,rfl,stl2⟩;rw [C1 hp]at stl2;have hok:=Dd hlo;have hmn:CX t (n+1) j x=GJ t lo j1 x (CX t n):=by
        rw [CX,if_neg h93,hlo]
       rw [heq]at hmn;(conv=>whnf);try (refine Bb.run ?_)
       refine Ah.of (Am (Ig (stl2.blk k (C0 hp))) fun J3 ja3=>?_);have stl3:=stl2.call ja3;by_cases h45:bt t j1=45
       ·have hj1l:j1<t.size:=D2 (by omega);rw [if_neg (by omega),decide_eq_true (by omega)];unfold GJ at hmn;rw [if_pos h45]at hmn;have d3:((bt t j1:Int)==(45:Int))=true:=by rw [h45];rfl
        (conv=>whnf);try (refine Bb.run ?_)
        (conv=>whnf);rw [d3];refine VC.fa AC ?_;refine ld1 (v:=.int .i64 ((j1:Nat):Int)) ct3 (by rw [(stl3.blk k (C0 hp)).cell];rfl) trivial ?_;(conv=>whnf);rw [w64 (x:=((j1:Nat):Int)+1) (by omega) (by omega)];refine VC.fa AC (AZ stl3 k ct3 (C0 hp) (by simp) rfl fun J4 stl4=>?_);replace stl4:StB B H0 J4 ((Ef ps k r t q2 q3 j1 x).set k (pRd r t (j1+1))):=stl4;rw [C1 hp]at stl4;refine VC.fa AC ?_;refine ld1 (v:=.int .i64 ((j1+1:Nat):Int)) ct3 (by rw [(stl4.blk k (C0 hp)).cell];rfl) trivial ?_;refine Ah.mk (Hm (s:=DD) hE hEB ht stl4 (C0 hp)) ?_ ?_
        ·rintro _ J5 ⟨hi2,j2,hhi,rfl,stl5⟩;rw [C1 hp]at stl5;have hok2:=Dd hhi;rw [hhi]at hmn;by_cases hlt:hi2<lo
         ·have d4:decide ((hi2:Int)<(lo:Int))=true:=decide_eq_true (by omega);simp only [if_pos hlt]at hmn;(conv=>whnf);rw [d4];refine Ah.mk Dx (fun _ _ h=>h.elim) ?_;rintro _ _ ⟨rfl,rfl⟩;exact⟨j1+1,j2,by rw [hbr,hmn],rfl,stl5.lft⟩
         ·have d4:decide ((hi2:Int)<(lo:Int))=false:=decide_eq_false (by omega);simp only [if_neg hlt]at hmn;(conv=>whnf);rw [d4];refine Cw.held (Old J5) [5] (sq [0,1,2] (.f 3 (.f 4 (.f 5 .e)))) (Dn _ _) rfl (by kernel_rfl) (ldN (cs:=Ac x) AP (Dc (stl5.blk _ CH)) ((stl5.in_ _ CH (k:=q3) rfl).2) (Ah.of (Am (FV lo hi2 (by omega) (by omega) J5) fun J1 ja1=>(⟨ja1,?_⟩))));refine Ah.of (Am (FD x (A8 lo hi2) J1) fun J2 ja2=>?_);have ja3:=ja1.trans (ja2.mono fun k hk=>Aj ja1 hk);refine⟨ja3,?_⟩;have stj:=stl5.call ja3;refine AI (cs:=Ac (x ||| A8 lo hi2)) stj _ rfl CH (AaU _) rfl fun J4 stj4=>?_;rw [AD (by rfl)]at stj4;replace stj4:StB B H0 J4 (Ef ps k r t q2 q3 j2 (x ||| A8 lo hi2)):=by
           unfold Ef at stj4 ⊢;rw [lsR]at stj4;exact stj4
          (conv=>whnf);exact⟨rfl,(j2,n,x ||| A8 lo hi2),rfl,⟨by simp only;omega,by simp only;omega,hmn.symm,stj4⟩,by simp only;omega⟩
        ·rintro _ J5 ⟨e,j2,hhi,rfl,stl5⟩;rw [C1 hp]at stl5;rw [hhi]at hmn;exact⟨e,j2,by rw [hbr,hmn],rfl,stl5.lft⟩
       ·unfold GJ at hmn;rw [if_neg h45]at hmn;by_cases hj1:bt t j1=256
        ·rw [if_pos hj1,decide_eq_false (by omega)];(conv=>whnf);try (refine Bb.run ?_)
         refine Cw.held (Old J3) [5] (sq [0,1,2] (.f 3 (.f 4 (.f 5 .e)))) (Dn _ _) rfl (by kernel_rfl) (ldN (cs:=Ac x) AP (Dc (stl3.blk _ CH)) ((stl3.in_ _ CH (k:=q3) rfl).2) (Ah.of (Am (FV lo lo (by omega) (by omega) J3) fun J1 ja1=>(⟨ja1,?_⟩))));refine Ah.of (Am (FD x (A8 lo lo) J1) fun J2 ja2=>?_);have ja3:=ja1.trans (ja2.mono fun k hk=>Aj ja1 hk);refine⟨ja3,?_⟩;have stj:=stl3.call ja3;refine AI (cs:=Ac (x ||| A8 lo lo)) stj _ rfl CH (AaU _) rfl fun J4 stj4=>?_;rw [AD (by rfl)]at stj4;replace stj4:StB B H0 J4 (Ef ps k r t q2 q3 j1 (x ||| A8 lo lo)):=by
          unfold Ef at stj4 ⊢;rw [lsR]at stj4;exact stj4
         (conv=>whnf);exact⟨rfl,(j1,n,x ||| A8 lo lo),rfl,⟨by simp only;omega,by simp only;omega,hmn.symm,stj4⟩,by simp only;omega⟩
        ·have hb4:=Di (D2 hj1);rw [if_neg hj1,decide_eq_true (by omega)];have d3:((bt t j1:Int)==(45:Int))=false:=beq_eq_false_iff_ne.2 (by omega);(conv=>whnf);try (refine Bb.run ?_)
         (conv=>whnf);rw [d3];refine Cw.held (Old J3) [5] (sq [0,1,2] (.f 3 (.f 4 (.f 5 .e)))) (Dn _ _) rfl (by kernel_rfl) (ldN (cs:=Ac x) AP (Dc (stl3.blk _ CH)) ((stl3.in_ _ CH (k:=q3) rfl).2) (Ah.of (Am (FV lo lo (by omega) (by omega) J3) fun J1 ja1=>(⟨ja1,?_⟩))));refine Ah.of (Am (FD x (A8 lo lo) J1) fun J2 ja2=>?_);have ja3:=ja1.trans (ja2.mono fun k hk=>Aj ja1 hk);refine⟨ja3,?_⟩;have stj:=stl3.call ja3;refine AI (cs:=Ac (x ||| A8 lo lo)) stj _ rfl CH (AaU _) rfl fun J4 stj4=>?_;rw [AD (by rfl)]at stj4;replace stj4:StB B H0 J4 (Ef ps k r t q2 q3 j1 (x ||| A8 lo lo)):=by
          unfold Ef at stj4 ⊢;rw [lsR]at stj4;exact stj4
         (conv=>whnf);exact⟨rfl,(j1,n,x ||| A8 lo lo),rfl,⟨by simp only;omega,by simp only;omega,hmn.symm,stj4⟩,by simp only;omega⟩
      ·rintro _ J2 ⟨e,j1,hlo,rfl,stl2⟩;rw [C1 hp]at stl2;refine⟨e,j1,?_,rfl,stl2.lft⟩;rw [hbr,←heq];unfold CX;rw [if_neg h93,hlo]
end Go.Proofs.YtfbghcpdinlmcaaGreatDoor
namespace Go.VC
theorem Rr{P:Program}{t A:TypeId}{S:Nat→Prop}{H:Aa}{K:Value→Prop}{v:Value}{d:TypeDesc}(hd:P.underlying A=some d)(hn:∀ms,d≠ .interface ms)(k:K v):AJ P (Instr.typeAssert (.iface A v) t A false) S H K:=by
 refine AJ.mk _ (fun w _=>?_) k;unfold Instr.typeAssert;simp only [Sem.run_bind,run_underlying hd,Result.andThen_ok];cases d<;>first | (exact absurd rfl (hn _)) | simp
end Go.VC
namespace Go.Proofs.YtfbghcpdinlmcaaGreatDoor
open Go.VC Go.Lib
theorem AbU:ofB 0#256 (byN ⟨#[10]⟩)=A8 10 10:=by decide+kernel
theorem ZL{B:Nat→Prop}{H0 H:Aa}{ps:List Pc}{k r i:Nat}{t:ByteArray}(hE:Gu H0)(hEB:B 0)(ht:t.size≤1152921504606846976)(st:StB B H0 H ps)(hp:ps[k]? =some (pRd r t i))(hi:i<t.size):
  BW Tryz.prog 234 #[.pointer (some ⟨r,0,none⟩)] H (fun v H'=>∃(x:BitVec 256) (j:Nat),BE t i= .inr (x,j)∧v=Bt x∧StB B H0 H' (ps.set k (pRd r t j)))
   (fun x H'=>∃e j:Nat,BE t i= .inl e∧x=Ee 10 e∧StB B H0 H' (ps.set k (pRd r t j))):=by
 refine BW.of_vc Tryz.func234 rfl (Tryz.call234 _) ?_;obtain⟨b,hb1,hb2,hb3⟩:=Di hi;refine An (Bt 0) (Ac 0) rfl rfl ?_;intro q2 H2 hq2 hs2 hb2' ha2;have st2:=st.box hq2 hs2 hb2' ha2;have hp2:(ps++[pB 101 q2 (Ac 0)])[k]? =some (pRd r t i):=lgL hp;have hset:∀(j:Nat),(ps++[pB 101 q2 (Ac 0)]).set k (pRd r t j)=ps.set k (pRd r t j)++[pB 101 q2 (Ac 0)]:=fun j=>lsL hp;have hl:∀(j:Nat),(ps.set k (pRd r t j)++[pB 101 q2 (Ac 0)])[(ps.set k (pRd r t j)).length]? =some (pB 101 q2 (Ac 0)):=fun j=>Es _ _;have hbr:=st2.blk k hp2;refine Cw.of (Ar.lex rfl (by kernel_rfl) (VC.fa Pf ?_));refine ld1 (v:=.string t) ct9 (by rw [hbr.cell];rfl) trivial ?_;refine VC.fa AC ?_;refine ld1 (v:=.int .i64 (i:Int)) ct3 (by rw [hbr.cell];rfl) trivial ?_;refine DJ Fz rfl hb1 ?_;rw [←hb2];have fin:∀(x:BitVec 256) (j:Nat) (G:Aa),BE t i= .inr (x,j)→StB B H0 G (ps.set k (pRd r t j)++[pB 101 q2 (Ac 0)])→True:=fun _ _ _ _ _=>trivial;by_cases h46:bt t i=46
 ·have d1:((bt t i:Int)==(46:Int))=true:=by rw [h46];rfl
  (conv=>whnf);try (refine Bb.run ?_)
  (conv=>whnf);rw [d1];refine VC.fa AC ?_;refine ld1 (v:=.int .i64 ((i:Nat):Int)) ct3 (by rw [(st2.blk k hp2).cell];rfl) trivial ?_;(conv=>whnf);rw [w64 (x:=((i:Nat):Int)+1) (by omega) (by omega)];refine VC.fa AC (AZ st2 k ct3 hp2 (by simp) rfl fun H4 st4=>?_);replace st4:StB B H0 H4 ((ps++[pB 101 q2 (Ac 0)]).set k (pRd r t (i+1))):=st4;rw [hset]at st4;refine Ah.of (Am (of_p ⟨#[10]⟩ (by decide) H4) fun H5 ha5=>?_);have st5:=st4.call ha5;rw [AbU];refine Ah.of (Am (Wk (A8 10 10) H5) fun H6 ha6=>?_);have st6:=st5.call ha6;refine AI (cs:=Ac (~~~(A8 10 10))) st6 _ rfl (hl _) (AaU _) rfl fun H7 st7=>?_;have hb7:Blk H7 q2 101 (Ac (~~~(A8 10 10))):=by
   have:=st7.blk _ (lgS (hl _));rwa [AD (by rfl)]at this
  rw [QA]at st7;refine ldN (cs:=Ac (~~~(A8 10 10))) AP (Dc hb7) trivial ?_;exact⟨_,i+1,by unfold BE;rw [if_pos h46],rfl,st7.lft⟩
 have d1:((bt t i:Int)==(46:Int))=false:=beq_eq_false_iff_ne.2 (by omega);by_cases h91:bt t i=91
 ·have d2:((bt t i:Int)==(91:Int))=true:=by rw [h91];rfl
  have hrs:BE t i=HO t (i+1):=by unfold BE;rw [if_neg h46,if_pos h91]
  (conv=>whnf);try (refine Bb.run ?_)
  (conv=>whnf);rw [d1];(conv=>whnf);rw [d2];refine VC.fa AC ?_;refine ld1 (v:=.int .i64 ((i:Nat):Int)) ct3 (by rw [(st2.blk k hp2).cell];rfl) trivial ?_;(conv=>whnf);rw [w64 (x:=((i:Nat):Int)+1) (by omega) (by omega)];refine VC.fa AC (AZ st2 k ct3 hp2 (by simp) rfl fun H4 st4=>?_);replace st4:StB B H0 H4 ((ps++[pB 101 q2 (Ac 0)]).set k (pRd r t (i+1))):=st4;refine Ah.mk (Sy hE hEB ht st4 (lgS hp2) (by omega)) ?_ ?_
  ·rintro _ H5 ⟨x,j,hx,rfl,st5⟩;rw [AbX,hset]at st5;refine AI (cs:=Ac x) st5 _ rfl (hl _) (AaU _) rfl fun H7 st7=>?_;have hb7:Blk H7 q2 101 (Ac x):=by
    have:=st7.blk _ (lgS (hl _));rwa [AD (by rfl)]at this
   rw [QA]at st7;refine ldN (cs:=Ac x) AP (Dc hb7) trivial ?_;exact⟨x,j,by rw [hrs,hx],rfl,st7.lft⟩
  ·rintro _ H5 ⟨e,j,hx,rfl,st5⟩;rw [AbX,hset]at st5;exact⟨e,j,by rw [hrs,hx],rfl,st5.lft⟩
 have d2:((bt t i:Int)==(91:Int))=false:=beq_eq_false_iff_ne.2 (by omega);have hrs:BE t i=match BA t E6 i with | .inl e=>.inl e | .inr (b,k)=>.inr (A8 b b,k):=by unfold BE;rw [if_neg h46,if_neg h91];rfl
 (conv=>whnf);try (refine Bb.run ?_)
 (conv=>whnf);rw [d1];(conv=>whnf);rw [d2];refine Ah.mk (Hm (s:=E6) hE hEB ht st2 hp2) ?_ ?_
 ·rintro _ H5 ⟨c,j,hx,rfl,st5⟩;have hok:=Dd hx;rw [hset]at st5;rw [hx]at hrs;refine Ah.of (Am (FV c c (by omega) (by omega) H5) fun H6 ha6=>?_);have st6:=st5.call ha6;refine AI (cs:=Ac (A8 c c)) st6 _ rfl (hl _) (AaU _) rfl fun H7 st7=>?_;have hb7:Blk H7 q2 101 (Ac (A8 c c)):=by
   have:=st7.blk _ (lgS (hl _));rwa [AD (by rfl)]at this
  rw [QA]at st7;refine ldN (cs:=Ac (A8 c c)) AP (Dc hb7) trivial ?_;exact⟨_,j,hrs,rfl,st7.lft⟩
 ·rintro _ H5 ⟨e,j,hx,rfl,st5⟩;rw [hset]at st5;rw [hx]at hrs;exact⟨e,j,hrs,rfl,st5.lft⟩
def EK(c i:Nat):Value:=.agg #[.int .i64 (c:Int),.int .i64 (i:Int),.string ⟨#[]⟩]
def Ap(c i:Nat):List Value:=[.int .i64 (c:Int),.int .i64 (i:Int),.string ⟨#[]⟩]
def TA(q4 q5 q6:Nat)(x:BitVec 256)(j c e:Nat):List Pc:=[pB 101 q4 (Ac x),pB 3 q5 [.int .i64 (j:Int)],pB 68 q6 (Ap c e)]
theorem Yw{H:Aa}{q4 q5 q6:Nat}{K:Aa→Prop}(k:K H):Fa Tryz.prog 233 #[.pointer (some ⟨q4,0,none⟩),.pointer (some ⟨q5,0,none⟩),.pointer (some ⟨q6,0,none⟩)] .returning .returning H K:=by
 refine Fa.mk (R:=fun H'=>H'=H) (GY (R:=fun H'=>H'=H) Tryz.func233 rfl ⟨⟨_,rfl⟩,rfl,rfl,rfl,rfl,rfl⟩ .ret rfl ?_) (fun H' h=>by rw [h];exact k);(conv=>whnf);refine⟨rfl,?_⟩;refine Pk Tryz.underlying20 ?_;(conv=>whnf)
theorem Yv{B:Nat→Prop}{H0 H:Aa}{q4 q5 q6 e j c0 e0:Nat}{x:BitVec 256}{ps:List Pc}{K:Aa→Prop}(st:StB B H0 H (TA q4 q5 q6 x j c0 e0++ps))(k:∀H',StB B H0 H' (TA q4 q5 q6 0 0 10 e++ps)→K H'):
  Fa Tryz.prog 233 #[.pointer (some ⟨q4,0,none⟩),.pointer (some ⟨q5,0,none⟩),.pointer (some ⟨q6,0,none⟩)] (.panicking (pe (Ee 10 e))) (.panicking [{v:=Ee 10 e,recovered:=true}]) H K:=by
 refine Fa.mk (R:=fun H'=>StB B H0 H' (TA q4 q5 q6 0 0 10 e++ps)) (GY (R:=fun H'=>StB B H0 H' (TA q4 q5 q6 0 0 10 e++ps)) Tryz.func233 rfl ⟨⟨_,rfl⟩,rfl,rfl,rfl,rfl,rfl⟩ (.pan _) rfl ?_) k;(conv=>whnf);refine⟨rfl,?_⟩;refine NO Tryz.underlying20 (Ar.held (fun _=>False) 6 (sq [0,1,2] (.f 3 (.f 4 (.f 5 .e)))) rfl (by kernel_rfl) (Ct Cc (Bt 0) rfl (Ac 0) rfl (Rr Tryz.underlying68 (fun ms h=>by cases h) (AI (cs:=Ac 0) st 0 rfl rfl (AaU _) rfl fun H1 st1=>(⟨fun k hk=>hk.elim,?_⟩)))));refine AZ st1 1 ct3 rfl (by simp) rfl fun H2 st2=>(⟨fun k hk=>hk.elim,?_⟩);refine AI (cs:=Ap 10 e) st2 2 rfl rfl (AaU _) rfl fun H3 st3=>(⟨fun k hk=>hk.elim,?_⟩);(conv=>whnf);have e1:Ai (Ac x) 0 (Ac 0)=Ac 0:=AD rfl;have e2:Ai (Ap c0 e0) 0 (Ap 10 e)=Ap 10 e:=AD rfl;rw [e2]at st3;rw [e1]at st3;exact st3
def Ma(t:ByteArray)(i:Nat)(v:Value):Prop:=match BE t i with
 | .inl e=>v= .tuple #[Bt 0,.int .i64 0,EK 10 e]
 | .inr (x,j)=>v= .tuple #[Bt x,.int .i64 (j:Int),EK 0 0]
theorem Fc{H:Aa}{t:ByteArray}{i:Nat}(hE:Gu H)(ht:t.size≤1152921504606846976)(hi:i<t.size):
  Al Tryz.prog 218 #[.string t,.int .i64 (i:Int)] H fun v H'=>Agr (Old H) H H'∧Ma t i v:=by
 refine Al.of_defer Tryz.func218 rfl (Tryz.call218 _) ⟨rfl,rfl,rfl,⟨_,rfl⟩,rfl,rfl⟩ (fun vs w=>Tryz.call233 _ w) (An (Bt 0) (Ac 0) rfl rfl ?_);intro q4 H1 hq1 hs1 hb1 ha1;have st1:=(St.nil H).box hq1 hs1 hb1 ha1;refine An (.int .i64 0) [.int .i64 0] rfl rfl ?_;intro q5 H2 hq2 hs2 hb2 ha2;have st2:=st1.box hq2 hs2 hb2 ha2;refine An (EK 0 0) (Ap 0 0) rfl rfl ?_;intro q6 H3 hq3 hs3 hb3 ha3;have st3:=st2.box hq3 hs3 hb3 ha3;have d1:decide ((i:Int)<0)=false:=decide_eq_false (by omega);have d2:decide ((i:Int)≥(t.size:Int))=false:=decide_eq_false (by omega);(conv=>whnf);rw [d1];(conv=>whnf);rw [d2];(conv=>whnf);refine⟨rfl,?_⟩;refine Aw Tryz.underlying357 rfl _ rfl (rdL t i) rfl (Cq (rdL t i) rfl ?_);intro r H4 hq4 hs4 hb4 ha4;have st4:=st3.box hq4 hs4 hb4 ha4;have o3:q4<q5:=by have:q5=H1.size:=hq2;omega
 have o4:q5<q6:=by have:q6=H2.size:=hq3;omega
 have o5:q6<r:=by have:r=H3.size:=hq4;omega
 refine Ah.mk (ZL (k:=3) hE hE.2 ht st4 rfl hi) ?_ ?_
 ·rintro _ H5 ⟨x,j,hx,rfl,st5⟩;refine AI (cs:=Ac x) st5 0 rfl rfl (AaU _) rfl fun H6 st6=>?_;have e1:Ai (Ac 0) 0 (Ac x)=Ac x:=AD rfl;rw [e1]at st6;have b4:=st6.blk 0 rfl;have br:Blk H6 r 357 (rdL t j):=st6.blk 3 rfl;refine Cw.held (fun k=>k=q4∨k=r) [] (sq [0,1,2,3,4,5] (.f 6 (.f 7 (.f 8 .e)))) (R9 (R:=fun v H5=>Agr (Old H) H H5∧Ma t i v) (by kernel_rfl)) rfl (by kernel_rfl) (ldN (cs:=Ac x) AP (Dc b4) (.inl rfl) (VC.fa AC ?_));refine ld1 (v:=.int .i64 (j:Int)) ct3 (by rw [br.cell];rfl) (.inr rfl) ?_;refine Aw Tryz.underlying68 rfl _ rfl (Ap 0 0) rfl (Br (cs:=Ac x) st6 0 rfl rfl (AaU _) rfl fun H7 st7 ha7 hs7=>?_);have e2:Ai (Ac x) 0 (Ac x)=Ac x:=AD rfl;rw [e2]at st7;have a7:Agr (fun k=>k=q4∨k=r) H6 H7:=fun k hk=>by
   rcases hk with h | h
   ·rw [h];exact(st7.blk 0 rfl).trans b4.symm
   ·exact ha7 _ (show k≠q4 by omega)
  refine⟨a7,?_⟩;refine TG st7 1 ct3 rfl (by simp) rfl fun H8 st8 ha8 hs8=>?_;have a8:Agr (fun k=>k=q4∨k=r) H6 H8:=a7.trans (ha8.mono fun k hk=>by rcases hk with rfl | rfl<;>omega);refine⟨a8,?_⟩;refine Br (cs:=Ap 0 0) st8 2 rfl rfl (AaU _) rfl fun H9 st9 ha9 hs9=>?_;have a9:Agr (fun k=>k=q4∨k=r) H6 H9:=a8.trans (ha9.mono fun k hk=>by rcases hk with rfl | rfl<;>omega);refine⟨a9,?_⟩;(conv=>whnf);refine Yw (ldN (cs:=Ac x) AP (Dc (st9.blk 0 rfl)) trivial ?_);refine ld1 (v:=.int .i64 (j:Int)) ct3 (by rw [(st9.blk 1 rfl).cell];rfl) trivial ?_;refine ldN (cs:=Ap 0 0) Mh ((st9.blk 2 rfl).cells (fun j v hv=>by rw [AaT];exact hv)) trivial ?_;refine⟨st9.old,?_⟩;unfold Ma;rw [hx];rfl
 ·rintro _ H5 ⟨e,j,hx,rfl,st5⟩;refine Yv (q4:=q4) (q5:=q5) (q6:=q6) (x:=0) (j:=0) (c0:=0) (e0:=0) st5 fun H6 st6=>(ldN (cs:=Ac 0) AP (Dc (st6.blk 0 rfl)) trivial ?_);refine ld1 (v:=.int .i64 0) ct3 (by rw [(st6.blk 1 rfl).cell];rfl) trivial ?_;refine ldN (cs:=Ap 10 e) Mh ((st6.blk 2 rfl).cells (fun j v hv=>by rw [AaT];exact hv)) trivial ?_;refine⟨st6.old,?_⟩;unfold Ma;rw [hx];rfl
end Go.Proofs.YtfbghcpdinlmcaaGreatDoor
namespace Go.VC
inductive Sc3 where
 | e
 | q (i:Nat) (s:Sc3)
 | f (i:Nat) (s:Sc3)
 | b (i:Nat) (s:Sc3) (j:Nat) (s':Sc3)
 | t (i:Nat) (s:Sc3) (j:Nat) (s':Sc3) (k:Nat) (s'':Sc3)
def sq3:List Nat→Sc3→Sc3
 | [],s=>s
 | i::l,s=>.q i (sq3 l s)
def Sc3.len:Sc3→Nat
 | .e=>0
 | .q _ s=>s.len+1
 | .f _ s=>s.len+1
 | .b _ s _ _=>s.len+1
 | .t _ s _ _ _ _=>s.len+1
def Sc3.even:Sc3→Bool
 | .e=>true
 | .q _ s=>s.even
 | .f _ s=>s.even
 | .b _ s _ s'=>s.even&&s'.even&&s.len==s'.len
 | .t _ s _ s' _ s''=>s.even&&s'.even&&s''.even&&s.len==s'.len&&s.len==s''.len
def Ez(ops:Array Oper):Sc3→Array Bool→Bool
 | .e,listed=>(Region.ready .any ops listed).isEmpty
 | .q i s,listed=>(Region.ready .any ops listed).contains i&&Region.free .any ops listed i&&Ez ops s (listed.setIfInBounds i true)
 | .f i s,listed=>Region.ready .any ops listed==[i]&&Ez ops s (listed.setIfInBounds i true)
 | .b i s j s',listed=>Region.ready .any ops listed==[i,j]&&Ez ops s (listed.setIfInBounds i true)&&Ez ops s' (listed.setIfInBounds j true)
 | .t i s j s' k s'',listed=>Region.ready .any ops listed==[i,j,k]&&Ez ops s (listed.setIfInBounds i true)&&Ez ops s' (listed.setIfInBounds j true)&&Ez ops s'' (listed.setIfInBounds k true)
def held3(P:Program)(S:Nat→Prop)(H0:Aa)(all:List Oper)(s:Sc3):Fr→Aa→(Fr→Aa→Prop)→Prop:=
 Sc3.rec (motive:=fun _=>Fr→Aa→(Fr→Aa→Prop)→Prop) (fun fr H K=>K fr H)
  (fun i _ ih fr H K=>match all[i]? with
   | none=>False
   | some o=>Rs all o fr (Ss P S o H fun fr' H'=>ih fr' H' K) (Rf o H fun fr' H'=>ih fr' H' K))
  (fun i _ ih fr H K=>Ln P S [] H0 all i fr H fun fr' H'=>ih fr' H' K)
  (fun i _ j _ ih ih' fr H K=>(Ln P S [] H0 all i fr H fun fr' H'=>ih fr' H' K)∧Ln P S [] H0 all j fr H fun fr' H'=>ih' fr' H' K)
  (fun i _ j _ k _ ih ih' ih'' fr H K=>(Ln P S [] H0 all i fr H fun fr' H'=>ih fr' H' K)∧(Ln P S [] H0 all j fr H fun fr' H'=>ih' fr' H' K)∧Ln P S [] H0 all k fr H fun fr' H'=>ih'' fr' H' K) s
theorem XU(P:Program)(S:Nat→Prop)(H0:Aa)(all:List Oper)(i:Nat)(s:Sc3)(fr:Fr)(H:Aa)(K:Fr→Aa→Prop):held3 P S H0 all (.q i s) fr H K=
  (match all[i]? with
   | none=>False
   | some o=>Rs all o fr (Ss P S o H fun fr' H'=>held3 P S H0 all s fr' H' K) (Rf o H fun fr' H'=>held3 P S H0 all s fr' H' K)):=rfl
theorem CC{P:Program}{S:Nat→Prop}{w0:World}{all:List Oper}{Q:Exit→Act→World→Prop}(hs:Region.noSelect all.toArray=true)
  (hp:∀c a w,¬Q (.panic c) a w):∀(l:Sc3) (listed:Array Bool) (fr:Fr) (a:Act) (w:World) (K:Fr→Aa→Prop),At fr a→Env w0 w→Cls w0 S w→IV all.toArray listed→
  (∀fr' a' w',At fr' a'→Env w0 w'→K fr' w'.heap→Q .normal a' w')→Ez all.toArray l listed=true→l.even=true→
  held3 P S w0.heap all l fr w.heap K→J9 P all.toArray Q (Cls w0 S) [] l.len listed a w
 | .e,listed,fr,a,w,K,hat,he,_,_,hq,hB,_,h=>⟨by simpa [Ez]using hB,hq fr a w hat he h⟩
 | .q i s,listed,fr,a,w,K,hat,he,hc,hsh,hq,hB,hev,h=>by
   simp only [Ez,Ab8]at hB;obtain⟨⟨b1,b2⟩,hB2⟩:=hB;rw [XU]at h;split at h
   ·exact h.elim
   ·rename_i o ho;have ho':all.toArray[i]? =some o:=by simpa using ho
    have hri:i∈Region.ready .any all.toArray listed:=by simpa using b1
    rcases Lp hat h with⟨hwant,h⟩ | ⟨hwant,h⟩
    ·unfold Ss at h;split at h
     ·obtain⟨v,hv,hk⟩:=EJ h;rw [Cm]at hk;refine FE (v:=v) (f:=all.toArray.size) ho' (Region.noSelect_spec hs) (fun c a' w' hh=>(hp _ _ _ hh).elim) rfl (fun j hj=>by cases hj) s.len listed a w hsh (Region.free_spec ho' b2) hri
       (.inl ⟨hwant,fun w' hw'=>?_⟩) hc ?_
      ·rw [hat.evalF];exact hv w' fun k hk=>(hw'.2 k hk).trans (hc.2 k hk).symm
      ·exact CC hs hp s _ _ _ w K (hat.put o.dst v) he hc (hsh.put hri) hq hB2 hev hk
     ·exact h.elim
    ·unfold Rf at h;rw [Cm]at h;exact FE (v:=undef) (f:=all.toArray.size) ho' (Region.noSelect_spec hs) (fun c a' w' hh=>(hp _ _ _ hh).elim) rfl (fun j hj=>by cases hj) s.len listed a w hsh (Region.free_spec ho' b2) hri
      (.inr ⟨hwant,rfl⟩) hc (CC hs hp s _ _ _ w K (hat.put o.dst undef) he hc (hsh.put hri) hq hB2 hev h)
 | .f i s,listed,fr,a,w,K,hat,he,hc,hsh,hq,hB,hev,h=>by
   simp only [Ez,Ab8,beq_iff_eq]at hB;obtain⟨b1,hB2⟩:=hB;refine⟨(fun h0=>by rw [b1]at h0;cases h0),fun j hj=>?_⟩;have hj0:=hj;rw [b1]at hj;obtain rfl:j=i:=by simpa using hj
   exact En (Z:=[]) hat he (fun _=>hc) h fun fr' a' w' h1 h2 h3 h4=>⟨h3,CC hs hp s _ _ _ w' K h1 h2 (h3 rfl) (hsh.put hj0) hq hB2 hev h4⟩
 | .b i s j s',listed,fr,a,w,K,hat,he,hc,hsh,hq,hB,hev,h=>by
   simp only [Ez,Ab8,beq_iff_eq]at hB;obtain⟨⟨b1,hB2⟩,hB3⟩:=hB;simp only [Sc3.even,Ab8,beq_iff_eq]at hev;obtain⟨⟨e1,e2⟩,e3⟩:=hev;refine⟨(fun h0=>by rw [b1]at h0;cases h0),fun k hk=>?_⟩;have hk0:=hk;rw [b1]at hk;rcases AcR.1 hk with rfl | hk
   ·exact En (Z:=[]) hat he (fun _=>hc) h.1 fun fr' a' w' h1 h2 h3 h4=>⟨h3,CC hs hp s _ _ _ w' K h1 h2 (h3 rfl) (hsh.put hk0) hq hB2 e1 h4⟩
   ·obtain rfl:k=j:=by simpa using hk
    rw [e3];exact En (Z:=[]) hat he (fun _=>hc) h.2 fun fr' a' w' h1 h2 h3 h4=>⟨h3,CC hs hp s' _ _ _ w' K h1 h2 (h3 rfl) (hsh.put hk0) hq hB3 e2 h4⟩
 | .t i s j s' m s'',listed,fr,a,w,K,hat,he,hc,hsh,hq,hB,hev,h=>by
   simp only [Ez,Ab8,beq_iff_eq]at hB;obtain⟨⟨⟨b1,hB2⟩,hB3⟩,hB4⟩:=hB;simp only [Sc3.even,Ab8,beq_iff_eq]at hev;obtain⟨⟨⟨⟨e1,e2⟩,e3⟩,e4⟩,e5⟩:=hev;refine⟨(fun h0=>by rw [b1]at h0;cases h0),fun k hk=>?_⟩;have hk0:=hk;rw [b1]at hk;rcases AcR.1 hk with rfl | hk
   ·exact En (Z:=[]) hat he (fun _=>hc) h.1 fun fr' a' w' h1 h2 h3 h4=>⟨h3,CC hs hp s _ _ _ w' K h1 h2 (h3 rfl) (hsh.put hk0) hq hB2 e1 h4⟩
   ·rcases AcR.1 hk with rfl | hk
    ·rw [e4];exact En (Z:=[]) hat he (fun _=>hc) h.2.1 fun fr' a' w' h1 h2 h3 h4=>⟨h3,CC hs hp s' _ _ _ w' K h1 h2 (h3 rfl) (hsh.put hk0) hq hB3 e2 h4⟩
    ·obtain rfl:k=m:=by simpa using hk
     rw [e5];exact En (Z:=[]) hat he (fun _=>hc) h.2.2 fun fr' a' w' h1 h2 h3 h4=>⟨h3,CC hs hp s'' _ _ _ w' K h1 h2 (h3 rfl) (hsh.put hk0) hq hB4 e3 h4⟩
theorem Ar.held3{P:Program}{l:List Oper}{fr:Fr}{H:Aa}{K:Fr→Aa→Prop}(S:Nat→Prop)(sched:Sc3)(hm:P.follows .mixedOrders=true)
  (hB:(Region.noSelect l.toArray&&(sched.len==l.length)&&sched.even&&Ez l.toArray sched (AcO l.length false))=true)
  (h:VC.held3 P S H l sched fr H K):Ar P l fr H K:=by
 refine⟨?_⟩;intro id Q a w hat hw hp hq;subst hw;simp only [Ab8,beq_iff_eq]at hB;refine wp_region_any hm (Hz (S:=Cls w S) (Z:=[]) _ _ _ _ ?_);have hsh:IV l.toArray (AcO l.length false):=fun j o _ hj=>by
  rw [Array.getD_eq_getD_getElem?,Array.getElem?_replicate]at hj;split at hj<;>simp at hj
 have:=CC (P:=P) (S:=S) (w0:=w) (Q:=Q) hB.1.1.1 hp sched (AcO l.length false) fr a {w with drawn:=w.drawn+1} K hat ⟨rfl,rfl,rfl⟩ ⟨⟨rfl,rfl,rfl⟩,Agr.refl _ _⟩ hsh hq hB.2 hB.1.2 h;rw [hB.1.1.2]at this;simpa using this
theorem StB.capT{α:Type}{T:Ty α}{S:Nat→Prop}{B:Nat→Prop}{H0 H:Aa}{ps:List Pc}{e:TypeId}{a:Option Addr}{n cap:Nat}{xs:List α}(st:StB B H0 H ps)(i:Nat)(hp:ps[i]? =some (pN T S e a n cap xs)):xs.length≤cap:=by
 obtain⟨cs,⟨h0,h1⟩,h2⟩:=(st.at_ i hp).1;rcases h1 with⟨h1,h3⟩ | ⟨b,cap',l,h1,h4,h5,h6,h7,h8,h9⟩
 ·rw [h3];exact AcF _
 ·cases h1;omega
theorem StB.popT{α:Type}{T:Ty α}{B:Nat→Prop}{H0 H:Aa}{ps:List Pc}{e:TypeId}{a:Option Addr}{n cap:Nat}{xs:List α}{x:α}(st:StB B H0 H ps)(i:Nat)(hp:ps[i]? =some (pS T e a n cap (xs++[x]))):StB B H0 H (ps.set i (pS T e a xs.length cap xs)):=by
 have hown:=(st.at_ i hp).1;refine st.say i hp _ ⟨hown.pop,fun k hk=>hk.elim⟩ fun k hk=>?_;rcases hk with⟨o,m,c,hk⟩ | hk
 ·injection hk with e1 e2 e3
  subst e1;exact .inl ⟨o,n,cap,rfl⟩
 ·exact hk.elim
theorem Blk.ne{H:Aa}{b b':Nat}{e e':TypeId}{l l':List Value}(h:Blk H b e l)(h':Blk H b' e' l')(he:e≠e'):b≠b':=by
 rintro rfl;have e1:=Option.some.inj (h.symm.trans h');injection e1 with _ e2 _
 exact he e2
end Go.VC
namespace Go.Proofs.YtfbghcpdinlmcaaGreatDoor
open Go.VC Go.Lib
section
variable{t:ByteArray}{i:Nat}{f:AF}{fs:List AF}
theorem MT(h:bt t i=40)(hl:fs.length<1000):Ci t ⟨i,f,fs⟩= .inr ⟨i+1,E1 i,Ay f::fs⟩:=by
 unfold Ci;simp only [h];rw [if_neg (by decide),if_neg (by decide),if_neg (by decide),if_neg (by decide),if_pos trivial,if_neg (by omega)]
theorem MR(h:bt t i=40)(hl:1000≤fs.length):Ci t ⟨i,f,fs⟩= .inl (23,i):=by
 unfold Ci;simp only [h];rw [if_neg (by decide),if_neg (by decide),if_neg (by decide),if_neg (by decide),if_pos trivial,if_pos hl]
theorem Le{g:AF}(h:bt t i=41):Ci t ⟨i,f,g::fs⟩= .inr ⟨i+1,{g with factor:=(CA f).alt},fs⟩:=by
 unfold Ci;simp only [h];rw [if_neg (by decide),if_neg (by decide),if_neg (by decide),if_pos trivial]
theorem Kf(h:bt t i=41):Ci t ⟨i,f,[]⟩= .inl (20,i):=by
 unfold Ci;simp only [h];rw [if_neg (by decide),if_neg (by decide),if_neg (by decide),if_pos trivial]
theorem Oh(h:bt t i=124):Ci t ⟨i,f,fs⟩= .inr ⟨i+1,CA f,fs⟩:=by
 unfold Ci;simp only [h];rw [if_neg (by decide),if_pos trivial]
theorem Ho(h:bt t i=38∨bt t i=45):Ci t ⟨i,f,fs⟩= .inr ⟨i+1,{Cp f with sign:=bt t i},fs⟩:=by
 unfold Ci;rcases h with h | h<;>(simp only [h];rw [if_neg (by decide),if_neg (by decide),if_pos (by decide)])
theorem Fk(h:Fy (bt t i)=true)(hf:f.factor=none):Ci t ⟨i,f,fs⟩= .inl (20,i):=by
 unfold Ci;simp only [hf];rw [if_pos h]
def M1(c:Nat):Prop:=c≠124∧c≠38∧c≠45∧c≠41∧Fy c=false
theorem Oi(h:M1 (bt t i))(h40:bt t i≠40){x:BitVec 256}{k:Nat}(hr:BE t i= .inr (x,k)):Ci t ⟨i,f,fs⟩= .inr ⟨k,{Ay f with factor:=some (.cls x)},fs⟩:=by
 unfold Ci;simp only [hr];rw [if_neg (by rw [h.2.2.2.2];decide),if_neg h.1,if_neg (by rintro(e | e);exact h.2.1 e;exact h.2.2.1 e),if_neg h.2.2.2.1,if_neg h40]
theorem MQ(h:M1 (bt t i))(h40:bt t i≠40){e:Nat}(hr:BE t i= .inl e):Ci t ⟨i,f,fs⟩= .inl (10,e):=by
 unfold Ci;simp only [hr];rw [if_neg (by rw [h.2.2.2.2];decide),if_neg h.1,if_neg (by rintro(e | e);exact h.2.1 e;exact h.2.2.1 e),if_neg h.2.2.2.1,if_neg h40]
theorem XD{e:Nat}(h:GL t i= .inl e):e≤i+2:=by
 unfold GL at h;split at h
 ·cases h;omega
 ·split at h
  ·cases h
  ·split at h
   ·cases h
   ·split at h
    ·cases h
    ·split at h
     ·split at h
      ·cases h;omega
      ·split at h
       ·cases h;omega
       ·cases h
     ·split at h
      ·cases h;omega
      ·cases h
theorem P0{u:ByteArray}{e:Nat}(h:BA t u i= .inl e):e≤i+3:=by
 unfold BA at h;split at h
 ·have:=XD h;omega
 ·split at h
  ·cases h;omega
  ·cases h
theorem Pu:∀{n i e:Nat} {x:BitVec 256},CX t n i x= .inl e→i≤t.size+2→e≤t.size+6
 | 0,i,e,x,h,hi=>by cases h;omega
 | n+1,i,e,x,h,hi=>by
   unfold CX at h;split at h
   ·cases h
   ·split at h
    ·rename_i e1 h1;cases h;have:=P0 h1;omega
    ·rename_i lo j h1;have:=Dd h1;unfold GJ at h;split at h
     ·split at h
      ·rename_i e2 h2;cases h;have:=P0 h2;omega
      ·rename_i hi2 k2 h2;have:=Dd h2;split at h
       ·cases h;omega
       ·exact Pu h (by omega)
     ·exact Pu h (by omega)
theorem MU{e:Nat}(h:BE t i= .inl e)(hi:i<t.size):e≤t.size+6:=by
 unfold BE at h;split at h
 ·cases h
 ·split at h
  ·unfold HO at h;split at h
   ·rename_i e1 h1;cases h;exact Pu h1 (by split<;>omega)
   ·cases h
  ·split at h
   ·rename_i e1 h1;cases h;have:=P0 h1;omega
   ·cases h
end
abbrev tPl:Ty Int:=Gb .i64
abbrev sP(s:Nat)(t:ByteArray)(i:Nat)(a:Option Addr)(n cap:Nat)(os:List Int)(ps:List Pc):List Pc:=pSc s t i (.slice a n cap)::pS tPl 3 a n cap os::ps
structure Sc(B:Nat→Prop)(H:Aa)(s:Nat)(t:ByteArray)(i:Nat)(os:List Int)(ps:List Pc):Prop where
 ex:∃a n cap,StB B H H (sP s t i a n cap os ps)
structure SR(B:Nat→Prop)(H:Aa)(s:Nat)(t:ByteArray)(j:Nat)(os:List Int)(ps:List Pc)(r:ReM)(v:Value)(H':Aa):Prop where
 ex:∃(B':Nat→Prop) (fn:Value),v= .agg (Ab r fn).toArray∧(∀k,B k→B' k)∧Agr B H H'∧Sc B' H' s t j os ps∧C9 B' H' fn r
structure SE(B:Nat→Prop)(H:Aa)(t:ByteArray)(st:RdS)(x:Value)(H':Aa):Prop where
 ex:∃c p:Nat,BY t st= .inl (c,(p:Int))∧x=Ee c p∧Agr B H H'
theorem SE.from{B B':Nat→Prop}{H H1 H':Aa}{t:ByteArray}{st st':RdS}{x:Value}(h:SE B' H1 t st' x H')(hp:BY t st=BY t st')(ha:Agr B H H1)(hs:∀k,B k→B' k):SE B H t st x H':=by
 obtain⟨c,p,h1,h2,h3⟩:=h;exact⟨c,p,hp.trans h1,h2,ha.trans fun k hk=>h3 k (hs k hk)⟩
def JA(t:ByteArray)(i:Nat):Prop:=∀(B:Nat→Prop) (H:Aa) (s:Nat) (os:List Int) (ps:List Pc) (f:AF) (fs:List AF),Gu H→B 0→i≤t.size→os.length=fs.length→fs.length≤1000→
 f.alt=none→f.meet=none→f.row=none→f.factor=none→Sc B H s t i os ps→
 BW Tryz.prog 72 #[.pointer (some ⟨s,0,none⟩)] H
  (fun v H'=>∃j f' r,i≤j∧j≤t.size∧(j=t.size∨bt t j=41)∧BY t ⟨i,f,fs⟩=BY t ⟨j,f',fs⟩∧(CA f').alt=some r∧f'.place=f.place∧SR B H s t j os ps r v H')
  (fun x H'=>SE B H t ⟨i,f,fs⟩ x H')
theorem LJ{x:Int}(h:inK .i64 x):(Lit.int .i64 x).wf=true:=by
 unfold Lit.wf;simp only [Ab8,decide_eq_true_eq];exact h
def Jl(c e:Nat):List Lit:=[.int .i64 (c:Int),.int .i64 (e:Int),.string []]
theorem Tq{c e:Nat}(hc:c<9223372036854775808)(he:e<9223372036854775808):Tryz.prog.keyLits 3 68 (Ap c e)=some (Jl c e):=by
 have c0:Tryz.prog.cellsOf 68=3:=by kernel_rfl
 have c1:Tryz.prog.cellsOf 24=1:=by kernel_rfl
 have c2:Tryz.prog.cellsOf 3=1:=by kernel_rfl
 have c3:Tryz.prog.cellsOf 9=1:=by kernel_rfl
 have h0:(0:Nat)≤maxLen:=AcF _;have h00:(⟨#[]⟩:ByteArray).size≤maxLen:=AcF _;simp [Program.keyLits,Tryz.underlying68,Tryz.underlying24,Tryz.underlying3,Tryz.underlying9,c0,c1,c2,c3,Ap,Jl,h00,LJ (BH hc),LJ (BH he)]
theorem RQ{c e c' e':Nat}:decide (c=c'∧e=e')=true↔Jl c e=Jl c' e':=by
 unfold Jl;rw [decide_eq_true_eq];constructor
 ·rintro⟨rfl,rfl⟩;rfl
 ·intro h;simp only [List.cons.injEq,Lit.int.injEq,true_and,and_true]at h;exact⟨by omega,by omega⟩
theorem ZF{c e c' e':Nat}(hc:c<9223372036854775808)(he:e<9223372036854775808)(hc':c'<9223372036854775808)(he':e'<9223372036854775808){x y:Operand}{S:Nat→Prop}{H:Aa}{K:Value→Prop}(k:K (.bool (!decide (c=c'∧e=e')))):
  AJ Tryz.prog (do eqGuard .neq 68 x y (.agg (Ap c e).toArray) (.agg (Ap c' e').toArray);binOp .neq 68 (.agg (Ap c e).toArray) (.agg (Ap c' e').toArray)) S H K:=
 vneq (m:=3) (la:=Jl c e) (lb:=Jl c' e') (by kernel_rfl) (by decide) (Tryz.eqGuardType68) rfl rfl (Tq hc he) (Tq hc' he') RQ k
theorem Z6{B:Nat→Prop}{H:Aa}{s i:Nat}{t:ByteArray}{os:List Int}{ps:List Pc}{f:AF}{fs:List AF}(hE:Gu H)(hEB:B 0)(ht:t.size≤1048576)(hi:i<t.size)(hos:os.length=fs.length)(hfs:fs.length≤1000)
  (hfb:M1 (bt t i)) (IH:∀i',i<i'→JA t i') (sc:Sc B H s t i os ps):
  BW Tryz.prog 193 #[.pointer (some ⟨s,0,none⟩)] H
   (fun v H'=>∃j r,i<j∧j≤t.size∧BY t ⟨i,f,fs⟩=BY t ⟨j,{Ay f with factor:=some r},fs⟩∧SR B H s t j os ps r v H')
   (fun x H'=>SE B H t ⟨i,f,fs⟩ x H'):=by
 obtain⟨a,n,cap,st⟩:=sc;refine BW.of_vc Tryz.func193 rfl (Tryz.call193 _) (An (.agg Ak.toArray) Ak De rfl ?_);intro q2 H1 hq1 hs1 hb1 ha1;have st1:=st.box hq1 hs1 hb1 ha1;refine Ah.of (Am (D9 (st1.blk 0 rfl) hi) fun H2 ha2=>?_);have st2:=st1.call ha2;by_cases h40:bt t i=40
 ·have d1:(((bt t i:Nat):Int) != 40)=false:=by rw [h40];rfl
  (conv=>whnf);rw [d1];obtain rfl:n=os.length:=st2.len 1 rfl;replace st2:StB B H H2 (sP s t i a os.length cap os ps++[pB 142 q2 Ak]):=st2;refine Bb.run (VC.fa Gg ?_);refine ld1 (v:=.slice a os.length cap) F4 (by rw [(st2.blk 0 rfl).cell];rfl) trivial ?_;by_cases hd:1000≤fs.length
  ·have d2:decide (1000≤(os.length:Int))=true:=decide_eq_true (by omega);(conv=>whnf);rw [d2];refine VC.fa AE ?_;refine ld1 (v:=.int .i64 ((i:Nat):Int)) ct3 (by rw [(st2.blk 0 rfl).cell];rfl) trivial ?_;refine Ah.mk (CR (c:=23) (e:=i)) (fun _ _ h=>h.elim) ?_;rintro _ _ ⟨rfl,rfl⟩;exact⟨23,i,E3 hi (MR h40 hd),rfl,st2.old⟩
  ·have d2:decide (1000≤(os.length:Int))=false:=decide_eq_false (by omega);(conv=>whnf);rw [d2];refine Cw.of (Ar.heldZ (fun k=>k=s) [13] (sq [0,1,2,3,4,5,6,7,8] (.f 9 (.f 10 (sq [11,12] (.f 13 .e))))) rfl (by kernel_rfl) (VC.fa Gg ?_));refine ld1 (v:=.slice a os.length cap) F4 (by rw [(st2.blk 0 rfl).cell];rfl) rfl ?_;refine VC.fa AE ?_;refine ld1 (v:=.int .i64 (i:Int)) ct3 (by rw [(st2.blk 0 rfl).cell];rfl) rfl ?_;refine AG AW [.int .i64 (i:Int)] rfl rfl (by decide) (by decide) ?_;intro q3 H3 hq3 hs3 hb3 ha3;have st3:=st2.skip hq3 ha3;refine⟨fun k hk=>by rw [show k=s from hk];exact(st3.blk 0 rfl).trans (st2.blk 0 rfl).symm,?_⟩;refine Mk (x:=(i:Int)) st3 1 AW rfl hb3 ⟨rfl,BH (by omega)⟩ rfl (by omega) (by decide) fun a4 cap4 H4 st4 ha4=>?_;refine⟨fun k hk=>by rw [show k=s from hk];exact(st4.blk 0 rfl).trans (st2.blk 0 rfl).symm,?_⟩;refine VC.fa Gg (AZ st4 0 F4 rfl (by simp) rfl fun H5 st5=>?_);replace st5:StB B H H5 (sP s t i a4 (os.length+1) cap4 (os++[(i:Int)]) ps++[pB 142 q2 Ak]):=st5;refine VC.fa AE ?_;refine ld1 (v:=.int .i64 ((i:Nat):Int)) ct3 (by rw [(st5.blk 0 rfl).cell];rfl) trivial ?_;(conv=>whnf);rw [w64 (x:=((i:Nat):Int)+1) (by omega) (by omega)];refine VC.fa AE (AZ st5 0 ct3 rfl (by simp) rfl fun H6 st6=>?_);replace st6:StB B H H6 (sP s t (i+1) a4 (os.length+1) cap4 (os++[(i:Int)]) ps++[pB 142 q2 Ak]):=st6;have hpo:BY t ⟨i,f,fs⟩=BY t ⟨i+1,E1 i,Ay f::fs⟩:=Ej hi (MT h40 (by omega));refine Ah.mk (IH (i+1) (by omega) B H6 s (os++[(i:Int)]) (ps++[pB 142 q2 Ak]) (E1 i) (Ay f::fs) (Jg hE hEB st6) hEB (by omega) (by simp;omega) (by simp;omega) rfl rfl rfl rfl ⟨a4,_,cap4,st6.rebase⟩) ?_ ?_
   rotate_left
   ·intro x H7 h;exact h.from hpo st6.old fun k hk=>hk
   rintro _ H7 ⟨j,f',r,hij,hj,hend,hpr,hcl,hpl,⟨B1,f1,rfl,s1,a7,⟨a2,n2,cap2,st7⟩,gv⟩⟩;obtain⟨g1,c1,rfl⟩:=gv.fn;have hn2:n2=os.length+1:=by have:=st7.len 1 rfl;rw [this];simp
   subst hn2;replace st7:StB B1 H7 H7 (sP s t j a2 (os.length+1) cap2 (os++[(i:Int)]) ps++[pB 142 q2 Ak]):=st7;have a07:Agr B H H7:=st6.old.trans a7;refine An (.agg Ak.toArray) Ak De rfl ?_;intro q6 H8 hq8 hs8 hb8 ha8;have st8:=st7.box hq8 hs8 hb8 ha8;rw [AaV]at st8;refine Br (cs:=Ab r (.func (.func g1) #[] c1)) st8 _ rfl (lgR _ _ 1) (by simp [Ab,Ak]) rfl fun H9 st9 ja9 js9=>?_;rw [lsR,Cu rfl]at st9;replace st9:StB B1 H7 H9 (sP s t j a2 (os.length+1) cap2 (os++[(i:Int)]) ps++[pB 142 q2 Ak,pB 142 q6 (Ab r (.func (.func g1) #[] c1))]):=st9;refine Bb.run (Ah.of (Am (ET (st9.blk 0 rfl)) fun H10 ha10=>?_));have st10:=st9.call ha10;have a10:Agr B H H10:=a07.trans fun k hk=>st10.old k (s1 k hk);by_cases hjt:j<t.size
   ·rw [decide_eq_false (show¬t.size≤j by omega)];have h41:bt t j=41:=by rcases hend with h | h;omega;exact h
    (conv=>whnf);refine VC.fa AE ?_;refine ld1 (v:=.int .i64 ((j:Nat):Int)) ct3 (by rw [(st10.blk 0 rfl).cell];rfl) trivial ?_;(conv=>whnf);rw [w64 (x:=((j:Nat):Int)+1) (by omega) (by omega)];refine VC.fa AE (AZ st10 0 ct3 rfl (by simp) rfl fun H11 st11=>?_);replace st11:StB B1 H7 H11 (sP s t (j+1) a2 (os.length+1) cap2 (os++[(i:Int)]) ps++[pB 142 q2 Ak,pB 142 q6 (Ab r (.func (.func g1) #[] c1))]):=st11;have hcap:=st11.capT 1 rfl;rw [AaS,AbD]at hcap;refine Cw.of (Ar.heldZ (fun k=>k=s) [14] (sq [0,1,2,3,4,5,6,7,8,9,10,11,12,13] (.f 14 .e)) rfl (by kernel_rfl) (VC.fa Gg ?_));refine ld1 (v:=.slice a2 (os.length+1) cap2) F4 (by rw [(st11.blk 0 rfl).cell];rfl) rfl ?_;refine VC.fa Gg ?_;refine ld1 (v:=.slice a2 (os.length+1) cap2) F4 (by rw [(st11.blk 0 rfl).cell];rfl) rfl ?_;(conv=>whnf);rw [w64 (x:=((os.length+1:Nat):Int) - 1) (by omega) (by omega)];rw [show((os.length+1:Nat):Int) - 1=(os.length:Int) by omega];refine TO AW (by omega) (by omega) (VC.fa Gg ?_);have st12:=st11.popT 1 rfl;refine AZ st12 0 F4 rfl (by simp) rfl fun H13 st13=>?_;rw [AcT]at st13;replace st13:StB B1 H7 H13 (sP s t (j+1) a2 os.length cap2 os ps++[pB 142 q2 Ak,pB 142 q6 (Ab r (.func (.func g1) #[] c1))]):=st13;refine ldN (cs:=Ab r (.func (.func g1) #[] c1)) AO (As (st13.blk _ (lgR _ _ 1))) trivial (Br (cs:=Ab r (.func (.func g1) #[] c1)) st13 _ rfl (lgR _ _ 0) (by simp [Ab,Ak]) rfl fun H14 st14 ja14 js14=>?_);rw [lsR,Cu rfl]at st14;refine ldN (cs:=Ab r (.func (.func g1) #[] c1)) AO (As (st14.blk _ (lgR _ _ 0))) trivial (⟨j+1,r,by omega,by omega,?_,B1,_,rfl,s1,a07.trans fun k hk=>st14.old k (s1 k hk),⟨a2,_,cap2,st14.lft.rebase⟩,gv.frame st14.old fun k hk=>hk⟩);rw [hpo,hpr,Ej (s:=⟨j,f',Ay f::fs⟩) hjt (Le h41),hcl]
   ·rw [decide_eq_true (show t.size≤j by omega)];refine Cw.held (Old H10) [] (sq [0,1,2,3,4,5,6,7,8,9,10,11,12] (.f 13 .e)) (Dn _ _) rfl (by kernel_rfl) (VC.fa Gg ?_);refine ld1 (v:=.slice a2 (os.length+1) cap2) F4 (by rw [(st10.blk 0 rfl).cell];rfl) (st10.blk 0 rfl).lt ?_;refine VC.fa Gg ?_;refine ld1 (v:=.slice a2 (os.length+1) cap2) F4 (by rw [(st10.blk 0 rfl).cell];rfl) (st10.blk 0 rfl).lt ?_;(conv=>whnf);rw [w64 (x:=((os.length+1:Nat):Int) - 1) (by omega) (by omega)];rw [show((os.length+1:Nat):Int) - 1=(os.length:Int) by omega];refine ixO (j:=os.length) (x:=(i:Int)) AW st10 1 rfl (by simp) rfl fun b5 o5 cs5 hO5 hc5 hr5=>?_;obtain⟨rfl,-⟩:=hr5;refine ld1 (v:=.int .i64 (i:Int)) ct3 hc5.one hO5 (Ah.mk (CR (c:=21) (e:=i)) (fun _ _ h=>h.elim) ?_);rintro _ _ ⟨rfl,rfl⟩;refine⟨21,i,?_,rfl,a10⟩;rw [hpo,hpr,MP (s:=⟨j,f',Ay f::fs⟩) hjt];show Sum.inl (21,f'.place)=_;rw [hpl];rfl
 ·have d1:(((bt t i:Nat):Int) != 40)=true:=bne_iff_ne.2 (by omega);(conv=>whnf);rw [d1];obtain⟨X,j,c0,e0,hX,hc0,he0,hj⟩:∃(X:BitVec 256) (j c0 e0:Nat),(∀v,Ma t i v→v= .tuple #[Bt X,.int .i64 (j:Int),EK c0 e0])∧c0≤10∧e0≤t.size+10∧(BE t i= .inl e0∧c0=10∨BE t i= .inr (X,j)∧c0=0∧e0=0):=by
   cases hr:BE t i with
   | inl e=>exact⟨0,0,10,e,fun v hv=>by unfold Ma at hv;rw [hr]at hv;exact hv,by omega,by have:=MU hr hi;omega,.inl ⟨rfl,rfl⟩⟩
   | inr y=>exact⟨y.1,y.2,0,0,fun v hv=>by unfold Ma at hv;rw [hr]at hv;exact hv,by omega,by omega,.inr ⟨rfl,rfl,rfl⟩⟩
  have sx0:StB B H H2 (sP s t i a n cap os ps++[pB 142 q2 Ak]):=st2;refine Cw.of (Ar.cut [3,4,5] (fun x:Nat×Nat=>match x with | (q3,q5)=>[.pointer (some ⟨q3,0,none⟩),.int .i64 (j:Int),.pointer (some ⟨q5,0,none⟩)]) (fun x G=>match x with | (q3,q5)=>StB B H G (sP s t i a n cap os ps++[pB 142 q2 Ak])∧Blk G q3 101 (Ac X)∧Blk G q5 68 (Ap c0 e0)) ?_ ?_)
  ·refine Ar.held3 (fun k=>k=s) (sq3 [0,1,2,3,4,5,6,7] (.t 8 (sq3 [9,10,11,12] (.b 13 (.f 14 (.f 15 (.q 16 (.f 17 .e)))) 14 (.f 13 (.f 15 (.q 16 (.f 17 .e)))))) 13 (.b 8 (sq3 [9,10,11,12] (.f 14 (.f 15 (.q 16 (.f 17 .e))))) 14 (.f 8 (sq3 [9,10,11,12] (.f 15 (.q 16 (.f 17 .e)))))) 14 (.b 8 (sq3 [9,10,11,12] (.f 13 (.f 15 (.q 16 (.f 17 .e))))) 13 (.f 8 (sq3 [9,10,11,12] (.f 15 (.q 16 (.f 17 .e)))))))) rfl (by kernel_rfl) (VC.fa L9 ?_);refine ld1 (v:=.string t) ct9 (by rw [(st2.blk 0 rfl).cell];rfl) rfl ?_;refine VC.fa AE ?_;refine ld1 (v:=.int .i64 (i:Int)) ct3 (by rw [(st2.blk 0 rfl).cell];rfl) rfl ?_;(conv=>whnf);refine⟨?_,?_,?_⟩
   ·refine Ad.mk (Fc (Jg hE hEB sx0) (by omega) hi) ?_;rintro _ J1 ⟨ag0,hR⟩;obtain rfl:=hX _ hR;have sx1:=sx0.call ag0;refine⟨fun k hk=>by rw [show k=s from hk];exact(sx1.blk 0 rfl).trans (st2.blk 0 rfl).symm,?_⟩;(conv=>whnf);refine⟨?_,?_⟩
    ·refine An (Bt 0) (Ac 0) rfl rfl ?_;intro q3 J2 gq1 gs1 gb1 ga1;have sx2:=sx1.box gq1 gs1 gb1 ga1;rw [AaV]at sx2;replace sx2:StB B H J2 (sP s t i a n cap os ps++[pB 142 q2 Ak,pB 101 q3 (Ac 0)]):=sx2;refine⟨fun k hk=>by rw [show k=s from hk];exact(sx2.blk 0 rfl).trans (st2.blk 0 rfl).symm,?_⟩;(conv=>whnf);refine An (EK 0 0) (Ap 0 0) rfl rfl ?_;intro q5 J3 gq2 gs2 gb2 ga2;have sx3:=sx2.box gq2 gs2 gb2 ga2;rw [AaV]at sx3;replace sx3:StB B H J3 (sP s t i a n cap os ps++[pB 142 q2 Ak,pB 101 q3 (Ac 0),pB 68 q5 (Ap 0 0)]):=sx3;refine⟨fun k hk=>by rw [show k=s from hk];exact(sx3.blk 0 rfl).trans (st2.blk 0 rfl).symm,?_⟩;(conv=>whnf);refine AI (cs:=Ac X) sx3 _ rfl (lgR _ _ 1) (AaU _) rfl fun J4 sx4=>?_;rw [lsR]at sx4;have e4:Ai (Ac 0) 0 (Ac X)=Ac X:=AD rfl;replace sx4:StB B H J4 (sP s t i a n cap os ps++[pB 142 q2 Ak,pB 101 q3 (Ai (Ac 0) 0 (Ac X)),pB 68 q5 (Ap 0 0)]):=sx4;rw [e4]at sx4;refine⟨fun k hk=>by rw [show k=s from hk];exact(sx4.blk 0 rfl).trans (st2.blk 0 rfl).symm,?_⟩;refine AI (cs:=Ap c0 e0) sx4 _ rfl (lgR _ _ 2) (AaU _) rfl fun J5 sx5=>?_;rw [lsR]at sx5;have e5:Ai (Ap 0 0) 0 (Ap c0 e0)=Ap c0 e0:=AD rfl;replace sx5:StB B H J5 (sP s t i a n cap os ps++[pB 142 q2 Ak,pB 101 q3 (Ac X),pB 68 q5 (Ai (Ap 0 0) 0 (Ap c0 e0))]):=sx5;rw [e5]at sx5;refine⟨fun k hk=>by rw [show k=s from hk];exact(sx5.blk 0 rfl).trans (st2.blk 0 rfl).symm,?_⟩;(conv=>whnf);exact⟨rfl,(q3,q5),rfl,sx5.subl ((AbH _).2 (List.Sublist.cons_cons _ (AbY _))),sx5.blk _ (lgR _ _ 1),sx5.blk _ (lgR _ _ 2)⟩
    ·refine An (EK 0 0) (Ap 0 0) rfl rfl ?_;intro q5 J2 gq1 gs1 gb1 ga1;have sx2:=sx1.box gq1 gs1 gb1 ga1;rw [AaV]at sx2;replace sx2:StB B H J2 (sP s t i a n cap os ps++[pB 142 q2 Ak,pB 68 q5 (Ap 0 0)]):=sx2;refine⟨fun k hk=>by rw [show k=s from hk];exact(sx2.blk 0 rfl).trans (st2.blk 0 rfl).symm,?_⟩;(conv=>whnf);refine An (Bt 0) (Ac 0) rfl rfl ?_;intro q3 J3 gq2 gs2 gb2 ga2;have sx3:=sx2.box gq2 gs2 gb2 ga2;rw [AaV]at sx3;replace sx3:StB B H J3 (sP s t i a n cap os ps++[pB 142 q2 Ak,pB 68 q5 (Ap 0 0),pB 101 q3 (Ac 0)]):=sx3;refine⟨fun k hk=>by rw [show k=s from hk];exact(sx3.blk 0 rfl).trans (st2.blk 0 rfl).symm,?_⟩;(conv=>whnf);refine AI (cs:=Ac X) sx3 _ rfl (lgR _ _ 2) (AaU _) rfl fun J4 sx4=>?_;rw [lsR]at sx4;have e4:Ai (Ac 0) 0 (Ac X)=Ac X:=AD rfl;replace sx4:StB B H J4 (sP s t i a n cap os ps++[pB 142 q2 Ak,pB 68 q5 (Ap 0 0),pB 101 q3 (Ai (Ac 0) 0 (Ac X))]):=sx4;rw [e4]at sx4;refine⟨fun k hk=>by rw [show k=s from hk];exact(sx4.blk 0 rfl).trans (st2.blk 0 rfl).symm,?_⟩;refine AI (cs:=Ap c0 e0) sx4 _ rfl (lgR _ _ 1) (AaU _) rfl fun J5 sx5=>?_;rw [lsR]at sx5;have e5:Ai (Ap 0 0) 0 (Ap c0 e0)=Ap c0 e0:=AD rfl;replace sx5:StB B H J5 (sP s t i a n cap os ps++[pB 142 q2 Ak,pB 68 q5 (Ai (Ap 0 0) 0 (Ap c0 e0)),pB 101 q3 (Ac X)]):=sx5;rw [e5]at sx5;refine⟨fun k hk=>by rw [show k=s from hk];exact(sx5.blk 0 rfl).trans (st2.blk 0 rfl).symm,?_⟩;(conv=>whnf);exact⟨rfl,(q3,q5),rfl,sx5.subl ((AbH _).2 (List.Sublist.cons_cons _ (AbY _))),sx5.blk _ (lgR _ _ 2),sx5.blk _ (lgR _ _ 1)⟩
   ·refine An (Bt 0) (Ac 0) rfl rfl ?_;intro q3 J1 gq0 gs0 gb0 ga0;have sx1:=sx0.box gq0 gs0 gb0 ga0;rw [AaV]at sx1;replace sx1:StB B H J1 (sP s t i a n cap os ps++[pB 142 q2 Ak,pB 101 q3 (Ac 0)]):=sx1;refine⟨fun k hk=>by rw [show k=s from hk];exact(sx1.blk 0 rfl).trans (st2.blk 0 rfl).symm,?_⟩;(conv=>whnf);refine⟨?_,?_⟩
    ·refine Ad.mk (Fc (Jg hE hEB sx1) (by omega) hi) ?_;rintro _ J2 ⟨ag1,hR⟩;obtain rfl:=hX _ hR;have sx2:=sx1.call ag1;refine⟨fun k hk=>by rw [show k=s from hk];exact(sx2.blk 0 rfl).trans (st2.blk 0 rfl).symm,?_⟩;(conv=>whnf);refine An (EK 0 0) (Ap 0 0) rfl rfl ?_;intro q5 J3 gq2 gs2 gb2 ga2;have sx3:=sx2.box gq2 gs2 gb2 ga2;rw [AaV]at sx3;replace sx3:StB B H J3 (sP s t i a n cap os ps++[pB 142 q2 Ak,pB 101 q3 (Ac 0),pB 68 q5 (Ap 0 0)]):=sx3;refine⟨fun k hk=>by rw [show k=s from hk];exact(sx3.blk 0 rfl).trans (st2.blk 0 rfl).symm,?_⟩;(conv=>whnf);refine AI (cs:=Ac X) sx3 _ rfl (lgR _ _ 1) (AaU _) rfl fun J4 sx4=>?_;rw [lsR]at sx4;have e4:Ai (Ac 0) 0 (Ac X)=Ac X:=AD rfl;replace sx4:StB B H J4 (sP s t i a n cap os ps++[pB 142 q2 Ak,pB 101 q3 (Ai (Ac 0) 0 (Ac X)),pB 68 q5 (Ap 0 0)]):=sx4;rw [e4]at sx4;refine⟨fun k hk=>by rw [show k=s from hk];exact(sx4.blk 0 rfl).trans (st2.blk 0 rfl).symm,?_⟩;refine AI (cs:=Ap c0 e0) sx4 _ rfl (lgR _ _ 2) (AaU _) rfl fun J5 sx5=>?_;rw [lsR]at sx5;have e5:Ai (Ap 0 0) 0 (Ap c0 e0)=Ap c0 e0:=AD rfl;replace sx5:StB B H J5 (sP s t i a n cap os ps++[pB 142 q2 Ak,pB 101 q3 (Ac X),pB 68 q5 (Ai (Ap 0 0) 0 (Ap c0 e0))]):=sx5;rw [e5]at sx5;refine⟨fun k hk=>by rw [show k=s from hk];exact(sx5.blk 0 rfl).trans (st2.blk 0 rfl).symm,?_⟩;(conv=>whnf);exact⟨rfl,(q3,q5),rfl,sx5.subl ((AbH _).2 (List.Sublist.cons_cons _ (AbY _))),sx5.blk _ (lgR _ _ 1),sx5.blk _ (lgR _ _ 2)⟩
    ·refine An (EK 0 0) (Ap 0 0) rfl rfl ?_;intro q5 J2 gq1 gs1 gb1 ga1;have sx2:=sx1.box gq1 gs1 gb1 ga1;rw [AaV]at sx2;replace sx2:StB B H J2 (sP s t i a n cap os ps++[pB 142 q2 Ak,pB 101 q3 (Ac 0),pB 68 q5 (Ap 0 0)]):=sx2;refine⟨fun k hk=>by rw [show k=s from hk];exact(sx2.blk 0 rfl).trans (st2.blk 0 rfl).symm,?_⟩;(conv=>whnf);refine Ad.mk (Fc (Jg hE hEB sx2) (by omega) hi) ?_;rintro _ J3 ⟨ag2,hR⟩;obtain rfl:=hX _ hR;have sx3:=sx2.call ag2;refine⟨fun k hk=>by rw [show k=s from hk];exact(sx3.blk 0 rfl).trans (st2.blk 0 rfl).symm,?_⟩;(conv=>whnf);refine AI (cs:=Ac X) sx3 _ rfl (lgR _ _ 1) (AaU _) rfl fun J4 sx4=>?_;rw [lsR]at sx4;have e4:Ai (Ac 0) 0 (Ac X)=Ac X:=AD rfl;replace sx4:StB B H J4 (sP s t i a n cap os ps++[pB 142 q2 Ak,pB 101 q3 (Ai (Ac 0) 0 (Ac X)),pB 68 q5 (Ap 0 0)]):=sx4;rw [e4]at sx4;refine⟨fun k hk=>by rw [show k=s from hk];exact(sx4.blk 0 rfl).trans (st2.blk 0 rfl).symm,?_⟩;refine AI (cs:=Ap c0 e0) sx4 _ rfl (lgR _ _ 2) (AaU _) rfl fun J5 sx5=>?_;rw [lsR]at sx5;have e5:Ai (Ap 0 0) 0 (Ap c0 e0)=Ap c0 e0:=AD rfl;replace sx5:StB B H J5 (sP s t i a n cap os ps++[pB 142 q2 Ak,pB 101 q3 (Ac X),pB 68 q5 (Ai (Ap 0 0) 0 (Ap c0 e0))]):=sx5;rw [e5]at sx5;refine⟨fun k hk=>by rw [show k=s from hk];exact(sx5.blk 0 rfl).trans (st2.blk 0 rfl).symm,?_⟩;(conv=>whnf);exact⟨rfl,(q3,q5),rfl,sx5.subl ((AbH _).2 (List.Sublist.cons_cons _ (AbY _))),sx5.blk _ (lgR _ _ 1),sx5.blk _ (lgR _ _ 2)⟩
   ·refine An (EK 0 0) (Ap 0 0) rfl rfl ?_;intro q5 J1 gq0 gs0 gb0 ga0;have sx1:=sx0.box gq0 gs0 gb0 ga0;rw [AaV]at sx1;replace sx1:StB B H J1 (sP s t i a n cap os ps++[pB 142 q2 Ak,pB 68 q5 (Ap 0 0)]):=sx1;refine⟨fun k hk=>by rw [show k=s from hk];exact(sx1.blk 0 rfl).trans (st2.blk 0 rfl).symm,?_⟩;(conv=>whnf);refine⟨?_,?_⟩
    ·refine Ad.mk (Fc (Jg hE hEB sx1) (by omega) hi) ?_;rintro _ J2 ⟨ag1,hR⟩;obtain rfl:=hX _ hR;have sx2:=sx1.call ag1;refine⟨fun k hk=>by rw [show k=s from hk];exact(sx2.blk 0 rfl).trans (st2.blk 0 rfl).symm,?_⟩;(conv=>whnf);refine An (Bt 0) (Ac 0) rfl rfl ?_;intro q3 J3 gq2 gs2 gb2 ga2;have sx3:=sx2.box gq2 gs2 gb2 ga2;rw [AaV]at sx3;replace sx3:StB B H J3 (sP s t i a n cap os ps++[pB 142 q2 Ak,pB 68 q5 (Ap 0 0),pB 101 q3 (Ac 0)]):=sx3;refine⟨fun k hk=>by rw [show k=s from hk];exact(sx3.blk 0 rfl).trans (st2.blk 0 rfl).symm,?_⟩;(conv=>whnf);refine AI (cs:=Ac X) sx3 _ rfl (lgR _ _ 2) (AaU _) rfl fun J4 sx4=>?_;rw [lsR]at sx4;have e4:Ai (Ac 0) 0 (Ac X)=Ac X:=AD rfl;replace sx4:StB B H J4 (sP s t i a n cap os ps++[pB 142 q2 Ak,pB 68 q5 (Ap 0 0),pB 101 q3 (Ai (Ac 0) 0 (Ac X))]):=sx4;rw [e4]at sx4;refine⟨fun k hk=>by rw [show k=s from hk];exact(sx4.blk 0 rfl).trans (st2.blk 0 rfl).symm,?_⟩;refine AI (cs:=Ap c0 e0) sx4 _ rfl (lgR _ _ 1) (AaU _) rfl fun J5 sx5=>?_;rw [lsR]at sx5;have e5:Ai (Ap 0 0) 0 (Ap c0 e0)=Ap c0 e0:=AD rfl;replace sx5:StB B H J5 (sP s t i a n cap os ps++[pB 142 q2 Ak,pB 68 q5 (Ai (Ap 0 0) 0 (Ap c0 e0)),pB 101 q3 (Ac X)]):=sx5;rw [e5]at sx5;refine⟨fun k hk=>by rw [show k=s from hk];exact(sx5.blk 0 rfl).trans (st2.blk 0 rfl).symm,?_⟩;(conv=>whnf);exact⟨rfl,(q3,q5),rfl,sx5.subl ((AbH _).2 (List.Sublist.cons_cons _ (AbY _))),sx5.blk _ (lgR _ _ 2),sx5.blk _ (lgR _ _ 1)⟩
    ·refine An (Bt 0) (Ac 0) rfl rfl ?_;intro q3 J2 gq1 gs1 gb1 ga1;have sx2:=sx1.box gq1 gs1 gb1 ga1;rw [AaV]at sx2;replace sx2:StB B H J2 (sP s t i a n cap os ps++[pB 142 q2 Ak,pB 68 q5 (Ap 0 0),pB 101 q3 (Ac 0)]):=sx2;refine⟨fun k hk=>by rw [show k=s from hk];exact(sx2.blk 0 rfl).trans (st2.blk 0 rfl).symm,?_⟩;(conv=>whnf);refine Ad.mk (Fc (Jg hE hEB sx2) (by omega) hi) ?_;rintro _ J3 ⟨ag2,hR⟩;obtain rfl:=hX _ hR;have sx3:=sx2.call ag2;refine⟨fun k hk=>by rw [show k=s from hk];exact(sx3.blk 0 rfl).trans (st2.blk 0 rfl).symm,?_⟩;(conv=>whnf);refine AI (cs:=Ac X) sx3 _ rfl (lgR _ _ 2) (AaU _) rfl fun J4 sx4=>?_;rw [lsR]at sx4;have e4:Ai (Ac 0) 0 (Ac X)=Ac X:=AD rfl;replace sx4:StB B H J4 (sP s t i a n cap os ps++[pB 142 q2 Ak,pB 68 q5 (Ap 0 0),pB 101 q3 (Ai (Ac 0) 0 (Ac X))]):=sx4;rw [e4]at sx4;refine⟨fun k hk=>by rw [show k=s from hk];exact(sx4.blk 0 rfl).trans (st2.blk 0 rfl).symm,?_⟩;refine AI (cs:=Ap c0 e0) sx4 _ rfl (lgR _ _ 1) (AaU _) rfl fun J5 sx5=>?_;rw [lsR]at sx5;have e5:Ai (Ap 0 0) 0 (Ap c0 e0)=Ap c0 e0:=AD rfl;replace sx5:StB B H J5 (sP s t i a n cap os ps++[pB 142 q2 Ak,pB 68 q5 (Ai (Ap 0 0) 0 (Ap c0 e0)),pB 101 q3 (Ac X)]):=sx5;rw [e5]at sx5;refine⟨fun k hk=>by rw [show k=s from hk];exact(sx5.blk 0 rfl).trans (st2.blk 0 rfl).symm,?_⟩;(conv=>whnf);exact⟨rfl,(q3,q5),rfl,sx5.subl ((AbH _).2 (List.Sublist.cons_cons _ (AbY _))),sx5.blk _ (lgR _ _ 2),sx5.blk _ (lgR _ _ 1)⟩
  ·rintro⟨q3,q5⟩ G junk ⟨stg,hb3,hb5⟩;refine Bb.run ?_;refine ldN (cs:=Ap c0 e0) Mh (hb5.cells (fun j v hv=>by rw [AaT];exact hv)) trivial ?_;refine Aw Tryz.underlying68 rfl _ rfl (Ap 0 0) rfl (ZF (by omega) (by omega) (by decide) (by decide) ?_);rcases hj with⟨hr,rfl⟩ | ⟨hr,rfl,rfl⟩
   ·rw [decide_eq_false (by omega)];refine ldN (cs:=Ap 10 e0) Mh (hb5.cells (fun j v hv=>by rw [AaT];exact hv)) trivial ?_;(conv=>whnf);exact⟨10,e0,E3 hi (MQ hfb h40 hr),rfl,stg.old⟩
   ·have hok:=Ju hr;rw [decide_eq_true ⟨rfl,rfl⟩];refine VC.fa AE (TG stg 0 ct3 rfl (by simp) rfl fun G2 sg2 ja2 js2=>?_);replace sg2:StB B H G2 (sP s t j a n cap os ps++[pB 142 q2 Ak]):=sg2;have hb3':=hb3.agr ja2 (hb3.ne (stg.blk 0 rfl) (by decide));refine ldN (cs:=Ac X) AP (Dc hb3') trivial (Aw Tryz.underlying104 rfl _ rfl (Ac X) rfl (Ah.of (Ad.mk (Po (r:=.cls X) sg2 rfl) ?_)));rintro _ G3 ⟨B1,f1,rfl,s1,a3,sg3,gs⟩;obtain⟨g1,c1,rfl⟩:=gs.fn;refine Br (cs:=Ab (.cls X) (.func (.func g1) #[] c1)) sg3 _ rfl (lgR _ _ 0) (by simp [Ab,Ak]) rfl fun G4 sg4 ja4 js4=>?_;rw [lsR,Cu rfl]at sg4;refine ldN (cs:=Ab (.cls X) (.func (.func g1) #[] c1)) AO (As (sg4.blk _ (lgR _ _ 0))) trivial ?_;exact⟨j,.cls X,hok.1,hok.2,Ej hi (Oi hfb h40 hr),B1,_,rfl,s1,(sg2.old.trans (a3.mono fun k hk=>sg2.up hk)).trans fun k hk=>sg4.old k (s1 k hk),⟨a,n,cap,sg4.lft.rebase⟩,gs.frame sg4.old fun k hk=>hk⟩
theorem rn_m(d:RnM):(rnL d)[259]? =some (.int .i64 d.m):=by
 unfold rnL Bn;rw [AbM (by simp),AbM (by simp [Aq])];simp [Aq]
theorem QR(d:RnM):(rnL d)[260]? =some (.int .i64 d.n):=by
 unfold rnL Bn;rw [AbM (by simp),AbM (by simp [Aq])];simp [Aq]
theorem Yy{c:Nat}{m n:Int}(hc:c≤2001)(h:SI m n):FA c (AL m) n≤2000000:=by
 have hm:AL m≤255:=by unfold AL;split<;>rcases h with h | h<;>omega
 have hn:n.toNat≤255:=by rcases h with h | h<;>omega
 have h1:AL m*c≤255*2001:=AcQ hm hc;have h2:n.toNat*(c+2)≤255*2003:=AcQ hn (by omega);have h3:(n.toNat - AL m)*(c+3)≤255*2004:=AcQ (by omega) (by omega);unfold FA;split
 ·split<;>omega
 ·split
  ·omega
  ·split<;>omega
def szI(w:RwM):Int:=((szR w.den:Nat):Int)
def szL(ws:List RwM)(j:Nat):List Int:=(ws.take j).map szI++AcU (ws.length - j) 0
theorem Bd(ws:List RwM){j:Nat}(hj:j≤ws.length):(szL ws j).length=ws.length:=by unfold szL;simp;omega
theorem PG{ws:List RwM}{j i:Nat}{w:RwM}(h:ws[i]? =some w)(hi:i<j):(szL ws j)[i]? =some (szI w):=by
 have hl:=(Ac5.1 h).1;unfold szL;rw [Ac8 (by simp;omega),AcL,AcK,if_pos hi,h];rfl
theorem Dm{ws:List RwM}{j:Nat}{w:RwM}(h:ws[j]? =some w):(szL ws j).set j (szI w)=szL ws (j+1):=by
 have hl:=(Ac5.1 h).1;apply List.ext_getElem?;intro i;have l1:=Bd ws (j:=j) (by omega);by_cases hi:i=j
 ·subst hi;rw [AbK (by omega),PG h (by omega)]
 ·rw [List.getElem?_set_ne (by omega)];unfold szL;by_cases hij:i<j
  ·rw [Ac8 (by simp;omega),Ac8 (by simp;omega),AcL,AcL,AcK,AcK,if_pos hij,if_pos (by omega)]
  ·rw [AbM (by simp;omega),AbM (by simp;omega),AcN,AcN];simp only [List.length_map,List.length_take];by_cases hi2:i<ws.length
   ·rw [if_pos (by omega),if_pos (by omega)]
   ·rw [if_neg (by omega),if_neg (by omega)]
abbrev pSz(b n:Nat)(xs:List Int):Pc:=pS tPl 3 (some ⟨b,0,none⟩) n n xs
theorem Y0{S:Nat→Prop}{H:Aa}{na:Option Addr}{nc:Nat}{ds:List RnM}{ws:List RwM}(hS:∀k,S k→k<H.size)(hR:Raw ds ws)(hl:ds.length≤16777216)(hd:SlD tRn S H na nc ds):
  Al Tryz.prog 82 #[.slice na ds.length nc] H (fun v H'=>∃b,v= .slice (some ⟨b,0,none⟩) ds.length ds.length∧St H H' [pSz b ds.length (szL ws ws.length)]):=by
 have hlen:=hR.len;refine Al.of_vc Tryz.func82 rfl (Tryz.call82 _) (Xe (T:=tPl) (v:=0) (S:=none_) AW ⟨rfl,BH (x:=0) (by decide)⟩ (by omega) rfl (by omega) (by omega) ?_);intro b H1 hb hs1 hb1 ha1;rw [AcT]at hb1 ⊢;have st1:St H H1 [pSz b ds.length (szL ws 0)]:=by
  have:=(St.nil H).new (T:=tPl) (n:=ds.length) (xs:=AcU ws.length (0:Int)) hb hs1 hb1 ha1 (by rw [hlen];exact FS (T:=tPl) (c:=[.int .i64 0]) ⟨rfl,BH (x:=0) (by decide)⟩ _) (by simp [hlen]) (by unfold maxLen;omega);unfold szL;simpa using this
 have hmax:ws.length≤16777216:=by omega
 (conv=>whnf);refine AK.mk [4] (fun j:Nat=>[.int .i64 (j:Int)]) (fun j G=>j≤ws.length∧St H G [pSz b ds.length (szL ws j)]) (fun j _=>ws.length - j) ?_ ?_
 ·(conv=>whnf);exact⟨0,rfl,by omega,st1⟩
 ·rintro j G junk ⟨hj,stg⟩;have hv:(ws.length:Int)=(ds.length:Int):=by rw [hlen]
  refine AN.mk (fun hz=>?_) (fun hz=>?_)<;>simp only [decide_eq_true_eq,decide_eq_false_iff_not]at hz
  ·have hjl:j<ws.length:=by omega
   obtain⟨w,hw⟩:∃w,ws[j]? =some w:=⟨_,List.getElem?_eq_getElem hjl⟩;obtain⟨d,us,vs,hdd,hws,hul,hnr⟩:=hR.at_ hw;have hxl:=Bd ws hj;have hlt:∀{i:Nat} {a:RwM},us[i]? =some a→(szL ws j)[i]? =some (szI a)∧i<ws.length:=fun{i a} h=>by
    have hi:=(Ac5.1 h).1;have:ws[i]? =some a:=by rw [hws];exact GP h
    exact⟨PG this (by omega),by omega⟩
   have nd:∀{G':Aa} {S0:Nat→Prop} {K:Value→Prop},St H G' [pSz b ds.length (szL ws j)]→(∀b2 o2,AX G' b2 o2 (rnL d)→Old G' b2→K (.pointer (some ⟨b2,o2,none⟩)))→AJ Tryz.prog (Instr.indexAt 54 (.slice na ds.length nc) (.int .i64 (j:Int))) S0 G' K:=fun st k=>by
    refine ixr (i:=j) Fm (hd.frame (st.old.mono hS)) hdd rfl ?_;rintro b2 o2 c2 hS2 hc2 ⟨rfl,hok⟩;exact k b2 o2 hc2 (st.up (hS b2 hS2))
   refine Av.run (Av.run (nd stg fun b2 o2 hc2 hO2=>(VC.fa Cd (ld1 (v:=.int .i64 d.op) ct3 (hc2 0 _ (DV d)) trivial ?_))));cases w with
   | eps=>
     obtain rfl:d=A7 0 0 0:=hnr;(conv=>whnf);try (refine Av.run ?_)
     (conv=>whnf);try (refine Av.run ?_)
     refine nd stg fun b3 o3 hc3 hO3=>(VC.fa Cd (ld1 (v:=.int .i64 (A7 0 0 0).op) ct3 (hc3 0 _ (DV _)) trivial ?_));(conv=>whnf);try (refine Av.run ?_)
     refine ixE (T:=tPl) (j:=j) AW stg 0 rfl (by rw [Bd ws hj];exact hjl) rfl ?_;refine J7 (T:=tPl) (j:=j) (x:=1) stg 0 ct3 rfl rfl (AbW _) (by rw [Bd ws hj];exact hjl) rfl (fun _ _=>⟨rfl,BH (x:=1) (by decide)⟩) fun G3 sg3=>?_;(conv=>whnf);try (refine Av.run ?_)
     refine ixO (j:=j) (x:=(1:Int)) AW sg3 0 rfl (by exact AbK (by rw [Bd ws hj];exact hjl)) rfl fun b9 o9 cs9 hO9 hc9 hr9=>?_;obtain⟨rfl,-⟩:=hr9;refine ld1 (v:=.int .i64 ((1:Int))) ct3 hc9.one trivial ?_;(conv=>whnf);rw [w64 (x:=(j:Int)+1) (by omega) (by omega)];refine⟨rfl,j+1,rfl,⟨by omega,?_⟩,by omega⟩;have e:(1:Int)=szI (.eps):=by unfold szI;show(1:Int)=((szR (RwM.eps).den:Nat):Int);rw [show szR (RwM.eps).den=1 from rfl];rfl
     have sg8:=sg3;replace sg8:St H _ [pSz b ds.length ((szL ws j).set j 1)]:=sg8;rw [e,Dm hw]at sg8;exact sg8
   | cls s=>
     obtain rfl:d=DB s:=hnr;(conv=>whnf);try (refine Av.run ?_)
     (conv=>whnf);try (refine Av.run ?_)
     refine nd stg fun b3 o3 hc3 hO3=>(VC.fa Cd (ld1 (v:=.int .i64 (DB s).op) ct3 (hc3 0 _ (DV _)) trivial ?_));(conv=>whnf);try (refine Av.run ?_)
     refine ixE (T:=tPl) (j:=j) AW stg 0 rfl (by rw [Bd ws hj];exact hjl) rfl ?_;refine J7 (T:=tPl) (j:=j) (x:=1) stg 0 ct3 rfl rfl (AbW _) (by rw [Bd ws hj];exact hjl) rfl (fun _ _=>⟨rfl,BH (x:=1) (by decide)⟩) fun G3 sg3=>?_;(conv=>whnf);try (refine Av.run ?_)
     refine ixO (j:=j) (x:=(1:Int)) AW sg3 0 rfl (by exact AbK (by rw [Bd ws hj];exact hjl)) rfl fun b9 o9 cs9 hO9 hc9 hr9=>?_;obtain⟨rfl,-⟩:=hr9;refine ld1 (v:=.int .i64 ((1:Int))) ct3 hc9.one trivial ?_;(conv=>whnf);rw [w64 (x:=(j:Int)+1) (by omega) (by omega)];refine⟨rfl,j+1,rfl,⟨by omega,?_⟩,by omega⟩;have e:(1:Int)=szI (.cls s):=by unfold szI;show(1:Int)=((szR (RwM.cls s).den:Nat):Int);rw [show szR (RwM.cls s).den=1 from rfl];rfl
     have sg8:=sg3;replace sg8:St H _ [pSz b ds.length ((szL ws j).set j 1)]:=sg8;rw [e,Dm hw]at sg8;exact sg8
   | cat a c=>
     obtain⟨i1,i2,rfl,hi1,hi2⟩:=hnr;obtain⟨g1,l1⟩:=hlt hi1;obtain⟨g2,l2⟩:=hlt hi2;have za:=Ft a.den;have zc:=Ft c.den;have hsz:szR (RwM.cat a c).den=min (1+szR a.den+szR c.den) 2001:=LT .cat a.den c.den;(conv=>whnf);try (refine Av.run ?_)
     refine nd stg fun b3 o3 hc3 hO3=>(VC.fa CP (ld1 (v:=.int .i64 (i1:Int)) ct3 (hc3 257 _ (IM _)) trivial (ixO (j:=i1) (x:=szI a) AW stg 0 rfl g1 rfl fun b9 o9 cs9 hO9 hc9 hr9=>?_)));obtain⟨rfl,-⟩:=hr9;refine ld1 (v:=.int .i64 (szI a)) ct3 hc9.one trivial ?_;(conv=>whnf);try (refine Av.run ?_)
     refine nd stg fun b4 o4 hc4 hO4=>(VC.fa Cd (ld1 (v:=.int .i64 (A7 2 (i1:Int) (i2:Int)).op) ct3 (hc4 0 _ (DV _)) trivial ?_));(conv=>whnf);try (refine Av.run ?_)
     (conv=>whnf);rw [w64 (x:=1+szI a) (by unfold szI;omega) (by unfold szI;omega)];refine nd stg fun b5 o5 hc5 hO5=>(VC.fa Gh (ld1 (v:=.int .i64 (i2:Int)) ct3 (hc5 258 _ (QS _)) trivial (ixO (j:=i2) (x:=szI c) AW stg 0 rfl g2 rfl fun b9 o9 cs9 hO9 hc9 hr9=>?_)));obtain⟨rfl,-⟩:=hr9;refine ld1 (v:=.int .i64 (szI c)) ct3 hc9.one trivial ?_;(conv=>whnf);rw [w64 (x:=1+szI a+szI c) (by unfold szI;omega) (by unfold szI;omega)];rw [show 1+szI a+szI c=((1+szR a.den+szR c.den:Nat):Int) by unfold szI;omega];refine ixE (T:=tPl) (j:=j) AW stg 0 rfl (by rw [Bd ws hj];exact hjl) rfl ?_;refine J7 (T:=tPl) (j:=j) (x:=((1+szR a.den+szR c.den:Nat):Int)) stg 0 ct3 rfl rfl (AbW _) (by rw [Bd ws hj];exact hjl) rfl (fun _ _=>⟨rfl,BH (by omega)⟩) fun G3 sg3=>?_;(conv=>whnf);try (refine Av.run ?_)
     refine ixO (j:=j) (x:=(((1+szR a.den+szR c.den:Nat):Int):Int)) AW sg3 0 rfl (by exact AbK (by rw [Bd ws hj];exact hjl)) rfl fun b9 o9 cs9 hO9 hc9 hr9=>?_;obtain⟨rfl,-⟩:=hr9;refine ld1 (v:=.int .i64 ((((1+szR a.den+szR c.den:Nat):Int):Int))) ct3 hc9.one trivial ?_;by_cases hcap:2001<1+szR a.den+szR c.den
     ·have d9:decide (2001<(((1+szR a.den+szR c.den:Nat):Int):Int))=true:=decide_eq_true (by omega);(conv=>whnf);rw [d9];refine ixE (T:=tPl) (j:=j) AW sg3 0 rfl (by rw [AbV,Bd ws hj];exact hjl) rfl ?_;refine J7 (T:=tPl) (j:=j) (x:=2001) sg3 0 ct3 rfl rfl (AbW _) (by rw [AbV,Bd ws hj];exact hjl) rfl (fun _ _=>⟨rfl,BH (x:=2001) (by decide)⟩) fun G8 sg8=>?_;(conv=>whnf);rw [w64 (x:=(j:Int)+1) (by omega) (by omega)];refine⟨rfl,j+1,rfl,⟨by omega,?_⟩,by omega⟩;have e:(2001:Int)=szI (.cat a c):=by unfold szI;rw [hsz];omega
      replace sg8:St H G8 [pSz b ds.length (((szL ws j).set j ((1+szR a.den+szR c.den:Nat):Int)).set j 2001)]:=sg8;rw [AbX,e,Dm hw]at sg8;exact sg8
     ·have d9:decide (2001<(((1+szR a.den+szR c.den:Nat):Int):Int))=false:=decide_eq_false (by omega);(conv=>whnf);rw [d9];(conv=>whnf);rw [w64 (x:=(j:Int)+1) (by omega) (by omega)];refine⟨rfl,j+1,rfl,⟨by omega,?_⟩,by omega⟩;have e:(((1+szR a.den+szR c.den:Nat):Int):Int)=szI (.cat a c):=by unfold szI;rw [hsz];omega
      have sg8:=sg3;replace sg8:St H _ [pSz b ds.length ((szL ws j).set j ((1+szR a.den+szR c.den:Nat):Int))]:=sg8;rw [e,Dm hw]at sg8;exact sg8
   | alt a c=>
     obtain⟨i1,i2,rfl,hi1,hi2⟩:=hnr;obtain⟨g1,l1⟩:=hlt hi1;obtain⟨g2,l2⟩:=hlt hi2;have za:=Ft a.den;have zc:=Ft c.den;have hsz:szR (RwM.alt a c).den=min (1+szR a.den+szR c.den) 2001:=LT .alt a.den c.den;(conv=>whnf);try (refine Av.run ?_)
     refine nd stg fun b3 o3 hc3 hO3=>(VC.fa CP (ld1 (v:=.int .i64 (i1:Int)) ct3 (hc3 257 _ (IM _)) trivial (ixO (j:=i1) (x:=szI a) AW stg 0 rfl g1 rfl fun b9 o9 cs9 hO9 hc9 hr9=>?_)));obtain⟨rfl,-⟩:=hr9;refine ld1 (v:=.int .i64 (szI a)) ct3 hc9.one trivial ?_;(conv=>whnf);try (refine Av.run ?_)
     refine nd stg fun b4 o4 hc4 hO4=>(VC.fa Cd (ld1 (v:=.int .i64 (A7 3 (i1:Int) (i2:Int)).op) ct3 (hc4 0 _ (DV _)) trivial ?_));(conv=>whnf);try (refine Av.run ?_)
     (conv=>whnf);rw [w64 (x:=1+szI a) (by unfold szI;omega) (by unfold szI;omega)];refine nd stg fun b5 o5 hc5 hO5=>(VC.fa Gh (ld1 (v:=.int .i64 (i2:Int)) ct3 (hc5 258 _ (QS _)) trivial (ixO (j:=i2) (x:=szI c) AW stg 0 rfl g2 rfl fun b9 o9 cs9 hO9 hc9 hr9=>?_)));obtain⟨rfl,-⟩:=hr9;refine ld1 (v:=.int .i64 (szI c)) ct3 hc9.one trivial ?_;(conv=>whnf);rw [w64 (x:=1+szI a+szI c) (by unfold szI;omega) (by unfold szI;omega)];rw [show 1+szI a+szI c=((1+szR a.den+szR c.den:Nat):Int) by unfold szI;omega];refine ixE (T:=tPl) (j:=j) AW stg 0 rfl (by rw [Bd ws hj];exact hjl) rfl ?_;refine J7 (T:=tPl) (j:=j) (x:=((1+szR a.den+szR c.den:Nat):Int)) stg 0 ct3 rfl rfl (AbW _) (by rw [Bd ws hj];exact hjl) rfl (fun _ _=>⟨rfl,BH (by omega)⟩) fun G3 sg3=>?_;(conv=>whnf);try (refine Av.run ?_)
     refine ixO (j:=j) (x:=(((1+szR a.den+szR c.den:Nat):Int):Int)) AW sg3 0 rfl (by exact AbK (by rw [Bd ws hj];exact hjl)) rfl fun b9 o9 cs9 hO9 hc9 hr9=>?_;obtain⟨rfl,-⟩:=hr9;refine ld1 (v:=.int .i64 ((((1+szR a.den+szR c.den:Nat):Int):Int))) ct3 hc9.one trivial ?_;by_cases hcap:2001<1+szR a.den+szR c.den
     ·have d9:decide (2001<(((1+szR a.den+szR c.den:Nat):Int):Int))=true:=decide_eq_true (by omega);(conv=>whnf);rw [d9];refine ixE (T:=tPl) (j:=j) AW sg3 0 rfl (by rw [AbV,Bd ws hj];exact hjl) rfl ?_;refine J7 (T:=tPl) (j:=j) (x:=2001) sg3 0 ct3 rfl rfl (AbW _) (by rw [AbV,Bd ws hj];exact hjl) rfl (fun _ _=>⟨rfl,BH (x:=2001) (by decide)⟩) fun G8 sg8=>?_;(conv=>whnf);rw [w64 (x:=(j:Int)+1) (by omega) (by omega)];refine⟨rfl,j+1,rfl,⟨by omega,?_⟩,by omega⟩;have e:(2001:Int)=szI (.alt a c):=by unfold szI;rw [hsz];omega
      replace sg8:St H G8 [pSz b ds.length (((szL ws j).set j ((1+szR a.den+szR c.den:Nat):Int)).set j 2001)]:=sg8;rw [AbX,e,Dm hw]at sg8;exact sg8
     ·have d9:decide (2001<(((1+szR a.den+szR c.den:Nat):Int):Int))=false:=decide_eq_false (by omega);(conv=>whnf);rw [d9];(conv=>whnf);rw [w64 (x:=(j:Int)+1) (by omega) (by omega)];refine⟨rfl,j+1,rfl,⟨by omega,?_⟩,by omega⟩;have e:(((1+szR a.den+szR c.den:Nat):Int):Int)=szI (.alt a c):=by unfold szI;rw [hsz];omega
      have sg8:=sg3;replace sg8:St H _ [pSz b ds.length ((szL ws j).set j ((1+szR a.den+szR c.den:Nat):Int))]:=sg8;rw [e,Dm hw]at sg8;exact sg8
   | and_ a c=>
     obtain⟨i1,i2,rfl,hi1,hi2⟩:=hnr;obtain⟨g1,l1⟩:=hlt hi1;obtain⟨g2,l2⟩:=hlt hi2;have za:=Ft a.den;have zc:=Ft c.den;have hsz:szR (RwM.and_ a c).den=min (1+szR a.den+szR c.den) 2001:=LT .and_ a.den c.den;(conv=>whnf);try (refine Av.run ?_)
     refine nd stg fun b3 o3 hc3 hO3=>(VC.fa CP (ld1 (v:=.int .i64 (i1:Int)) ct3 (hc3 257 _ (IM _)) trivial (ixO (j:=i1) (x:=szI a) AW stg 0 rfl g1 rfl fun b9 o9 cs9 hO9 hc9 hr9=>?_)));obtain⟨rfl,-⟩:=hr9;refine ld1 (v:=.int .i64 (szI a)) ct3 hc9.one trivial ?_;(conv=>whnf);try (refine Av.run ?_)
     refine nd stg fun b4 o4 hc4 hO4=>(VC.fa Cd (ld1 (v:=.int .i64 (A7 5 (i1:Int) (i2:Int)).op) ct3 (hc4 0 _ (DV _)) trivial ?_));(conv=>whnf);try (refine Av.run ?_)
     (conv=>whnf);rw [w64 (x:=1+szI a) (by unfold szI;omega) (by unfold szI;omega)];refine nd stg fun b5 o5 hc5 hO5=>(VC.fa Gh (ld1 (v:=.int .i64 (i2:Int)) ct3 (hc5 258 _ (QS _)) trivial (ixO (j:=i2) (x:=szI c) AW stg 0 rfl g2 rfl fun b9 o9 cs9 hO9 hc9 hr9=>?_)));obtain⟨rfl,-⟩:=hr9;refine ld1 (v:=.int .i64 (szI c)) ct3 hc9.one trivial ?_;(conv=>whnf);rw [w64 (x:=1+szI a+szI c) (by unfold szI;omega) (by unfold szI;omega)];rw [show 1+szI a+szI c=((1+szR a.den+szR c.den:Nat):Int) by unfold szI;omega];refine ixE (T:=tPl) (j:=j) AW stg 0 rfl (by rw [Bd ws hj];exact hjl) rfl ?_;refine J7 (T:=tPl) (j:=j) (x:=((1+szR a.den+szR c.den:Nat):Int)) stg 0 ct3 rfl rfl (AbW _) (by rw [Bd ws hj];exact hjl) rfl (fun _ _=>⟨rfl,BH (by omega)⟩) fun G3 sg3=>?_;(conv=>whnf);try (refine Av.run ?_)
     refine ixO (j:=j) (x:=(((1+szR a.den+szR c.den:Nat):Int):Int)) AW sg3 0 rfl (by exact AbK (by rw [Bd ws hj];exact hjl)) rfl fun b9 o9 cs9 hO9 hc9 hr9=>?_;obtain⟨rfl,-⟩:=hr9;refine ld1 (v:=.int .i64 ((((1+szR a.den+szR c.den:Nat):Int):Int))) ct3 hc9.one trivial ?_;by_cases hcap:2001<1+szR a.den+szR c.den
     ·have d9:decide (2001<(((1+szR a.den+szR c.den:Nat):Int):Int))=true:=decide_eq_true (by omega);(conv=>whnf);rw [d9];refine ixE (T:=tPl) (j:=j) AW sg3 0 rfl (by rw [AbV,Bd ws hj];exact hjl) rfl ?_;refine J7 (T:=tPl) (j:=j) (x:=2001) sg3 0 ct3 rfl rfl (AbW _) (by rw [AbV,Bd ws hj];exact hjl) rfl (fun _ _=>⟨rfl,BH (x:=2001) (by decide)⟩) fun G8 sg8=>?_;(conv=>whnf);rw [w64 (x:=(j:Int)+1) (by omega) (by omega)];refine⟨rfl,j+1,rfl,⟨by omega,?_⟩,by omega⟩;have e:(2001:Int)=szI (.and_ a c):=by unfold szI;rw [hsz];omega
      replace sg8:St H G8 [pSz b ds.length (((szL ws j).set j ((1+szR a.den+szR c.den:Nat):Int)).set j 2001)]:=sg8;rw [AbX,e,Dm hw]at sg8;exact sg8
     ·have d9:decide (2001<(((1+szR a.den+szR c.den:Nat):Int):Int))=false:=decide_eq_false (by omega);(conv=>whnf);rw [d9];(conv=>whnf);rw [w64 (x:=(j:Int)+1) (by omega) (by omega)];refine⟨rfl,j+1,rfl,⟨by omega,?_⟩,by omega⟩;have e:(((1+szR a.den+szR c.den:Nat):Int):Int)=szI (.and_ a c):=by unfold szI;rw [hsz];omega
      have sg8:=sg3;replace sg8:St H _ [pSz b ds.length ((szL ws j).set j ((1+szR a.den+szR c.den:Nat):Int))]:=sg8;rw [e,Dm hw]at sg8;exact sg8
   | minus a c=>
     obtain⟨i1,i2,rfl,hi1,hi2⟩:=hnr;obtain⟨g1,l1⟩:=hlt hi1;obtain⟨g2,l2⟩:=hlt hi2;have za:=Ft a.den;have zc:=Ft c.den;have hsz:szR (RwM.minus a c).den=min (1+szR a.den+szR c.den) 2001:=LT .minus a.den c.den;(conv=>whnf);try (refine Av.run ?_)
     refine nd stg fun b3 o3 hc3 hO3=>(VC.fa CP (ld1 (v:=.int .i64 (i1:Int)) ct3 (hc3 257 _ (IM _)) trivial (ixO (j:=i1) (x:=szI a) AW stg 0 rfl g1 rfl fun b9 o9 cs9 hO9 hc9 hr9=>?_)));obtain⟨rfl,-⟩:=hr9;refine ld1 (v:=.int .i64 (szI a)) ct3 hc9.one trivial ?_;(conv=>whnf);try (refine Av.run ?_)
     refine nd stg fun b4 o4 hc4 hO4=>(VC.fa Cd (ld1 (v:=.int .i64 (A7 6 (i1:Int) (i2:Int)).op) ct3 (hc4 0 _ (DV _)) trivial ?_));(conv=>whnf);try (refine Av.run ?_)
     (conv=>whnf);rw [w64 (x:=1+szI a) (by unfold szI;omega) (by unfold szI;omega)];refine nd stg fun b5 o5 hc5 hO5=>(VC.fa Gh (ld1 (v:=.int .i64 (i2:Int)) ct3 (hc5 258 _ (QS _)) trivial (ixO (j:=i2) (x:=szI c) AW stg 0 rfl g2 rfl fun b9 o9 cs9 hO9 hc9 hr9=>?_)));obtain⟨rfl,-⟩:=hr9;refine ld1 (v:=.int .i64 (szI c)) ct3 hc9.one trivial ?_;(conv=>whnf);rw [w64 (x:=1+szI a+szI c) (by unfold szI;omega) (by unfold szI;omega)];rw [show 1+szI a+szI c=((1+szR a.den+szR c.den:Nat):Int) by unfold szI;omega];refine ixE (T:=tPl) (j:=j) AW stg 0 rfl (by rw [Bd ws hj];exact hjl) rfl ?_;refine J7 (T:=tPl) (j:=j) (x:=((1+szR a.den+szR c.den:Nat):Int)) stg 0 ct3 rfl rfl (AbW _) (by rw [Bd ws hj];exact hjl) rfl (fun _ _=>⟨rfl,BH (by omega)⟩) fun G3 sg3=>?_;(conv=>whnf);try (refine Av.run ?_)
     refine ixO (j:=j) (x:=(((1+szR a.den+szR c.den:Nat):Int):Int)) AW sg3 0 rfl (by exact AbK (by rw [Bd ws hj];exact hjl)) rfl fun b9 o9 cs9 hO9 hc9 hr9=>?_;obtain⟨rfl,-⟩:=hr9;refine ld1 (v:=.int .i64 ((((1+szR a.den+szR c.den:Nat):Int):Int))) ct3 hc9.one trivial ?_;by_cases hcap:2001<1+szR a.den+szR c.den
     ·have d9:decide (2001<(((1+szR a.den+szR c.den:Nat):Int):Int))=true:=decide_eq_true (by omega);(conv=>whnf);rw [d9];refine ixE (T:=tPl) (j:=j) AW sg3 0 rfl (by rw [AbV,Bd ws hj];exact hjl) rfl ?_;refine J7 (T:=tPl) (j:=j) (x:=2001) sg3 0 ct3 rfl rfl (AbW _) (by rw [AbV,Bd ws hj];exact hjl) rfl (fun _ _=>⟨rfl,BH (x:=2001) (by decide)⟩) fun G8 sg8=>?_;(conv=>whnf);rw [w64 (x:=(j:Int)+1) (by omega) (by omega)];refine⟨rfl,j+1,rfl,⟨by omega,?_⟩,by omega⟩;have e:(2001:Int)=szI (.minus a c):=by unfold szI;rw [hsz];omega
      replace sg8:St H G8 [pSz b ds.length (((szL ws j).set j ((1+szR a.den+szR c.den:Nat):Int)).set j 2001)]:=sg8;rw [AbX,e,Dm hw]at sg8;exact sg8
     ·have d9:decide (2001<(((1+szR a.den+szR c.den:Nat):Int):Int))=false:=decide_eq_false (by omega);(conv=>whnf);rw [d9];(conv=>whnf);rw [w64 (x:=(j:Int)+1) (by omega) (by omega)];refine⟨rfl,j+1,rfl,⟨by omega,?_⟩,by omega⟩;have e:(((1+szR a.den+szR c.den:Nat):Int):Int)=szI (.minus a c):=by unfold szI;rw [hsz];omega
      have sg8:=sg3;replace sg8:St H _ [pSz b ds.length ((szL ws j).set j ((1+szR a.den+szR c.den:Nat):Int))]:=sg8;rw [e,Dm hw]at sg8;exact sg8
   | rep a m n=>
     obtain⟨i1,rfl,hi1,hrk⟩:=hnr;obtain⟨g1,l1⟩:=hlt hi1;have za:=Ft a.den;have hmn:0≤n→((AL m:Nat):Int)≤n:=by intro h0;unfold AL;rcases hrk with h | h<;>split<;>omega
     have hsz:szR (RwM.rep a m n).den=min (FA (szR a.den) (AL m) n) 2001:=YA a.den (AL m) n hmn;have hrl:=Yy za hrk;(conv=>whnf);try (refine Av.run ?_)
     refine nd stg fun b3 o3 hc3 hO3=>(VC.fa CP (ld1 (v:=.int .i64 (i1:Int)) ct3 (hc3 257 _ (IM _)) trivial (ixO (j:=i1) (x:=szI a) AW stg 0 rfl g1 rfl fun b9 o9 cs9 hO9 hc9 hr9=>?_)));obtain⟨rfl,-⟩:=hr9;refine ld1 (v:=.int .i64 (szI a)) ct3 hc9.one trivial ?_;(conv=>whnf);try (refine Av.run ?_)
     refine nd stg fun b4 o4 hc4 hO4=>(VC.fa Cd (ld1 (v:=.int .i64 (BQ (i1:Int) m n).op) ct3 (hc4 0 _ (DV _)) trivial ?_));(conv=>whnf);try (refine Av.run ?_)
     refine Ar.heldZ (Old G) [15] (sq [0,1,2,3,4,5,6,7,8,9,10,11,12] (.f 13 (sq [14] (.f 15 .e)))) rfl (by kernel_rfl) (nd stg fun b5 o5 hc5 hO5=>(VC.fa Tg (ld1 (v:=.int .i64 m) ct3 (hc5 259 _ (rn_m _)) hO5 (nd stg fun b6 o6 hc6 hO6=>(VC.fa Gi (ld1 (v:=.int .i64 n) ct3 (hc6 260 _ (QR _)) hO6 (Am (YF (c:=szR a.den) za hrk G) fun G7 ha7=>?_)))))));have sg7:=stg.call ha7;refine⟨ha7,?_⟩;refine ixE (T:=tPl) (j:=j) AW sg7 0 rfl (by rw [Bd ws hj];exact hjl) rfl ?_;refine J7 (T:=tPl) (j:=j) (x:=((FA (szR a.den) (AL m) n:Nat):Int)) sg7 0 ct3 rfl rfl (AbW _) (by rw [Bd ws hj];exact hjl) rfl (fun _ _=>⟨rfl,BH (by omega)⟩) fun G3 sg3=>?_;(conv=>whnf);try (refine Av.run ?_)
     refine ixO (j:=j) (x:=(((FA (szR a.den) (AL m) n:Nat):Int):Int)) AW sg3 0 rfl (by exact AbK (by rw [Bd ws hj];exact hjl)) rfl fun b9 o9 cs9 hO9 hc9 hr9=>?_;obtain⟨rfl,-⟩:=hr9;refine ld1 (v:=.int .i64 ((((FA (szR a.den) (AL m) n:Nat):Int):Int))) ct3 hc9.one trivial ?_;by_cases hcap:2001<FA (szR a.den) (AL m) n
     ·have d9:decide (2001<(((FA (szR a.den) (AL m) n:Nat):Int):Int))=true:=decide_eq_true (by omega);(conv=>whnf);rw [d9];refine ixE (T:=tPl) (j:=j) AW sg3 0 rfl (by rw [AbV,Bd ws hj];exact hjl) rfl ?_;refine J7 (T:=tPl) (j:=j) (x:=2001) sg3 0 ct3 rfl rfl (AbW _) (by rw [AbV,Bd ws hj];exact hjl) rfl (fun _ _=>⟨rfl,BH (x:=2001) (by decide)⟩) fun G8 sg8=>?_;(conv=>whnf);rw [w64 (x:=(j:Int)+1) (by omega) (by omega)];refine⟨rfl,j+1,rfl,⟨by omega,?_⟩,by omega⟩;have e:(2001:Int)=szI (.rep a m n):=by unfold szI;rw [hsz];omega
      replace sg8:St H G8 [pSz b ds.length (((szL ws j).set j ((FA (szR a.den) (AL m) n:Nat):Int)).set j 2001)]:=sg8;rw [AbX,e,Dm hw]at sg8;exact sg8
     ·have d9:decide (2001<(((FA (szR a.den) (AL m) n:Nat):Int):Int))=false:=decide_eq_false (by omega);(conv=>whnf);rw [d9];(conv=>whnf);rw [w64 (x:=(j:Int)+1) (by omega) (by omega)];refine⟨rfl,j+1,rfl,⟨by omega,?_⟩,by omega⟩;have e:(((FA (szR a.den) (AL m) n:Nat):Int):Int)=szI (.rep a m n):=by unfold szI;rw [hsz];omega
      have sg8:=sg3;replace sg8:St H _ [pSz b ds.length ((szL ws j).set j ((FA (szR a.den) (AL m) n:Nat):Int))]:=sg8;rw [e,Dm hw]at sg8;exact sg8
  ·obtain rfl:j=ws.length:=by omega
   (conv=>whnf);exact⟨b,rfl,stg⟩
abbrev reP(bb:Nat)(a:Option Addr)(c:Nat)(ns:List RnM)(AR:Int)(rest:List Pc):List Pc:=pB tRe bb (reL (.slice a ns.length c) AR)::pS tRn 159 a ns.length c ns::rest
section
variable{B:Nat→Prop}{H0 H:Aa}{bb c:Nat}{a:Option Addr}{ns:List RnM}{AR:Int}{rest:List Pc}
theorem Fl{op x y:Int}(st:StB B H0 H (reP bb a c ns AR rest))(h1:AH op)(h2:AH x)(h3:AH y)(hl:ns.length≤16777216):
  Al Tryz.prog 137 #[.pointer (some ⟨bb,0,none⟩),.int .i64 op,.int .i64 x,.int .i64 y] H
   (fun v H'=>v= .int .i64 (ns.length:Int)∧∃a' c',StB B H0 H' (reP bb a' c' (ns++[A7 op x y]) AR rest)):=by
 refine Al.of_vc Tryz.func137 rfl (Tryz.call137 _) (VC.fa He ?_);refine ld1 (v:=.slice a ns.length c) Ev (by rw [(st.blk 0 rfl).cell];rfl) trivial ?_;refine Om op x y (AG Fm (rnL (A7 op x y)) rfl (AQ _) (by decide) (by decide) ?_);intro z H1 hz hs1 hb1 ha1;have st1:=st.skip hz ha1;refine Ku (ys:=[A7 op x y]) st1 1 Fm rfl (hb1.cells (o:=0) (cs:=rnL (A7 op x y)) fun j v hv=>by rw [AaT];exact hv) (Ty.reps_one ⟨rfl,Vu h1 h2 h3⟩) rfl (fun u hu=>AcM.1 (CQ _) u hu) (by simp [maxLen];omega) (by simp;omega) fun a9 c9 H9 st9 ha9=>?_;have el:ns.length+[A7 op x y].length=(ns++[A7 op x y]).length:=by simp
 rw [el]at st9 ⊢;refine VC.fa He (AZ st9 0 Ev rfl (show 0<2 by decide) rfl fun H10 st10=>(VC.fa He ?_));refine ld1 (v:=.slice a9 (ns++[A7 op x y]).length c9) Ev (by rw [(st10.blk 0 rfl).cell];rfl) trivial ?_;have w1:IntKind.wrap .i64 (((ns++[A7 op x y]).length:Int) - 1)=(ns.length:Int):=by
  rw [AaS,AbD,w64 (by omega) (by omega)];omega
 (conv=>whnf);rw [w1];(conv=>whnf);exact⟨rfl,a9,c9,st10⟩
def Rz(r:ReM)(ms:List RnM):Prop:=r.plain=true→∀d∈ms,d.op≠5∧d.op≠6
structure GrP(B:Nat→Prop)(H0:Aa)(bb:Nat)(AR:Int)(rest:List Pc)(ns:List RnM)(r:ReM)(v:Value)(H':Aa):Prop where
 ex:∃(ms:List RnM) (a':Option Addr) (c':Nat),ms.length=r.nodes∧Rz r ms∧v= .int .i64 ((ns.length+ms.length - 1:Nat):Int)∧Cv (ns++ms) r (ns.length+ms.length - 1)∧StB B H0 H' (reP bb a' c' (ns++ms) AR rest)
def Rx(w:RwM):Prop:=∀(B:Nat→Prop) (H0 H:Aa) (bb c:Nat) (a:Option Addr) (ns:List RnM) (AR:Int) (rest:List Pc) (na:Option Addr) (nc i:Nat) (ds:List RnM) (ws:List RwM),Raw ds ws→SlD tRn B H0 na nc ds→(∀k,B k→k<H0.size)→ws[i]? =some w→
 ns.length+w.den.nodes≤4194304→StB B H0 H (reP bb a c ns AR rest)→
 Al Tryz.prog 83 #[.slice na ds.length nc,.int .i64 (i:Int),.pointer (some ⟨bb,0,none⟩)] H (GrP B H0 bb AR rest ns w.den)
theorem Bk(r:ReM):1≤r.nodes:=by cases r<;>simp [ReM.nodes]<;>omega
theorem LI{α:Type}(l:List α)(x:α):(l++[x])[l.length]? =some x:=by simp
theorem BG{n:Nat}(h:n≤4194304):AH (n:Int):=by unfold AH;omega
theorem MK{w:RwM}(IH:Rx w){na:Option Addr}{nc i:Nat}{ds:List RnM}{ws:List RwM}(hR:Raw ds ws)(hd:SlD tRn B H0 na nc ds)(hB:∀k,B k→k<H0.size)(hw:ws[i]? =some w)(hl:ns.length+w.den.nodes+2≤4194304)(st:StB B H0 H (reP bb a c ns AR rest)):
  Al Tryz.prog 174 #[.slice na ds.length nc,.int .i64 (i:Int),.pointer (some ⟨bb,0,none⟩)] H (GrP B H0 bb AR rest ns (Bj w.den)):=by
 refine Al.of_vc Tryz.func174 rfl (Tryz.call174 _) (Ad.mk (IH B H0 H bb c a ns AR rest na nc i ds ws hR hd hB hw (by omega) st) ?_);rintro _ H1 ⟨ms,a1,c1,hm,hsg,rfl,ht,st1⟩;have hp:=Bk w.den;refine Ad.mk (Fl (op:=0) (x:=0) (y:=0) st1 (by unfold AH;omega) (by unfold AH;omega) (by unfold AH;omega) (by simp;omega)) ?_;rintro _ H2 ⟨rfl,a2,c2,st2⟩;refine Ad.mk (Fl (op:=3) (x:=((ns.length+ms.length - 1:Nat):Int)) (y:=((ns++ms).length:Int)) st2 (by unfold AH;omega) (BG (by omega)) (BG (by simp;omega)) (by simp;omega)) ?_;rintro _ H3 ⟨rfl,a3,c3,st3⟩;(conv=>whnf);refine⟨ms++[A7 0 0 0]++[A7 3 ((ns.length+ms.length - 1:Nat):Int) ((ns++ms).length:Int)],a3,c3,?_,?_,?_,?_,?_⟩
 ·simp [Bj,ReM.nodes,hm];omega
 ·intro hp d hd;have hp1:w.den.plain=true:=by simpa [Bj,ReM.plain]using hp
  simp only [AcP,Ac3]at hd;rcases hd with(hd | rfl) | rfl
  ·exact hsg hp1 d hd
  ·exact⟨show(0:Int)≠5 by decide,show(0:Int)≠6 by decide⟩
  ·exact⟨show(3:Int)≠5 by decide,show(3:Int)≠6 by decide⟩
 ·congr 1;simp only [AaS,AbD];omega
 ·have e:ns++(ms++[A7 0 0 0]++[A7 3 ((ns.length+ms.length - 1:Nat):Int) ((ns++ms).length:Int)])=((ns++ms)++[A7 0 0 0])++[A7 3 ((ns.length+ms.length - 1:Nat):Int) ((ns++ms).length:Int)]:=by simp [AaV]
  rw [e];refine⟨A7 3 ((ns.length+ms.length - 1:Nat):Int) ((ns++ms).length:Int),ns.length+ms.length - 1,(ns++ms).length,?_,rfl,rfl,rfl,ht.more.more,⟨A7 0 0 0,GP (LI _ _),rfl⟩⟩;have:=LI ((ns++ms)++[A7 0 0 0]) (A7 3 ((ns.length+ms.length - 1:Nat):Int) ((ns++ms).length:Int));rw [show ns.length+(ms++[A7 0 0 0]++[A7 3 ((ns.length+ms.length - 1:Nat):Int) ((ns++ms).length:Int)]).length - 1=((ns++ms)++[A7 0 0 0]).length by simp only [AaS,AbD];omega];exact this
 ·have e:ns++(ms++[A7 0 0 0]++[A7 3 ((ns.length+ms.length - 1:Nat):Int) ((ns++ms).length:Int)])=((ns++ms)++[A7 0 0 0])++[A7 3 ((ns.length+ms.length - 1:Nat):Int) ((ns++ms).length:Int)]:=by simp [AaV]
  rw [e];exact st3
end
def rO(r:ReM)(m k:Nat):ReM:=(BS r m k).getD .eps
theorem KE(r:ReM)(m:Nat):rO r m 1=if 0<m then r else Bj r:=rfl
theorem Hp(r:ReM)(m k:Nat)(h:1≤k):rO r m (k+1)= .cat (rO r m k) (if k<m then r else Bj r):=Ds r m k h
theorem P6(r:ReM)(m:Nat){k:Nat}(h:1≤k):∀j,(rO r m k).nodes≤(rO r m (k+j)).nodes
 | 0=>AaU _
 | j+1=>by
   have ih:=P6 r m h j;have e:(rO r m (k+(j+1))).nodes=1+(rO r m (k+j)).nodes+(if k+j<m then r else Bj r).nodes:=by
    rw [show k+(j+1)=(k+j)+1 by omega,Hp r m (k+j) (by omega)];rfl
   omega
section
variable{B:Nat→Prop}{H0 H:Aa}{bb c:Nat}{a:Option Addr}{ns:List RnM}{AR:Int}{rest:List Pc}
structure UnI(B:Nat→Prop)(H0:Aa)(bb:Nat)(AR:Int)(rest:List Pc)(ns:List RnM)(r:ReM)(m k:Nat)(out:Int)(G:Aa):Prop where
 ex:∃(ms:List RnM) (a:Option Addr) (c:Nat),(k=0→ms=[]∧out= -1)∧(0<k→ms.length=(rO r m k).nodes∧Rz (rO r m k) ms∧out=((ns.length+ms.length - 1:Nat):Int)∧Cv (ns++ms) (rO r m k) (ns.length+ms.length - 1))∧StB B H0 G (reP bb a c (ns++ms) AR rest)
theorem EV{r1 r2:ReM}{ms1 ms2:List RnM}{op:Int}{R:ReM}{G:Aa}{a':Option Addr}{c':Nat}(h1:ms1.length=r1.nodes)(n1:Rz r1 ms1)(h2:ms2.length=r2.nodes)(n2:Rz r2 ms2)(hg:R.plain=true→r1.plain=true∧r2.plain=true∧op≠5∧op≠6)
  (hR:R.nodes=1+r1.nodes+r2.nodes)
  (hT:∀ns' d j k,ns'[ns.length+(ms1++ms2++[d]).length - 1]? =some d→d=A7 op ((j:Nat):Int) ((k:Nat):Int)→Cv ns' r1 j→Cv ns' r2 k→Cv ns' R (ns.length+(ms1++ms2++[d]).length - 1))
  (t1:Cv (ns++ms1) r1 (ns.length+ms1.length - 1)) (t2:Cv (ns++ms1++ms2) r2 ((ns++ms1).length+ms2.length - 1))
  (st:StB B H0 G (reP bb a' c' (ns++ms1++ms2++[A7 op ((ns.length+ms1.length - 1:Nat):Int) (((ns++ms1).length+ms2.length - 1:Nat):Int)]) AR rest)):
  GrP B H0 bb AR rest ns R (.int .i64 ((ns++ms1++ms2).length:Int)) G:=by
 have p1:=Bk r1;have p2:=Bk r2;obtain⟨d,hd⟩:∃d,d=A7 op ((ns.length+ms1.length - 1:Nat):Int) (((ns++ms1).length+ms2.length - 1:Nat):Int):=⟨_,rfl⟩;rw [←hd]at st;have e:ns++(ms1++ms2++[d])=ns++ms1++ms2++[d]:=by simp [AaV]
 refine⟨ms1++ms2++[d],a',c',?_,?_,?_,?_,?_⟩
 ·simp only [AaS,AbD,h1,h2];omega
 ·intro hp x hx;obtain⟨k1,k2,k3,k4⟩:=hg hp;simp only [AcP,Ac3]at hx;rcases hx with(hx | hx) | hx
  ·exact n1 k1 x hx
  ·exact n2 k2 x hx
  ·rw [hx,hd];exact⟨k3,k4⟩
 ·congr 1;simp only [AaS,AbD];omega
 ·rw [e];refine hT _ d _ _ ?_ hd t1.more.more t2.more;rw [show ns.length+(ms1++ms2++[d]).length - 1=(ns++ms1++ms2).length by simp only [AaS,AbD];omega];exact LI _ _
 ·rw [e];exact st
theorem M4{r1:ReM}{ms1:List RnM}{G:Aa}{a':Option Addr}{c':Nat}(h1:ms1.length=r1.nodes)(n1:Rz r1 ms1)(t1:Cv (ns++ms1) r1 (ns.length+ms1.length - 1))
  (st:StB B H0 G (reP bb a' c' (ns++ms1++[A7 4 ((ns.length+ms1.length - 1:Nat):Int) 0]) AR rest)):
  GrP B H0 bb AR rest ns (.star r1) (.int .i64 ((ns++ms1).length:Int)) G:=by
 have p1:=Bk r1;have e:ns++(ms1++[A7 4 ((ns.length+ms1.length - 1:Nat):Int) 0])=ns++ms1++[A7 4 ((ns.length+ms1.length - 1:Nat):Int) 0]:=by simp [AaV]
 refine⟨ms1++[A7 4 ((ns.length+ms1.length - 1:Nat):Int) 0],a',c',?_,?_,?_,?_,?_⟩
 ·simp only [AaS,AbD,h1,ReM.nodes];omega
 ·intro hp x hx;simp only [AcP,Ac3]at hx;rcases hx with hx | rfl
  ·exact n1 hp x hx
  ·exact⟨show(4:Int)≠5 by decide,show(4:Int)≠6 by decide⟩
 ·congr 1;simp only [AaS,AbD];omega
 ·rw [e];refine⟨A7 4 ((ns.length+ms1.length - 1:Nat):Int) 0,ns.length+ms1.length - 1,?_,rfl,rfl,t1.more⟩;rw [show ns.length+(ms1++[A7 4 ((ns.length+ms1.length - 1:Nat):Int) 0]).length - 1=(ns++ms1).length by simp only [AaS,AbD];omega];exact LI _ _
 ·rw [e];exact st
theorem Ts{G:Aa}{a':Option Addr}{c':Nat}(st:StB B H0 G (reP bb a' c' (ns++[A7 0 0 0]) AR rest)):GrP B H0 bb AR rest ns .eps (.int .i64 (ns.length:Int)) G:=
 ⟨[A7 0 0 0],a',c',rfl,fun _ x hx=>by rcases Ac3.1 hx with rfl;exact⟨show(0:Int)≠5 by decide,show(0:Int)≠6 by decide⟩,by simp,⟨A7 0 0 0,by simp,rfl⟩,st⟩
theorem GrP.drop{ms:List Pc}{r:ReM}{v:Value}{G:Aa}(h:GrP B H0 bb AR (rest++ms) ns r v G):GrP B H0 bb AR rest ns r v G:=by
 obtain⟨ms1,a1,c1,h1,hs,h2,h3,st⟩:=h;exact⟨ms1,a1,c1,h1,hs,h2,h3,st.subl (List.Sublist.cons_cons _ (List.Sublist.cons_cons _ (List.sublist_append_left _ _)))⟩
theorem WY{w:RwM}(IH:Rx w){na:Option Addr}{nc i:Nat}{ds:List RnM}{ws:List RwM}{m n:Int}(hR:Raw ds ws)(hd:SlD tRn B H0 na nc ds)(hB:∀k,B k→k<H0.size)(hw:ws[i]? =some w)(hrk:SI m n)(hl:ns.length+(Ca w.den (AL m) n).nodes≤4194304)(st:StB B H0 H (reP bb a c ns AR rest)):
  Al Tryz.prog 136 #[.slice na ds.length nc,.agg (rnL (BQ (i:Int) m n)).toArray,.pointer (some ⟨bb,0,none⟩)] H (GrP B H0 bb AR rest ns (Ca w.den (AL m) n)):=by
 have hmx:AL m≤255:=by unfold AL;split<;>rcases hrk with h | h<;>omega
 have hnx1:n≤255:=by rcases hrk with h | h<;>omega
 have hnx2: -1≤n:=by rcases hrk with h | h<;>omega
 have hmn:0≤n→((AL m:Nat):Int)≤n:=by intro h0;unfold AL;rcases hrk with h | h<;>split<;>omega
 have hpos:=Bk w.den;refine Al.of_vc Tryz.func136 rfl (Tryz.call136 _) (Cq (rnL (BQ (i:Int) m n)) rfl ?_);intro x H1 hx hs1 hb1 ha1;have st1:=st.box hx hs1 hb1 ha1;replace st1:StB B H0 H1 (reP bb a c ns AR (rest++[pB 159 x (rnL (BQ (i:Int) m n))])):=st1;refine VC.fa Tg ?_;refine ld1 (v:=.int .i64 m) ct3 (by rw [(st1.blk _ (lgR (_::_::rest) _ 0)).cell,AaT];exact rn_m _) trivial ?_;(conv=>whnf);refine Av.cut [7] (fun _:Unit=>[.int .i64 ((AL m:Nat):Int)]) (fun _ G=>StB B H0 G (reP bb a c ns AR (rest++[pB 159 x (rnL (BQ (i:Int) m n))]))) ?_ ?_
 ·by_cases h2:m= -2
  ·subst h2;(conv=>whnf);exact⟨rfl,(),rfl,st1⟩
  ·have d1:(m== -2)=false:=beq_eq_false_iff_ne.2 h2;(conv=>whnf);rw [d1];(conv=>whnf);refine⟨rfl,(),?_,st1⟩;have:((AL m:Nat):Int)=m:=by
    unfold AL;rw [if_neg h2];have:0≤m:=by rcases hrk with h | h<;>omega
    omega
   rw [this]
 rintro⟨⟩ G junk sg;clear st st1 hb1 ha1;refine VC.fa Gi ?_;refine ld1 (v:=.int .i64 n) ct3 (by rw [(sg.blk _ (lgR (_::_::rest) _ 0)).cell,AaT];exact QR _) trivial ?_;(conv=>whnf);by_cases h1:n<0
 ·have d1:decide (n<0)=true:=decide_eq_true h1;rw [d1];by_cases h0:AL m=0
  ·have hrep:Ca w.den (AL m) n= .star w.den:=by unfold Ca;rw [if_pos h1,if_pos h0]
   rw [hrep]at hl ⊢;simp only [ReM.nodes]at hl;have d2:(((AL m:Nat):Int)==0)=true:=by rw [h0];rfl
   (conv=>whnf);rw [d2];refine VC.fa CP ?_;refine ld1 (v:=.int .i64 (i:Int)) ct3 (by rw [(sg.blk _ (lgR (_::_::rest) _ 0)).cell,AaT];exact IM _) trivial ?_;refine Ad.mk (IH B H0 _ bb _ _ (ns) AR (rest++[pB 159 x (rnL (BQ (i:Int) m n))]) na nc i ds ws hR hd hB hw (by omega) sg) ?_;rintro _ G1 ⟨ms1,a1,c1,hm1,hs1,rfl,ht1,sg1⟩;refine Ad.mk (Fl (op:=4) (x:=((ns.length+ms1.length - 1:Nat):Int)) (y:=0) sg1 (by unfold AH;omega) (BG (by omega)) (by unfold AH;omega) (by simp;omega)) ?_;rintro _ G2 ⟨rfl,a2,c2,sg2⟩;(conv=>whnf);exact(M4 hm1 hs1 ht1 sg2).drop
  ·have d2:(((AL m:Nat):Int)==0)=false:=beq_eq_false_iff_ne.2 (by omega);(conv=>whnf);rw [d2];have hns:¬(n<0∧AL m=0):=fun h=>h0 h.2;clear d1 d2;refine VC.fa Gi ?_;refine ld1 (v:=.int .i64 n) ct3 (by rw [(sg.blk _ (lgR (_::_::rest) _ 0)).cell,AaT];exact QR _) trivial ?_;(conv=>whnf);by_cases h0:n=0
   ·have d1:(n==0)=true:=by rw [h0];rfl
    have hrep:Ca w.den (AL m) n= .eps:=by unfold Ca;rw [if_neg (by omega),if_pos h0]
    rw [hrep]at hl ⊢;simp only [ReM.nodes]at hl;rw [d1];refine Ad.mk (Fl (op:=0) (x:=0) (y:=0) sg (by unfold AH;omega) (by unfold AH;omega) (by unfold AH;omega) (by omega)) ?_;rintro _ G3 ⟨rfl,a2,c2,sg3⟩;(conv=>whnf);exact(Ts sg3).drop
   ·have d1:(n==0)=false:=beq_eq_false_iff_ne.2 h0;rw [d1];have hn0:n≠0:=h0;have sg3:=sg;clear sg;obtain⟨K,hK⟩:∃K:Nat,K=if n<0 then AL m else n.toNat:=⟨_,rfl⟩
    have hK1:1≤K:=by rw [hK];split<;>omega
    have hKb:K≤255:=by rw [hK];split<;>omega
    have hKO:(rO w.den (AL m) K).nodes≤(Ca w.den (AL m) n).nodes:=by
     unfold Ca;by_cases h1:n<0
     ·rw [if_pos h1,if_neg (by omega),hK,if_pos h1];show _≤1+((BS w.den (AL m) (AL m)).getD .eps).nodes+_;unfold rO;omega
     ·rw [if_neg h1,if_neg hn0,hK,if_neg h1];exact AaU _
    refine VC.fa Gi ?_;refine ld1 (v:=.int .i64 n) ct3 (by rw [(sg3.blk _ (lgR (_::_::rest) _ 0)).cell,AaT];exact QR _) trivial ?_;(conv=>whnf);refine Av.cut [8] (fun _:Unit=>[.int .i64 (K:Int)]) (fun _ G=>StB B H0 G (reP bb a c ns AR (rest++[pB 159 x (rnL (BQ (i:Int) m n))]))) ?_ ?_
    ·(conv=>whnf);by_cases h1:n<0
     ·have d1:decide (n<0)=true:=decide_eq_true h1;rw [d1];(conv=>whnf);exact⟨rfl,(),by rw [hK,if_pos h1],sg3⟩
     ·have d1:decide (n<0)=false:=decide_eq_false h1;rw [d1];(conv=>whnf);exact⟨rfl,(),by rw [hK,if_neg h1,AcS (by omega)],sg3⟩
    rintro⟨⟩ G4 junk4 sg4;clear sg3;(conv=>whnf);refine AK.mk [9,10] (fun y:Nat×Int=>match y with | (k,out)=>[.int .i64 out,.int .i64 (k:Int)]) (fun y G=>match y with | (k,out)=>k≤K∧UnI B H0 bb AR (rest++[pB 159 x (rnL (BQ (i:Int) m n))]) ns w.den (AL m) k out G) (fun y _=>match y with | (k,_)=>K - k) ?_ ?_
    ·(conv=>whnf);exact⟨(0,-1),rfl,AcF _,⟨[],_,_,fun _=>⟨rfl,rfl⟩,fun h=>absurd h (by decide),by simpa using sg4⟩⟩
    ·rintro⟨k,out⟩ G junk5 ⟨hk,⟨ms,a1,c1,hz0,hz1,sg⟩⟩;clear sg4;have hnext:k<K→(rO w.den (AL m) (k+1)).nodes≤(Ca w.den (AL m) n).nodes:=fun h=>by
      have:=P6 w.den (AL m) (k:=k+1) (by omega) (K - (k+1));rw [show k+1+(K - (k+1))=K by omega]at this;omega
     have hpart:k<K→(ns++ms).length+(if k<AL m then w.den else Bj w.den).nodes≤4194304:=fun h=>by
      have h1:=hnext h;by_cases hk0:k=0
      ·obtain⟨rfl,-⟩:=hz0 hk0;subst hk0;rw [KE]at h1;simp only [Ac4];omega
      ·obtain⟨hm1,-,-,-⟩:=hz1 (by omega);rw [Hp _ _ _ (by omega)]at h1;simp only [ReM.nodes]at h1;simp only [AaS];omega
     refine AN.mk (fun hz=>?_) (fun hz=>?_)<;>simp only [decide_eq_true_eq,decide_eq_false_iff_not]at hz
     ·have hkK:k<K:=by omega
      replace hnext:=hnext hkK;replace hpart:=hpart hkK;(conv=>whnf);try (refine Av.run ?_)
      (conv=>whnf);try (refine Av.run ?_)
      (conv=>whnf);by_cases hkm:k<AL m
      ·have d1:decide ((k:Int)<((AL m:Nat):Int))=true:=decide_eq_true (by omega);rw [if_pos hkm]at hpart;rw [d1];refine VC.fa CP ?_;refine ld1 (v:=.int .i64 (i:Int)) ct3 (by rw [(sg.blk _ (lgR (_::_::rest) _ 0)).cell,AaT];exact IM _) trivial ?_;refine Ad.mk (IH B H0 _ bb _ _ (ns++ms) AR (rest++[pB 159 x (rnL (BQ (i:Int) m n))]) na nc i ds ws hR hd hB hw (by omega) sg) ?_;rintro _ G1 ⟨ms2,a2,c2,hm2,hs2,rfl,ht2,st2⟩;have p2:=Bk (w.den);(conv=>whnf);try (refine Av.run ?_)
       (conv=>whnf);by_cases hk0:k=0
       ·obtain⟨rfl,rfl⟩:=hz0 hk0;subst hk0;(conv=>whnf);rw [w64 (x:=((0:Nat):Int)+1) (by omega) (by omega)];have e1:rO w.den (AL m) 1=w.den:=by rw [KE];exact if_pos hkm
        refine⟨rfl,(1,_),rfl,⟨by omega,⟨ms2,a2,c2,fun h=>absurd h (by decide),fun _=>?_,by simpa using st2⟩⟩,by show K - 1<K - 0;omega⟩;rw [e1];simp only [Ac4]at ht2;exact⟨hm2,hs2,by simp,ht2⟩
       ·obtain⟨hm1,hs1,rfl,ht1⟩:=hz1 (by omega);have hnx:rO w.den (AL m) (k+1)= .cat (rO w.den (AL m) k) (w.den):=by rw [Hp _ _ _ (by omega)];rw [if_pos hkm]
        have hnn:(rO w.den (AL m) (k+1)).nodes=1+(rO w.den (AL m) k).nodes+(w.den).nodes:=by rw [hnx];rfl
        have p1:=Bk (rO w.den (AL m) k);have hout:decide (((ns.length+ms.length - 1:Nat):Int)<0)=false:=decide_eq_false (by omega)
        try rw [hout]
        refine Ad.mk (Fl (op:=2) (x:=((ns.length+ms.length - 1:Nat):Int)) (y:=(((ns++ms).length+ms2.length - 1:Nat):Int)) st2 (by unfold AH;omega) (BG (by omega)) (BG (by simp;omega)) (by simp;omega)) ?_;rintro _ G2 ⟨rfl,a3,c3,st3⟩;(conv=>whnf);rw [w64 (x:=(k:Int)+1) (by omega) (by omega)];obtain⟨ms3,a4,c4,g1,gs,g2,g3,g4⟩:=EV (R:=rO w.den (AL m) (k+1)) hm1 hs1 hm2 hs2 (fun h=>by rw [hnx]at h;simp only [ReM.plain,Ab8]at h;exact⟨h.1,h.2,by decide,by decide⟩) hnn (fun ns' d j k' h1 h2 h3 h4=>by rw [hnx];exact⟨d,j,k',h1,by rw [h2];rfl,by rw [h2];rfl,by rw [h2];rfl,h3,h4⟩) ht1 ht2 st3;have g2':((ns++ms++ms2).length:Int)=((ns.length+ms3.length - 1:Nat):Int):=by injection g2
        refine⟨rfl,(k+1,((ns++ms++ms2).length:Int)),rfl,⟨by omega,⟨ms3,a4,c4,fun h=>absurd h (by omega),fun _=>⟨g1,gs,g2',g3⟩,g4⟩⟩,by show K - (k+1)<K - k;omega⟩
      ·have d1:decide ((k:Int)<((AL m:Nat):Int))=false:=decide_eq_false (by omega);rw [if_neg hkm]at hpart;rw [d1];refine VC.fa CP ?_;refine ld1 (v:=.int .i64 (i:Int)) ct3 (by rw [(sg.blk _ (lgR (_::_::rest) _ 0)).cell,AaT];exact IM _) trivial ?_;refine Ad.mk (MK IH hR hd hB hw (by simp only [Bj,ReM.nodes]at hpart;omega) sg) ?_;rintro _ G1 ⟨ms2,a2,c2,hm2,hs2,rfl,ht2,st2⟩;have p2:=Bk (Bj w.den);(conv=>whnf);try (refine Av.run ?_)
       (conv=>whnf);by_cases hk0:k=0
       ·obtain⟨rfl,rfl⟩:=hz0 hk0;subst hk0;(conv=>whnf);rw [w64 (x:=((0:Nat):Int)+1) (by omega) (by omega)];have e1:rO w.den (AL m) 1=Bj w.den:=by rw [KE];exact if_neg hkm
        refine⟨rfl,(1,_),rfl,⟨by omega,⟨ms2,a2,c2,fun h=>absurd h (by decide),fun _=>?_,by simpa using st2⟩⟩,by show K - 1<K - 0;omega⟩;rw [e1];simp only [Ac4]at ht2;exact⟨hm2,hs2,by simp,ht2⟩
       ·obtain⟨hm1,hs1,rfl,ht1⟩:=hz1 (by omega);have hnx:rO w.den (AL m) (k+1)= .cat (rO w.den (AL m) k) (Bj w.den):=by rw [Hp _ _ _ (by omega)];rw [if_neg hkm]
        have hnn:(rO w.den (AL m) (k+1)).nodes=1+(rO w.den (AL m) k).nodes+(Bj w.den).nodes:=by rw [hnx];rfl
        have p1:=Bk (rO w.den (AL m) k);have hout:decide (((ns.length+ms.length - 1:Nat):Int)<0)=false:=decide_eq_false (by omega)
        try rw [hout]
        refine Ad.mk (Fl (op:=2) (x:=((ns.length+ms.length - 1:Nat):Int)) (y:=(((ns++ms).length+ms2.length - 1:Nat):Int)) st2 (by unfold AH;omega) (BG (by omega)) (BG (by simp;omega)) (by simp;omega)) ?_;rintro _ G2 ⟨rfl,a3,c3,st3⟩;(conv=>whnf);rw [w64 (x:=(k:Int)+1) (by omega) (by omega)];obtain⟨ms3,a4,c4,g1,gs,g2,g3,g4⟩:=EV (R:=rO w.den (AL m) (k+1)) hm1 hs1 hm2 hs2 (fun h=>by rw [hnx]at h;simp only [ReM.plain,Ab8]at h;exact⟨h.1,h.2,by decide,by decide⟩) hnn (fun ns' d j k' h1 h2 h3 h4=>by rw [hnx];exact⟨d,j,k',h1,by rw [h2];rfl,by rw [h2];rfl,by rw [h2];rfl,h3,h4⟩) ht1 ht2 st3;have g2':((ns++ms++ms2).length:Int)=((ns.length+ms3.length - 1:Nat):Int):=by injection g2
        refine⟨rfl,(k+1,((ns++ms++ms2).length:Int)),rfl,⟨by omega,⟨ms3,a4,c4,fun h=>absurd h (by omega),fun _=>⟨g1,gs,g2',g3⟩,g4⟩⟩,by show K - (k+1)<K - k;omega⟩
     ·obtain rfl:k=K:=by omega
      obtain⟨hm1,hs1,rfl,ht1⟩:=hz1 (by omega);have p1:=Bk (rO w.den (AL m) k);(conv=>whnf);try (refine Av.run ?_)
      refine VC.fa Gi ?_;refine ld1 (v:=.int .i64 n) ct3 (by rw [(sg.blk _ (lgR (_::_::rest) _ 0)).cell,AaT];exact QR _) trivial ?_;(conv=>whnf);by_cases h1:n<0
      ·have d1:decide (n<0)=true:=decide_eq_true h1;rw [if_pos h1]at hK;have hrep:Ca w.den (AL m) n= .cat (rO w.den (AL m) k) (.star w.den):=by unfold Ca;rw [if_pos h1,if_neg (by omega),hK];rfl
       rw [hrep]at hl ⊢;simp only [ReM.nodes]at hl;rw [d1];refine VC.fa CP ?_;refine ld1 (v:=.int .i64 (i:Int)) ct3 (by rw [(sg.blk _ (lgR (_::_::rest) _ 0)).cell,AaT];exact IM _) trivial ?_;refine Ad.mk (IH B H0 _ bb _ _ (ns++ms) AR (rest++[pB 159 x (rnL (BQ (i:Int) m n))]) na nc i ds ws hR hd hB hw (by simp only [AaS];omega) sg) ?_;rintro _ G6 ⟨ms1,a6,c6,hm6,hs6,rfl,ht6,sg6⟩;refine Ad.mk (Fl (op:=4) (x:=(((ns++ms).length+ms1.length - 1:Nat):Int)) (y:=0) sg6 (by unfold AH;omega) (BG (by simp only [AaS];omega)) (by unfold AH;omega) (by simp only [AaS];omega)) ?_;rintro _ G7 ⟨rfl,a7,c7,sg7⟩;obtain⟨ms2,a8,c8,g1,gs,g2,g3,g4⟩:=M4 hm6 hs6 ht6 sg7;have g2':((ns++ms++ms1).length:Int)=(((ns++ms).length+ms2.length - 1:Nat):Int):=by injection g2
       rw [g2'];simp only [ReM.nodes]at g1;refine Ad.mk (Fl (op:=2) (x:=((ns.length+ms.length - 1:Nat):Int)) (y:=(((ns++ms).length+ms2.length - 1:Nat):Int)) g4 (by unfold AH;omega) (BG (by omega)) (BG (by simp only [AaS];omega)) (by simp only [AaS];omega)) ?_;rintro _ G8 ⟨rfl,a9,c9,sg9⟩;(conv=>whnf);exact(EV (R:=.cat (rO w.den (AL m) k) (.star w.den)) hm1 hs1 (r2:=.star w.den) (by simp only [ReM.nodes];exact g1) gs (fun h=>by simp only [ReM.plain,Ab8]at h ⊢;exact⟨h.1,h.2,by decide,by decide⟩) rfl (fun ns' d j k' h1 h2 h3 h4=>⟨d,j,k',h1,by rw [h2];rfl,by rw [h2];rfl,by rw [h2];rfl,h3,h4⟩) ht1 g3 sg9).drop
      ·have d1:decide (n<0)=false:=decide_eq_false h1;rw [if_neg h1]at hK;have hrep:Ca w.den (AL m) n=rO w.den (AL m) k:=by unfold Ca;rw [if_neg h1,if_neg hn0,hK];rfl
       rw [hrep];rw [d1];(conv=>whnf);exact GrP.drop ⟨ms,a1,c1,hm1,hs1,rfl,ht1,sg⟩
 ·have d1:decide (n<0)=false:=decide_eq_false h1;rw [d1];have hns:¬(n<0∧AL m=0):=fun h=>h1 h.1;clear d1;refine VC.fa Gi ?_;refine ld1 (v:=.int .i64 n) ct3 (by rw [(sg.blk _ (lgR (_::_::rest) _ 0)).cell,AaT];exact QR _) trivial ?_;(conv=>whnf);by_cases h0:n=0
  ·have d1:(n==0)=true:=by rw [h0];rfl
   have hrep:Ca w.den (AL m) n= .eps:=by unfold Ca;rw [if_neg (by omega),if_pos h0]
   rw [hrep]at hl ⊢;simp only [ReM.nodes]at hl;rw [d1];refine Ad.mk (Fl (op:=0) (x:=0) (y:=0) sg (by unfold AH;omega) (by unfold AH;omega) (by unfold AH;omega) (by omega)) ?_;rintro _ G3 ⟨rfl,a2,c2,sg3⟩;(conv=>whnf);exact(Ts sg3).drop
  ·have d1:(n==0)=false:=beq_eq_false_iff_ne.2 h0;rw [d1];have hn0:n≠0:=h0;have sg3:=sg;clear sg;obtain⟨K,hK⟩:∃K:Nat,K=if n<0 then AL m else n.toNat:=⟨_,rfl⟩
   have hK1:1≤K:=by rw [hK];split<;>omega
   have hKb:K≤255:=by rw [hK];split<;>omega
   have hKO:(rO w.den (AL m) K).nodes≤(Ca w.den (AL m) n).nodes:=by
    unfold Ca;by_cases h1:n<0
    ·rw [if_pos h1,if_neg (by omega),hK,if_pos h1];show _≤1+((BS w.den (AL m) (AL m)).getD .eps).nodes+_;unfold rO;omega
    ·rw [if_neg h1,if_neg hn0,hK,if_neg h1];exact AaU _
   refine VC.fa Gi ?_;refine ld1 (v:=.int .i64 n) ct3 (by rw [(sg3.blk _ (lgR (_::_::rest) _ 0)).cell,AaT];exact QR _) trivial ?_;(conv=>whnf);refine Av.cut [8] (fun _:Unit=>[.int .i64 (K:Int)]) (fun _ G=>StB B H0 G (reP bb a c ns AR (rest++[pB 159 x (rnL (BQ (i:Int) m n))]))) ?_ ?_
   ·(conv=>whnf);by_cases h1:n<0
    ·have d1:decide (n<0)=true:=decide_eq_true h1;rw [d1];(conv=>whnf);exact⟨rfl,(),by rw [hK,if_pos h1],sg3⟩
    ·have d1:decide (n<0)=false:=decide_eq_false h1;rw [d1];(conv=>whnf);exact⟨rfl,(),by rw [hK,if_neg h1,AcS (by omega)],sg3⟩
   rintro⟨⟩ G4 junk4 sg4;clear sg3;(conv=>whnf);refine AK.mk [9,10] (fun y:Nat×Int=>match y with | (k,out)=>[.int .i64 out,.int .i64 (k:Int)]) (fun y G=>match y with | (k,out)=>k≤K∧UnI B H0 bb AR (rest++[pB 159 x (rnL (BQ (i:Int) m n))]) ns w.den (AL m) k out G) (fun y _=>match y with | (k,_)=>K - k) ?_ ?_
   ·(conv=>whnf);exact⟨(0,-1),rfl,AcF _,⟨[],_,_,fun _=>⟨rfl,rfl⟩,fun h=>absurd h (by decide),by simpa using sg4⟩⟩
   ·rintro⟨k,out⟩ G junk5 ⟨hk,⟨ms,a1,c1,hz0,hz1,sg⟩⟩;clear sg4;have hnext:k<K→(rO w.den (AL m) (k+1)).nodes≤(Ca w.den (AL m) n).nodes:=fun h=>by
     have:=P6 w.den (AL m) (k:=k+1) (by omega) (K - (k+1));rw [show k+1+(K - (k+1))=K by omega]at this;omega
    have hpart:k<K→(ns++ms).length+(if k<AL m then w.den else Bj w.den).nodes≤4194304:=fun h=>by
     have h1:=hnext h;by_cases hk0:k=0
     ·obtain⟨rfl,-⟩:=hz0 hk0;subst hk0;rw [KE]at h1;simp only [Ac4];omega
     ·obtain⟨hm1,-,-,-⟩:=hz1 (by omega);rw [Hp _ _ _ (by omega)]at h1;simp only [ReM.nodes]at h1;simp only [AaS];omega
    refine AN.mk (fun hz=>?_) (fun hz=>?_)<;>simp only [decide_eq_true_eq,decide_eq_false_iff_not]at hz
    ·have hkK:k<K:=by omega
     replace hnext:=hnext hkK;replace hpart:=hpart hkK;(conv=>whnf);try (refine Av.run ?_)
     (conv=>whnf);try (refine Av.run ?_)
     (conv=>whnf);by_cases hkm:k<AL m
     ·have d1:decide ((k:Int)<((AL m:Nat):Int))=true:=decide_eq_true (by omega);rw [if_pos hkm]at hpart;rw [d1];refine VC.fa CP ?_;refine ld1 (v:=.int .i64 (i:Int)) ct3 (by rw [(sg.blk _ (lgR (_::_::rest) _ 0)).cell,AaT];exact IM _) trivial ?_;refine Ad.mk (IH B H0 _ bb _ _ (ns++ms) AR (rest++[pB 159 x (rnL (BQ (i:Int) m n))]) na nc i ds ws hR hd hB hw (by omega) sg) ?_;rintro _ G1 ⟨ms2,a2,c2,hm2,hs2,rfl,ht2,st2⟩;have p2:=Bk (w.den);(conv=>whnf);try (refine Av.run ?_)
      (conv=>whnf);by_cases hk0:k=0
      ·obtain⟨rfl,rfl⟩:=hz0 hk0;subst hk0;(conv=>whnf);rw [w64 (x:=((0:Nat):Int)+1) (by omega) (by omega)];have e1:rO w.den (AL m) 1=w.den:=by rw [KE];exact if_pos hkm
       refine⟨rfl,(1,_),rfl,⟨by omega,⟨ms2,a2,c2,fun h=>absurd h (by decide),fun _=>?_,by simpa using st2⟩⟩,by show K - 1<K - 0;omega⟩;rw [e1];simp only [Ac4]at ht2;exact⟨hm2,hs2,by simp,ht2⟩
      ·obtain⟨hm1,hs1,rfl,ht1⟩:=hz1 (by omega);have hnx:rO w.den (AL m) (k+1)= .cat (rO w.den (AL m) k) (w.den):=by rw [Hp _ _ _ (by omega)];rw [if_pos hkm]
       have hnn:(rO w.den (AL m) (k+1)).nodes=1+(rO w.den (AL m) k).nodes+(w.den).nodes:=by rw [hnx];rfl
       have p1:=Bk (rO w.den (AL m) k);have hout:decide (((ns.length+ms.length - 1:Nat):Int)<0)=false:=decide_eq_false (by omega)
       try rw [hout]
       refine Ad.mk (Fl (op:=2) (x:=((ns.length+ms.length - 1:Nat):Int)) (y:=(((ns++ms).length+ms2.length - 1:Nat):Int)) st2 (by unfold AH;omega) (BG (by omega)) (BG (by simp;omega)) (by simp;omega)) ?_;rintro _ G2 ⟨rfl,a3,c3,st3⟩;(conv=>whnf);rw [w64 (x:=(k:Int)+1) (by omega) (by omega)];obtain⟨ms3,a4,c4,g1,gs,g2,g3,g4⟩:=EV (R:=rO w.den (AL m) (k+1)) hm1 hs1 hm2 hs2 (fun h=>by rw [hnx]at h;simp only [ReM.plain,Ab8]at h;exact⟨h.1,h.2,by decide,by decide⟩) hnn (fun ns' d j k' h1 h2 h3 h4=>by rw [hnx];exact⟨d,j,k',h1,by rw [h2];rfl,by rw [h2];rfl,by rw [h2];rfl,h3,h4⟩) ht1 ht2 st3;have g2':((ns++ms++ms2).length:Int)=((ns.length+ms3.length - 1:Nat):Int):=by injection g2
       refine⟨rfl,(k+1,((ns++ms++ms2).length:Int)),rfl,⟨by omega,⟨ms3,a4,c4,fun h=>absurd h (by omega),fun _=>⟨g1,gs,g2',g3⟩,g4⟩⟩,by show K - (k+1)<K - k;omega⟩
     ·have d1:decide ((k:Int)<((AL m:Nat):Int))=false:=decide_eq_false (by omega);rw [if_neg hkm]at hpart;rw [d1];refine VC.fa CP ?_;refine ld1 (v:=.int .i64 (i:Int)) ct3 (by rw [(sg.blk _ (lgR (_::_::rest) _ 0)).cell,AaT];exact IM _) trivial ?_;refine Ad.mk (MK IH hR hd hB hw (by simp only [Bj,ReM.nodes]at hpart;omega) sg) ?_;rintro _ G1 ⟨ms2,a2,c2,hm2,hs2,rfl,ht2,st2⟩;have p2:=Bk (Bj w.den);(conv=>whnf);try (refine Av.run ?_)
      (conv=>whnf);by_cases hk0:k=0
      ·obtain⟨rfl,rfl⟩:=hz0 hk0;subst hk0;(conv=>whnf);rw [w64 (x:=((0:Nat):Int)+1) (by omega) (by omega)];have e1:rO w.den (AL m) 1=Bj w.den:=by rw [KE];exact if_neg hkm
       refine⟨rfl,(1,_),rfl,⟨by omega,⟨ms2,a2,c2,fun h=>absurd h (by decide),fun _=>?_,by simpa using st2⟩⟩,by show K - 1<K - 0;omega⟩;rw [e1];simp only [Ac4]at ht2;exact⟨hm2,hs2,by simp,ht2⟩
      ·obtain⟨hm1,hs1,rfl,ht1⟩:=hz1 (by omega);have hnx:rO w.den (AL m) (k+1)= .cat (rO w.den (AL m) k) (Bj w.den):=by rw [Hp _ _ _ (by omega)];rw [if_neg hkm]
       have hnn:(rO w.den (AL m) (k+1)).nodes=1+(rO w.den (AL m) k).nodes+(Bj w.den).nodes:=by rw [hnx];rfl
       have p1:=Bk (rO w.den (AL m) k);have hout:decide (((ns.length+ms.length - 1:Nat):Int)<0)=false:=decide_eq_false (by omega)
       try rw [hout]
       refine Ad.mk (Fl (op:=2) (x:=((ns.length+ms.length - 1:Nat):Int)) (y:=(((ns++ms).length+ms2.length - 1:Nat):Int)) st2 (by unfold AH;omega) (BG (by omega)) (BG (by simp;omega)) (by simp;omega)) ?_;rintro _ G2 ⟨rfl,a3,c3,st3⟩;(conv=>whnf);rw [w64 (x:=(k:Int)+1) (by omega) (by omega)];obtain⟨ms3,a4,c4,g1,gs,g2,g3,g4⟩:=EV (R:=rO w.den (AL m) (k+1)) hm1 hs1 hm2 hs2 (fun h=>by rw [hnx]at h;simp only [ReM.plain,Ab8]at h;exact⟨h.1,h.2,by decide,by decide⟩) hnn (fun ns' d j k' h1 h2 h3 h4=>by rw [hnx];exact⟨d,j,k',h1,by rw [h2];rfl,by rw [h2];rfl,by rw [h2];rfl,h3,h4⟩) ht1 ht2 st3;have g2':((ns++ms++ms2).length:Int)=((ns.length+ms3.length - 1:Nat):Int):=by injection g2
       refine⟨rfl,(k+1,((ns++ms++ms2).length:Int)),rfl,⟨by omega,⟨ms3,a4,c4,fun h=>absurd h (by omega),fun _=>⟨g1,gs,g2',g3⟩,g4⟩⟩,by show K - (k+1)<K - k;omega⟩
    ·obtain rfl:k=K:=by omega
     obtain⟨hm1,hs1,rfl,ht1⟩:=hz1 (by omega);have p1:=Bk (rO w.den (AL m) k);(conv=>whnf);try (refine Av.run ?_)
     refine VC.fa Gi ?_;refine ld1 (v:=.int .i64 n) ct3 (by rw [(sg.blk _ (lgR (_::_::rest) _ 0)).cell,AaT];exact QR _) trivial ?_;(conv=>whnf);by_cases h1:n<0
     ·have d1:decide (n<0)=true:=decide_eq_true h1;rw [if_pos h1]at hK;have hrep:Ca w.den (AL m) n= .cat (rO w.den (AL m) k) (.star w.den):=by unfold Ca;rw [if_pos h1,if_neg (by omega),hK];rfl
      rw [hrep]at hl ⊢;simp only [ReM.nodes]at hl;rw [d1];refine VC.fa CP ?_;refine ld1 (v:=.int .i64 (i:Int)) ct3 (by rw [(sg.blk _ (lgR (_::_::rest) _ 0)).cell,AaT];exact IM _) trivial ?_;refine Ad.mk (IH B H0 _ bb _ _ (ns++ms) AR (rest++[pB 159 x (rnL (BQ (i:Int) m n))]) na nc i ds ws hR hd hB hw (by simp only [AaS];omega) sg) ?_;rintro _ G6 ⟨ms1,a6,c6,hm6,hs6,rfl,ht6,sg6⟩;refine Ad.mk (Fl (op:=4) (x:=(((ns++ms).length+ms1.length - 1:Nat):Int)) (y:=0) sg6 (by unfold AH;omega) (BG (by simp only [AaS];omega)) (by unfold AH;omega) (by simp only [AaS];omega)) ?_;rintro _ G7 ⟨rfl,a7,c7,sg7⟩;obtain⟨ms2,a8,c8,g1,gs,g2,g3,g4⟩:=M4 hm6 hs6 ht6 sg7;have g2':((ns++ms++ms1).length:Int)=(((ns++ms).length+ms2.length - 1:Nat):Int):=by injection g2
      rw [g2'];simp only [ReM.nodes]at g1;refine Ad.mk (Fl (op:=2) (x:=((ns.length+ms.length - 1:Nat):Int)) (y:=(((ns++ms).length+ms2.length - 1:Nat):Int)) g4 (by unfold AH;omega) (BG (by omega)) (BG (by simp only [AaS];omega)) (by simp only [AaS];omega)) ?_;rintro _ G8 ⟨rfl,a9,c9,sg9⟩;(conv=>whnf);exact(EV (R:=.cat (rO w.den (AL m) k) (.star w.den)) hm1 hs1 (r2:=.star w.den) (by simp only [ReM.nodes];exact g1) gs (fun h=>by simp only [ReM.plain,Ab8]at h ⊢;exact⟨h.1,h.2,by decide,by decide⟩) rfl (fun ns' d j k' h1 h2 h3 h4=>⟨d,j,k',h1,by rw [h2];rfl,by rw [h2];rfl,by rw [h2];rfl,h3,h4⟩) ht1 g3 sg9).drop
     ·have d1:decide (n<0)=false:=decide_eq_false h1;rw [if_neg h1]at hK;have hrep:Ca w.den (AL m) n=rO w.den (AL m) k:=by unfold Ca;rw [if_neg h1,if_neg hn0,hK];rfl
      rw [hrep];rw [d1];(conv=>whnf);exact GrP.drop ⟨ms,a1,c1,hm1,hs1,rfl,ht1,sg⟩
end
theorem Qw{B:Nat→Prop}{H0 G:Aa}{bb:Nat}{AR:Int}{rest:List Pc}{ns:List RnM}{d:RnM}{r:ReM}{a':Option Addr}{c':Nat}(h1:r.nodes=1)(hop:d.op≠5∧d.op≠6)(hT:∀ns' k,ns'[k]? =some d→Cv ns' r k)(st:StB B H0 G (reP bb a' c' (ns++[d]) AR rest)):
  GrP B H0 bb AR rest ns r (.int .i64 (ns.length:Int)) G:=
 ⟨[d],a',c',h1.symm,fun _ x hx=>by rcases Ac3.1 hx with rfl;exact hop,by simp,hT _ _ (by simp),st⟩
theorem ZH:∀w:RwM,Rx w:=fun w=>by
 induction w with
 | eps=>
   intro B H0 H bb c a ns AR rest na nc i ds ws hR hd hB hw hl st;obtain⟨d,hdd,hnr⟩:=hR.at2 hw;refine Al.of_vc Tryz.func83 rfl (Tryz.call83 _) ?_;obtain rfl:d=A7 0 0 0:=hnr;refine ixr (i:=i) Fm (hd.frame (st.old.mono fun k hk=>hk)) hdd rfl ?_;rintro b2 o2 c2 hS2 hc2 ⟨rfl,hok⟩;refine ldN (cs:=rnL (A7 0 0 0)) (by rw [AQ];exact KT) hc2 trivial ?_;refine An _ rnZ N0 rfl ?_;intro x H3 hx hs3 hb3 ha3;have st3:=st.box hx hs3 hb3 ha3;refine AI (cs:=rnL (A7 0 0 0)) st3 _ (by rw [AQ];rfl) (lgR (_::_::rest) _ 0) (by rw [AQ,CD];decide) (CQ _) fun H4 st4=>?_;rw [Ax (show(rnL (A7 0 0 0)).length=rnZ.length by rw [AQ,CD])]at st4;replace st4:StB B H0 H4 (reP bb a c ns AR (rest++[pB 159 x (rnL (A7 0 0 0))])):=by
    have e:=lsR (pB tRe bb (reL (.slice a ns.length c) AR)::pS tRn 159 a ns.length c ns::rest) [pB 159 x rnZ] 0 (pB 159 x (rnL (A7 0 0 0)));rw [e]at st4;exact st4
   have hx4:Blk H4 x 159 (rnL (A7 0 0 0)):=st4.blk _ (lgR (_::_::rest) _ 0);refine VC.fa Cd ?_;refine ld1 (v:=.int .i64 (A7 0 0 0).op) ct3 (by rw [hx4.cell];exact DV _) trivial ?_;(conv=>whnf);try (refine Av.run ?_)
   (conv=>whnf);try (refine Av.run ?_)
   have bl:=(st4.blk 0 rfl).lt;have f1:bb≠x:=fun e=>st4.apart2 (i:=0) (j:=(pB tRe bb (reL (.slice a ns.length c) AR)::pS tRn 159 a ns.length c ns::rest).length+0) rfl (lgR (_::_::rest) _ 0) (by simp) bb rfl e;refine Ar.heldZ (fun k=>k=bb∨k=x) [14] (sq [0,1,2,3,4,5,6,7,8,9] (.f 10 (.f 11 (sq [12,13] (.f 14 .e))))) rfl (by kernel_rfl) (VC.fa He ?_);refine ld1 (v:=.slice a ns.length c) Ev (by rw [(st4.blk 0 rfl).cell];rfl) (.inl rfl) ?_;refine VC.fa Cd ?_;refine ld1 (v:=.int .i64 (A7 0 0 0).op) ct3 (by rw [hx4.cell];exact DV _) (.inr rfl) ?_;refine VC.fa Tf ?_;refine ldN (cs:=A0 (0#256)) (by rw [Aq];exact Vl) (hx4.cells (o:=0+1) fun j v hv=>W4 (A7 0 0 0) j v hv) (.inr rfl) ?_;refine KH 0 (0#256) (AG Fm (rnL (A7 0 0 0)) rfl (AQ _) (by decide) (by decide) ?_);intro z H5 hz hs5 hb5 ha5;have st5:=st4.skip hz ha5;have hx5:Blk H5 x 159 (rnL (A7 0 0 0)):=st5.blk _ (lgR (_::_::rest) _ 0);refine⟨fun k hk=>by
    rcases hk with hk | hk
    ·rw [show k=bb from hk];exact(st5.blk 0 rfl).trans (st4.blk 0 rfl).symm
    ·rw [show k=x from hk];exact hx5.trans hx4.symm,?_⟩
   refine Ml (ys:=[A7 0 0 0]) st5 1 Fm rfl (hb5.cells (o:=0) (cs:=rnL (A7 0 0 0)) fun j v hv=>by rw [AaT];exact hv) (Ty.reps_one ⟨rfl,hok⟩) rfl (fun u hu=>AcM.1 (CQ _) u hu) (by simp [RwM.den,ReM.nodes]at hl ⊢;omega) (by decide) fun a9 c9 H9 st9 ha9=>?_;have el:ns.length+[A7 0 0 0].length=(ns++[A7 0 0 0]).length:=by simp
   rw [el]at st9 ⊢;have hx9:Blk H9 x 159 (rnL (A7 0 0 0)):=st9.blk _ (lgR (_::_::rest) _ 0);refine⟨fun k hk=>by
    rcases hk with hk | hk
    ·rw [show k=bb from hk];exact(st9.blk 0 rfl).trans (st4.blk 0 rfl).symm
    ·rw [show k=x from hk];exact hx9.trans hx4.symm,?_⟩
   refine VC.fa He (AZ st9 0 Ev rfl (show 0<2 by decide) rfl fun H10 st10=>(VC.fa He ?_));refine ld1 (v:=.slice a9 (ns++[A7 0 0 0]).length c9) Ev (by rw [(st10.blk 0 rfl).cell];rfl) trivial ?_;have w1:IntKind.wrap .i64 (((ns++[A7 0 0 0]).length:Int) - 1)=(ns.length:Int):=by
    simp only [RwM.den,ReM.nodes]at hl;rw [AaS,AbD,w64 (by omega) (by omega)];omega
   (conv=>whnf);rw [w1];(conv=>whnf);replace st10:StB B H0 H10 (reP bb a9 c9 (ns++[A7 0 0 0]) AR (rest++[pB 159 x (rnL (A7 0 0 0))])):=st10;exact(Qw (r:=.eps) rfl ⟨show(0:Int)≠5 by decide,show(0:Int)≠6 by decide⟩ (fun ns' k h=>⟨_,h,rfl⟩) st10).drop
 | cls s=>
   intro B H0 H bb c a ns AR rest na nc i ds ws hR hd hB hw hl st;obtain⟨d,hdd,hnr⟩:=hR.at2 hw;refine Al.of_vc Tryz.func83 rfl (Tryz.call83 _) ?_;obtain rfl:d=DB s:=hnr;refine ixr (i:=i) Fm (hd.frame (st.old.mono fun k hk=>hk)) hdd rfl ?_;rintro b2 o2 c2 hS2 hc2 ⟨rfl,hok⟩;refine ldN (cs:=rnL (DB s)) (by rw [AQ];exact KT) hc2 trivial ?_;refine An _ rnZ N0 rfl ?_;intro x H3 hx hs3 hb3 ha3;have st3:=st.box hx hs3 hb3 ha3;refine AI (cs:=rnL (DB s)) st3 _ (by rw [AQ];rfl) (lgR (_::_::rest) _ 0) (by rw [AQ,CD];decide) (CQ _) fun H4 st4=>?_;rw [Ax (show(rnL (DB s)).length=rnZ.length by rw [AQ,CD])]at st4;replace st4:StB B H0 H4 (reP bb a c ns AR (rest++[pB 159 x (rnL (DB s))])):=by
    have e:=lsR (pB tRe bb (reL (.slice a ns.length c) AR)::pS tRn 159 a ns.length c ns::rest) [pB 159 x rnZ] 0 (pB 159 x (rnL (DB s)));rw [e]at st4;exact st4
   have hx4:Blk H4 x 159 (rnL (DB s)):=st4.blk _ (lgR (_::_::rest) _ 0);refine VC.fa Cd ?_;refine ld1 (v:=.int .i64 (DB s).op) ct3 (by rw [hx4.cell];exact DV _) trivial ?_;(conv=>whnf);try (refine Av.run ?_)
   (conv=>whnf);try (refine Av.run ?_)
   have bl:=(st4.blk 0 rfl).lt;have f1:bb≠x:=fun e=>st4.apart2 (i:=0) (j:=(pB tRe bb (reL (.slice a ns.length c) AR)::pS tRn 159 a ns.length c ns::rest).length+0) rfl (lgR (_::_::rest) _ 0) (by simp) bb rfl e;refine Ar.heldZ (fun k=>k=bb∨k=x) [14] (sq [0,1,2,3,4,5,6,7,8,9] (.f 10 (.f 11 (sq [12,13] (.f 14 .e))))) rfl (by kernel_rfl) (VC.fa He ?_);refine ld1 (v:=.slice a ns.length c) Ev (by rw [(st4.blk 0 rfl).cell];rfl) (.inl rfl) ?_;refine VC.fa Cd ?_;refine ld1 (v:=.int .i64 (DB s).op) ct3 (by rw [hx4.cell];exact DV _) (.inr rfl) ?_;refine VC.fa Tf ?_;refine ldN (cs:=A0 (s)) (by rw [Aq];exact Vl) (hx4.cells (o:=0+1) fun j v hv=>W4 (DB s) j v hv) (.inr rfl) ?_;refine KH 1 (s) (AG Fm (rnL (DB s)) rfl (AQ _) (by decide) (by decide) ?_);intro z H5 hz hs5 hb5 ha5;have st5:=st4.skip hz ha5;have hx5:Blk H5 x 159 (rnL (DB s)):=st5.blk _ (lgR (_::_::rest) _ 0);refine⟨fun k hk=>by
    rcases hk with hk | hk
    ·rw [show k=bb from hk];exact(st5.blk 0 rfl).trans (st4.blk 0 rfl).symm
    ·rw [show k=x from hk];exact hx5.trans hx4.symm,?_⟩
   refine Ml (ys:=[DB s]) st5 1 Fm rfl (hb5.cells (o:=0) (cs:=rnL (DB s)) fun j v hv=>by rw [AaT];exact hv) (Ty.reps_one ⟨rfl,hok⟩) rfl (fun u hu=>AcM.1 (CQ _) u hu) (by simp [RwM.den,ReM.nodes]at hl ⊢;omega) (by decide) fun a9 c9 H9 st9 ha9=>?_;have el:ns.length+[DB s].length=(ns++[DB s]).length:=by simp
   rw [el]at st9 ⊢;have hx9:Blk H9 x 159 (rnL (DB s)):=st9.blk _ (lgR (_::_::rest) _ 0);refine⟨fun k hk=>by
    rcases hk with hk | hk
    ·rw [show k=bb from hk];exact(st9.blk 0 rfl).trans (st4.blk 0 rfl).symm
    ·rw [show k=x from hk];exact hx9.trans hx4.symm,?_⟩
   refine VC.fa He (AZ st9 0 Ev rfl (show 0<2 by decide) rfl fun H10 st10=>(VC.fa He ?_));refine ld1 (v:=.slice a9 (ns++[DB s]).length c9) Ev (by rw [(st10.blk 0 rfl).cell];rfl) trivial ?_;have w1:IntKind.wrap .i64 (((ns++[DB s]).length:Int) - 1)=(ns.length:Int):=by
    simp only [RwM.den,ReM.nodes]at hl;rw [AaS,AbD,w64 (by omega) (by omega)];omega
   (conv=>whnf);rw [w1];(conv=>whnf);replace st10:StB B H0 H10 (reP bb a9 c9 (ns++[DB s]) AR (rest++[pB 159 x (rnL (DB s))])):=st10;exact(Qw (r:=.cls s) rfl ⟨show(1:Int)≠5 by decide,show(1:Int)≠6 by decide⟩ (fun ns' k h=>⟨_,h,rfl,rfl⟩) st10).drop
 | cat w1 w2 ih1 ih2=>
   intro B H0 H bb c a ns AR rest na nc i ds ws hR hd hB hw hl st;obtain⟨d,hdd,hnr⟩:=hR.at2 hw;refine Al.of_vc Tryz.func83 rfl (Tryz.call83 _) ?_;obtain⟨i1,i2,rfl,hi1,hi2⟩:=hnr;simp only [RwM.den,ReM.nodes]at hl;refine ixr (i:=i) Fm (hd.frame (st.old.mono fun k hk=>hk)) hdd rfl ?_;rintro b2 o2 c2 hS2 hc2 ⟨rfl,hok⟩;refine ldN (cs:=rnL (A7 2 (i1:Int) (i2:Int))) (by rw [AQ];exact KT) hc2 trivial ?_;refine An _ rnZ N0 rfl ?_;intro x H3 hx hs3 hb3 ha3;have st3:=st.box hx hs3 hb3 ha3;refine AI (cs:=rnL (A7 2 (i1:Int) (i2:Int))) st3 _ (by rw [AQ];rfl) (lgR (_::_::rest) _ 0) (by rw [AQ,CD];decide) (CQ _) fun H4 st4=>?_;rw [Ax (show(rnL (A7 2 (i1:Int) (i2:Int))).length=rnZ.length by rw [AQ,CD])]at st4;replace st4:StB B H0 H4 (reP bb a c ns AR (rest++[pB 159 x (rnL (A7 2 (i1:Int) (i2:Int)))])):=by
    have e:=lsR (pB tRe bb (reL (.slice a ns.length c) AR)::pS tRn 159 a ns.length c ns::rest) [pB 159 x rnZ] 0 (pB 159 x (rnL (A7 2 (i1:Int) (i2:Int))));rw [e]at st4;exact st4
   have hx4:Blk H4 x 159 (rnL (A7 2 (i1:Int) (i2:Int))):=st4.blk _ (lgR (_::_::rest) _ 0);refine VC.fa Cd ?_;refine ld1 (v:=.int .i64 (A7 2 (i1:Int) (i2:Int)).op) ct3 (by rw [hx4.cell];exact DV _) trivial ?_;(conv=>whnf);try (refine Av.run ?_)
   (conv=>whnf);try (refine Av.run ?_)
   refine VC.fa CP ?_;refine ld1 (v:=.int .i64 (i1:Int)) ct3 (by rw [(st4.blk _ (lgR (_::_::rest) _ 0)).cell,AaT];exact IM _) trivial ?_;refine Ad.mk (ih1 B H0 _ bb _ _ ns AR (rest++[pB 159 x (rnL (A7 2 (i1:Int) (i2:Int)))]) na nc i1 ds ws hR hd hB hi1 (by omega) st4) ?_;rintro _ G1 ⟨ms1,a1,c1,hm1,hs1,rfl,ht1,sg1⟩;refine VC.fa Gh ?_;refine ld1 (v:=.int .i64 (i2:Int)) ct3 (by rw [(sg1.blk _ (lgR (_::_::rest) _ 0)).cell,AaT];exact QS _) trivial ?_;refine Ad.mk (ih2 B H0 _ bb _ _ (ns++ms1) AR (rest++[pB 159 x (rnL (A7 2 (i1:Int) (i2:Int)))]) na nc i2 ds ws hR hd hB hi2 (by simp only [AaS];omega) sg1) ?_;rintro _ G2 ⟨ms2,a2,c2,hm2,hs2,rfl,ht2,sg2⟩;have p1:=Bk w1.den;have p2:=Bk w2.den;refine VC.fa Cd ?_;refine ld1 (v:=.int .i64 (A7 2 (i1:Int) (i2:Int)).op) ct3 (by rw [(sg2.blk _ (lgR (_::_::rest) _ 0)).cell];exact DV _) trivial ?_;refine Ad.mk (Fl (op:=2) (x:=((ns.length+ms1.length - 1:Nat):Int)) (y:=(((ns++ms1).length+ms2.length - 1:Nat):Int)) sg2 (by unfold AH;omega) (BG (by omega)) (BG (by simp only [AaS];omega)) (by simp only [AaS];omega)) ?_;rintro _ G3 ⟨rfl,a3,c3,sg3⟩;(conv=>whnf);exact(EV (R:=.cat w1.den w2.den) hm1 hs1 hm2 hs2 (fun h=>by simp only [ReM.plain,Ab8]at h;exact⟨h.1,h.2,by decide,by decide⟩) rfl (fun ns' d j k' h1 h2 h3 h4=>⟨d,j,k',h1,by rw [h2];rfl,by rw [h2];rfl,by rw [h2];rfl,h3,h4⟩) ht1 ht2 sg3).drop
 | alt w1 w2 ih1 ih2=>
   intro B H0 H bb c a ns AR rest na nc i ds ws hR hd hB hw hl st;obtain⟨d,hdd,hnr⟩:=hR.at2 hw;refine Al.of_vc Tryz.func83 rfl (Tryz.call83 _) ?_;obtain⟨i1,i2,rfl,hi1,hi2⟩:=hnr;simp only [RwM.den,ReM.nodes]at hl;refine ixr (i:=i) Fm (hd.frame (st.old.mono fun k hk=>hk)) hdd rfl ?_;rintro b2 o2 c2 hS2 hc2 ⟨rfl,hok⟩;refine ldN (cs:=rnL (A7 3 (i1:Int) (i2:Int))) (by rw [AQ];exact KT) hc2 trivial ?_;refine An _ rnZ N0 rfl ?_;intro x H3 hx hs3 hb3 ha3;have st3:=st.box hx hs3 hb3 ha3;refine AI (cs:=rnL (A7 3 (i1:Int) (i2:Int))) st3 _ (by rw [AQ];rfl) (lgR (_::_::rest) _ 0) (by rw [AQ,CD];decide) (CQ _) fun H4 st4=>?_;rw [Ax (show(rnL (A7 3 (i1:Int) (i2:Int))).length=rnZ.length by rw [AQ,CD])]at st4;replace st4:StB B H0 H4 (reP bb a c ns AR (rest++[pB 159 x (rnL (A7 3 (i1:Int) (i2:Int)))])):=by
    have e:=lsR (pB tRe bb (reL (.slice a ns.length c) AR)::pS tRn 159 a ns.length c ns::rest) [pB 159 x rnZ] 0 (pB 159 x (rnL (A7 3 (i1:Int) (i2:Int))));rw [e]at st4;exact st4
   have hx4:Blk H4 x 159 (rnL (A7 3 (i1:Int) (i2:Int))):=st4.blk _ (lgR (_::_::rest) _ 0);refine VC.fa Cd ?_;refine ld1 (v:=.int .i64 (A7 3 (i1:Int) (i2:Int)).op) ct3 (by rw [hx4.cell];exact DV _) trivial ?_;(conv=>whnf);try (refine Av.run ?_)
   (conv=>whnf);try (refine Av.run ?_)
   refine VC.fa CP ?_;refine ld1 (v:=.int .i64 (i1:Int)) ct3 (by rw [(st4.blk _ (lgR (_::_::rest) _ 0)).cell,AaT];exact IM _) trivial ?_;refine Ad.mk (ih1 B H0 _ bb _ _ ns AR (rest++[pB 159 x (rnL (A7 3 (i1:Int) (i2:Int)))]) na nc i1 ds ws hR hd hB hi1 (by omega) st4) ?_;rintro _ G1 ⟨ms1,a1,c1,hm1,hs1,rfl,ht1,sg1⟩;refine VC.fa Gh ?_;refine ld1 (v:=.int .i64 (i2:Int)) ct3 (by rw [(sg1.blk _ (lgR (_::_::rest) _ 0)).cell,AaT];exact QS _) trivial ?_;refine Ad.mk (ih2 B H0 _ bb _ _ (ns++ms1) AR (rest++[pB 159 x (rnL (A7 3 (i1:Int) (i2:Int)))]) na nc i2 ds ws hR hd hB hi2 (by simp only [AaS];omega) sg1) ?_;rintro _ G2 ⟨ms2,a2,c2,hm2,hs2,rfl,ht2,sg2⟩;have p1:=Bk w1.den;have p2:=Bk w2.den;refine VC.fa Cd ?_;refine ld1 (v:=.int .i64 (A7 3 (i1:Int) (i2:Int)).op) ct3 (by rw [(sg2.blk _ (lgR (_::_::rest) _ 0)).cell];exact DV _) trivial ?_;refine Ad.mk (Fl (op:=3) (x:=((ns.length+ms1.length - 1:Nat):Int)) (y:=(((ns++ms1).length+ms2.length - 1:Nat):Int)) sg2 (by unfold AH;omega) (BG (by omega)) (BG (by simp only [AaS];omega)) (by simp only [AaS];omega)) ?_;rintro _ G3 ⟨rfl,a3,c3,sg3⟩;(conv=>whnf);exact(EV (R:=.alt w1.den w2.den) hm1 hs1 hm2 hs2 (fun h=>by simp only [ReM.plain,Ab8]at h;exact⟨h.1,h.2,by decide,by decide⟩) rfl (fun ns' d j k' h1 h2 h3 h4=>⟨d,j,k',h1,by rw [h2];rfl,by rw [h2];rfl,by rw [h2];rfl,h3,h4⟩) ht1 ht2 sg3).drop
 | and_ w1 w2 ih1 ih2=>
   intro B H0 H bb c a ns AR rest na nc i ds ws hR hd hB hw hl st;obtain⟨d,hdd,hnr⟩:=hR.at2 hw;refine Al.of_vc Tryz.func83 rfl (Tryz.call83 _) ?_;obtain⟨i1,i2,rfl,hi1,hi2⟩:=hnr;simp only [RwM.den,ReM.nodes]at hl;refine ixr (i:=i) Fm (hd.frame (st.old.mono fun k hk=>hk)) hdd rfl ?_;rintro b2 o2 c2 hS2 hc2 ⟨rfl,hok⟩;refine ldN (cs:=rnL (A7 5 (i1:Int) (i2:Int))) (by rw [AQ];exact KT) hc2 trivial ?_;refine An _ rnZ N0 rfl ?_;intro x H3 hx hs3 hb3 ha3;have st3:=st.box hx hs3 hb3 ha3;refine AI (cs:=rnL (A7 5 (i1:Int) (i2:Int))) st3 _ (by rw [AQ];rfl) (lgR (_::_::rest) _ 0) (by rw [AQ,CD];decide) (CQ _) fun H4 st4=>?_;rw [Ax (show(rnL (A7 5 (i1:Int) (i2:Int))).length=rnZ.length by rw [AQ,CD])]at st4;replace st4:StB B H0 H4 (reP bb a c ns AR (rest++[pB 159 x (rnL (A7 5 (i1:Int) (i2:Int)))])):=by
    have e:=lsR (pB tRe bb (reL (.slice a ns.length c) AR)::pS tRn 159 a ns.length c ns::rest) [pB 159 x rnZ] 0 (pB 159 x (rnL (A7 5 (i1:Int) (i2:Int))));rw [e]at st4;exact st4
   have hx4:Blk H4 x 159 (rnL (A7 5 (i1:Int) (i2:Int))):=st4.blk _ (lgR (_::_::rest) _ 0);refine VC.fa Cd ?_;refine ld1 (v:=.int .i64 (A7 5 (i1:Int) (i2:Int)).op) ct3 (by rw [hx4.cell];exact DV _) trivial ?_;(conv=>whnf);try (refine Av.run ?_)
   (conv=>whnf);try (refine Av.run ?_)
   refine VC.fa CP ?_;refine ld1 (v:=.int .i64 (i1:Int)) ct3 (by rw [(st4.blk _ (lgR (_::_::rest) _ 0)).cell,AaT];exact IM _) trivial ?_;refine Ad.mk (ih1 B H0 _ bb _ _ ns AR (rest++[pB 159 x (rnL (A7 5 (i1:Int) (i2:Int)))]) na nc i1 ds ws hR hd hB hi1 (by omega) st4) ?_;rintro _ G1 ⟨ms1,a1,c1,hm1,hs1,rfl,ht1,sg1⟩;refine VC.fa Gh ?_;refine ld1 (v:=.int .i64 (i2:Int)) ct3 (by rw [(sg1.blk _ (lgR (_::_::rest) _ 0)).cell,AaT];exact QS _) trivial ?_;refine Ad.mk (ih2 B H0 _ bb _ _ (ns++ms1) AR (rest++[pB 159 x (rnL (A7 5 (i1:Int) (i2:Int)))]) na nc i2 ds ws hR hd hB hi2 (by simp only [AaS];omega) sg1) ?_;rintro _ G2 ⟨ms2,a2,c2,hm2,hs2,rfl,ht2,sg2⟩;have p1:=Bk w1.den;have p2:=Bk w2.den;refine VC.fa Cd ?_;refine ld1 (v:=.int .i64 (A7 5 (i1:Int) (i2:Int)).op) ct3 (by rw [(sg2.blk _ (lgR (_::_::rest) _ 0)).cell];exact DV _) trivial ?_;refine Ad.mk (Fl (op:=5) (x:=((ns.length+ms1.length - 1:Nat):Int)) (y:=(((ns++ms1).length+ms2.length - 1:Nat):Int)) sg2 (by unfold AH;omega) (BG (by omega)) (BG (by simp only [AaS];omega)) (by simp only [AaS];omega)) ?_;rintro _ G3 ⟨rfl,a3,c3,sg3⟩;(conv=>whnf);exact(EV (R:=.and_ w1.den w2.den) hm1 hs1 hm2 hs2 (fun h=>by cases h) rfl (fun ns' d j k' h1 h2 h3 h4=>⟨d,j,k',h1,by rw [h2];rfl,by rw [h2];rfl,by rw [h2];rfl,h3,h4⟩) ht1 ht2 sg3).drop
 | minus w1 w2 ih1 ih2=>
   intro B H0 H bb c a ns AR rest na nc i ds ws hR hd hB hw hl st;obtain⟨d,hdd,hnr⟩:=hR.at2 hw;refine Al.of_vc Tryz.func83 rfl (Tryz.call83 _) ?_;obtain⟨i1,i2,rfl,hi1,hi2⟩:=hnr;simp only [RwM.den,ReM.nodes]at hl;refine ixr (i:=i) Fm (hd.frame (st.old.mono fun k hk=>hk)) hdd rfl ?_;rintro b2 o2 c2 hS2 hc2 ⟨rfl,hok⟩;refine ldN (cs:=rnL (A7 6 (i1:Int) (i2:Int))) (by rw [AQ];exact KT) hc2 trivial ?_;refine An _ rnZ N0 rfl ?_;intro x H3 hx hs3 hb3 ha3;have st3:=st.box hx hs3 hb3 ha3;refine AI (cs:=rnL (A7 6 (i1:Int) (i2:Int))) st3 _ (by rw [AQ];rfl) (lgR (_::_::rest) _ 0) (by rw [AQ,CD];decide) (CQ _) fun H4 st4=>?_;rw [Ax (show(rnL (A7 6 (i1:Int) (i2:Int))).length=rnZ.length by rw [AQ,CD])]at st4;replace st4:StB B H0 H4 (reP bb a c ns AR (rest++[pB 159 x (rnL (A7 6 (i1:Int) (i2:Int)))])):=by
    have e:=lsR (pB tRe bb (reL (.slice a ns.length c) AR)::pS tRn 159 a ns.length c ns::rest) [pB 159 x rnZ] 0 (pB 159 x (rnL (A7 6 (i1:Int) (i2:Int))));rw [e]at st4;exact st4
   have hx4:Blk H4 x 159 (rnL (A7 6 (i1:Int) (i2:Int))):=st4.blk _ (lgR (_::_::rest) _ 0);refine VC.fa Cd ?_;refine ld1 (v:=.int .i64 (A7 6 (i1:Int) (i2:Int)).op) ct3 (by rw [hx4.cell];exact DV _) trivial ?_;(conv=>whnf);try (refine Av.run ?_)
   (conv=>whnf);try (refine Av.run ?_)
   refine VC.fa CP ?_;refine ld1 (v:=.int .i64 (i1:Int)) ct3 (by rw [(st4.blk _ (lgR (_::_::rest) _ 0)).cell,AaT];exact IM _) trivial ?_;refine Ad.mk (ih1 B H0 _ bb _ _ ns AR (rest++[pB 159 x (rnL (A7 6 (i1:Int) (i2:Int)))]) na nc i1 ds ws hR hd hB hi1 (by omega) st4) ?_;rintro _ G1 ⟨ms1,a1,c1,hm1,hs1,rfl,ht1,sg1⟩;refine VC.fa Gh ?_;refine ld1 (v:=.int .i64 (i2:Int)) ct3 (by rw [(sg1.blk _ (lgR (_::_::rest) _ 0)).cell,AaT];exact QS _) trivial ?_;refine Ad.mk (ih2 B H0 _ bb _ _ (ns++ms1) AR (rest++[pB 159 x (rnL (A7 6 (i1:Int) (i2:Int)))]) na nc i2 ds ws hR hd hB hi2 (by simp only [AaS];omega) sg1) ?_;rintro _ G2 ⟨ms2,a2,c2,hm2,hs2,rfl,ht2,sg2⟩;have p1:=Bk w1.den;have p2:=Bk w2.den;refine VC.fa Cd ?_;refine ld1 (v:=.int .i64 (A7 6 (i1:Int) (i2:Int)).op) ct3 (by rw [(sg2.blk _ (lgR (_::_::rest) _ 0)).cell];exact DV _) trivial ?_;refine Ad.mk (Fl (op:=6) (x:=((ns.length+ms1.length - 1:Nat):Int)) (y:=(((ns++ms1).length+ms2.length - 1:Nat):Int)) sg2 (by unfold AH;omega) (BG (by omega)) (BG (by simp only [AaS];omega)) (by simp only [AaS];omega)) ?_;rintro _ G3 ⟨rfl,a3,c3,sg3⟩;(conv=>whnf);exact(EV (R:=.minus w1.den w2.den) hm1 hs1 hm2 hs2 (fun h=>by cases h) rfl (fun ns' d j k' h1 h2 h3 h4=>⟨d,j,k',h1,by rw [h2];rfl,by rw [h2];rfl,by rw [h2];rfl,h3,h4⟩) ht1 ht2 sg3).drop
 | rep w m n ih=>
   intro B H0 H bb c a ns AR rest na nc i ds ws hR hd hB hw hl st;obtain⟨d,hdd,hnr⟩:=hR.at2 hw;refine Al.of_vc Tryz.func83 rfl (Tryz.call83 _) ?_;obtain⟨i1,rfl,hi1,hrk⟩:=hnr;refine ixr (i:=i) Fm (hd.frame (st.old.mono fun k hk=>hk)) hdd rfl ?_;rintro b2 o2 c2 hS2 hc2 ⟨rfl,hok⟩;refine ldN (cs:=rnL (BQ (i1:Int) m n)) (by rw [AQ];exact KT) hc2 trivial ?_;refine An _ rnZ N0 rfl ?_;intro x H3 hx hs3 hb3 ha3;have st3:=st.box hx hs3 hb3 ha3;refine AI (cs:=rnL (BQ (i1:Int) m n)) st3 _ (by rw [AQ];rfl) (lgR (_::_::rest) _ 0) (by rw [AQ,CD];decide) (CQ _) fun H4 st4=>?_;rw [Ax (show(rnL (BQ (i1:Int) m n)).length=rnZ.length by rw [AQ,CD])]at st4;replace st4:StB B H0 H4 (reP bb a c ns AR (rest++[pB 159 x (rnL (BQ (i1:Int) m n))])):=by
    have e:=lsR (pB tRe bb (reL (.slice a ns.length c) AR)::pS tRn 159 a ns.length c ns::rest) [pB 159 x rnZ] 0 (pB 159 x (rnL (BQ (i1:Int) m n)));rw [e]at st4;exact st4
   have hx4:Blk H4 x 159 (rnL (BQ (i1:Int) m n)):=st4.blk _ (lgR (_::_::rest) _ 0);refine VC.fa Cd ?_;refine ld1 (v:=.int .i64 (BQ (i1:Int) m n).op) ct3 (by rw [hx4.cell];exact DV _) trivial ?_;(conv=>whnf);try (refine Av.run ?_)
   (conv=>whnf);try (refine Av.run ?_)
   refine ldN (cs:=rnL (BQ (i1:Int) m n)) (by rw [AQ];exact KT) (hx4.cells (o:=0) fun j v hv=>by rw [AaT];exact hv) trivial ?_;refine Ad.mk (WY ih hR hd hB hi1 hrk hl st4) ?_;intro v G1 h;(conv=>whnf);exact GrP.drop h
end Go.Proofs.YtfbghcpdinlmcaaGreatDoor
