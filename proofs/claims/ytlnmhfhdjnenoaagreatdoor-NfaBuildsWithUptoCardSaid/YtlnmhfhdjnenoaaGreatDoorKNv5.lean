/- Parts of the proof: PPa4, PRd4, PRd5, PPa5, PPa6, PPa7, PRd2, PRd3, VHeldT -/
import Derived.Test.YtlnmhfhdjnenoaaGreatDoorKNv4
import Derived.Test.YtlnmhfhdjnenoaaGreatDoorKNv2
import Derived.Test.YtlnmhfhdjnenoaaGreatDoorKNv3
set_option maxHeartbeats 64000000
open Array renaming replicate → Vc
open Bool renaming or_false → UO, true_and → UP, and_eq_true → UQ, and_false → US, false_and → UT, or_true → UV, false_eq_true → UY
open Int renaming eq_ofNat_of_zero_le → Vb, toNat_natCast → Vf
open List renaming set_cons_succ → UM, set_cons_zero → UN, append_assoc → UR, set_set → UX, getElem?_eq_none → Vd, mem_cons → Ve
open Nat renaming le_refl → UL, pow_le_pow_right → UW, lt_of_lt_of_le → UZ, zero_add → Va
open Option renaming isSome_iff_exists → UU
set_option linter.unusedVariables false
set_option linter.unusedSimpArgs false
set_option maxRecDepth 100000
namespace Go.Proofs.YtlnmhfhdjnenoaaGreatDoor
open Go.VC Go.Lib
theorem GJ(a:ReM)(m:Nat):B9 a m 1=some (if 0<m then a else AV a):=rfl
theorem Pl(a:ReM)(m k:Nat)(h:1≤k):∃r,B9 a m k=some r:=by
 obtain⟨j,rfl⟩:∃j,k=j+1:=⟨k - 1,by omega⟩;exact⟨_,rfl⟩
theorem CM(a:ReM)(m k:Nat)(h:1≤k):(B9 a m (k+1)).getD .eps= .cat ((B9 a m k).getD .eps) (if k<m then a else AV a):=by
 obtain⟨r,hr⟩:=Pl a m k h;show(some (PK (B9 a m k) (if k<m then a else AV a))).getD .eps=_;rw [hr];rfl
def Ja(ps:List Pc)(b3 q6 q7:Nat)(a out:ReM)(va fn:Value):List Pc:=ps++[pB 77 b3 (Ab a va),pB 77 q6 Aj,pB 77 q7 (Ab out fn)]
structure OD(B:Nat→Prop)(H:Aa)(ps:List Pc)(b3 q6 q7:Nat)(a out:ReM)(va:Value)(G:Aa):Prop where
 ex:∃(B':Nat→Prop) (fn:Value),(∀k,B k→B' k)∧Agr (Old H) H G∧StB B' G G (Ja ps b3 q6 q7 a out va fn)∧Ck B' G va a∧Ck B' G fn out
theorem O5{B:Nat→Prop}{H0 H:Aa}{ps:List Pc}{a:ReM}{va:Value}{m:Nat}{n:Int}(st:StB B H0 H ps)(ga:Ck B H va a)(hm:m≤255)(hn1: -1≤n)(hn2:n≤255)(hmn:0≤n→(m:Int)≤n):
  Ao Tryz.prog 126 #[.agg (Ab a va).toArray,.int .i64 (m:Int),.int .i64 n] H (LP B H ps (BG a m n)):=by
 obtain⟨g1,c1,rfl⟩:=ga.fn;refine Ao.of_vc Tryz.func126 rfl (Tryz.call126 _) (BM (Ab a (.func (.func g1) #[] c1)) rfl ?_);intro b3 H1 hq1 hs1 hb1 ha1;have st1:=st.box hq1 hs1 hb1 ha1;refine Ag (.agg Aj.toArray) Aj CG rfl ?_;intro q6 H2 hq2 hs2 hb2 ha2;have st2:=st1.box hq2 hs2 hb2 ha2;have ag2:Agr (Old H) H H2:=(ha1.mono fun k hk=>by have:k<H.size:=hk;omega).trans (ha2.mono fun k hk=>by have:k<H.size:=hk;omega);have agB2:Agr B H H2:=ag2.mono fun k hk=>st.up hk;rw [UR]at st2;have ga2:=ga.frame agB2 fun k hk=>hk;have bb3:Blk H2 b3 77 (Ab a (.func (.func g1) #[] c1)):=st2.blk _ (DB _ _);by_cases h1:m=0∧n<0
 ·have d1:((m:Int)==0)=true:=by rw [h1.1];rfl
  have d2:decide (n<0)=true:=decide_eq_true h1.2;(conv=>whnf);rw [d1];(conv=>whnf);rw [d2];refine ldN (cs:=Ab a (.func (.func g1) #[] c1)) Bj (Au bb3) trivial (Ai.mk (JZ st2 ga2) ?_);rintro _ H3 ⟨B1,f1,rfl,s1,a1,st3,gs⟩;obtain⟨g2,c2,rfl⟩:=gs.fn;refine Be (cs:=Ab (.star a) (.func (.func g2) #[] c2)) st3 _ rfl (lgR ps _ 1) (by simp [Ab,Aj]) rfl fun H4 st4 ha4 hs4=>?_;rw [lsR,BZ rfl]at st4;have hb4:Blk H4 q6 77 (Ab (.star a) (.func (.func g2) #[] c2)):=st4.blk _ (lgR ps _ 1);refine ldN (cs:=Ab (.star a) (.func (.func g2) #[] c2)) Bj (Au hb4) trivial ?_;have e:BG a m n= .star a:=by unfold BG;rw [if_pos h1.2,if_pos h1.1]
  rw [e];exact⟨B1,_,rfl,s1,(ag2.trans (a1.mono fun k hk=>A0 ag2 hk)).trans (ha4.mono fun k hk=>by have:k<H.size:=hk;omega),st4.lft.rebase,gs.frame st4.old fun k hk=>hk⟩
 by_cases h2:m=0∧n=0
 ·have d1:((m:Int)==0)=true:=by rw [h2.1];rfl
  have d2:decide (n<0)=false:=decide_eq_false (by omega);have d3:(n==0)=true:=by rw [h2.2];rfl
  (conv=>whnf);rw [d1];(conv=>whnf);rw [d2];(conv=>whnf);rw [d1];(conv=>whnf);rw [d3];refine Av Tryz.underlying127 rfl _ rfl [] rfl (Ai.mk (Lx (r:=.eps) st2 rfl) ?_);rintro _ H3 ⟨B1,f1,rfl,s1,a1,st3,gs⟩;obtain⟨g2,c2,rfl⟩:=gs.fn;refine Be (cs:=Ab .eps (.func (.func g2) #[] c2)) st3 _ rfl (lgR ps _ 1) (by simp [Ab,Aj]) rfl fun H4 st4 ha4 hs4=>?_;rw [lsR,BZ rfl]at st4;have hb4:Blk H4 q6 77 (Ab .eps (.func (.func g2) #[] c2)):=st4.blk _ (lgR ps _ 1);refine ldN (cs:=Ab .eps (.func (.func g2) #[] c2)) Bj (Au hb4) trivial ?_;have e:BG a m n= .eps:=by unfold BG;rw [if_neg (by omega),if_pos h2.2]
  rw [e];exact⟨B1,_,rfl,s1,(ag2.trans (a1.mono fun k hk=>A0 ag2 hk)).trans (ha4.mono fun k hk=>by have:k<H.size:=hk;omega),st4.lft.rebase,gs.frame st4.old fun k hk=>hk⟩
 by_cases hm0:m=0
 ·have d1:((m:Int)==0)=true:=by rw [hm0];rfl
  have d2:decide (n<0)=false:=decide_eq_false (by omega);have d3:(n==0)=false:=beq_eq_false_iff_ne.2 (by omega);(conv=>whnf);rw [d1];(conv=>whnf);rw [d2];(conv=>whnf);rw [d1];(conv=>whnf);rw [d3];refine ldN (cs:=Ab a (.func (.func g1) #[] c1)) Bj (Au bb3) trivial (Ag (.agg Aj.toArray) Aj CG rfl ?_);intro q7 H3 hq3 hs3 hb3 ha3;have st3:=st2.box hq3 hs3 hb3 ha3;rw [UR]at st3;refine Be (cs:=Ab a (.func (.func g1) #[] c1)) st3 _ rfl (lgR ps _ 2) (by simp [Ab,Aj]) rfl fun H4 st4 ha4 hs4=>?_;rw [lsR]at st4;replace st4:StB B H0 H4 (Ja ps b3 q6 q7 a a (.func (.func g1) #[] c1) (.func (.func g1) #[] c1)):=by
   have e:Ac Aj 0 (Ab a (.func (.func g1) #[] c1))=Ab a (.func (.func g1) #[] c1):=BZ rfl;have:=st4;rw [e]at this;exact this
  have ag4:Agr (Old H) H H4:=(ag2.trans (ha3.mono fun k hk=>by have:=A0 ag2 hk;omega)).trans (ha4.mono fun k hk=>by have:k<H.size:=hk;omega);have agB4:Agr B H H4:=ag4.mono fun k hk=>st.up hk;have n3:H.size≤q7:=by have:=DI ag2;omega
  have n6:H.size≤q6:=by have:=DI (show Agr (Old H) H H1 from ha1.mono fun k hk=>by have:k<H.size:=hk;omega);omega
  (conv=>whnf);refine Al.cut [] (fun _:Unit=>[]) (fun _ G=>OD B H ps b3 q6 q7 a ((B9 a m 1).getD .eps) (.func (.func g1) #[] c1) G) ?_ ?_
  ·(conv=>whnf);rw [d1];refine ldN (cs:=Ab a (.func (.func g1) #[] c1)) Bj (Au (st4.blk _ (DB _ _))) trivial (Ai.mk (Jt st4 (ga.frame agB4 fun k hk=>hk)) ?_);rintro _ H5 ⟨B1,f1,rfl,s1,a1,st5,gs⟩;obtain⟨g2,c2,rfl⟩:=gs.fn;refine Be (cs:=Ab (AV a) (.func (.func g2) #[] c2)) st5 _ rfl (lgR ps _ 2) (by simp [Ab]) rfl fun H6 st6 ha6 hs6=>?_;unfold Ja at st6;rw [lsR]at st6;have e6:Ac (Ab a (.func (.func g1) #[] c1)) 0 (Ab (AV a) (.func (.func g2) #[] c2))=Ab (AV a) (.func (.func g2) #[] c2):=BZ rfl;rw [e6]at st6;(conv=>whnf);have ag6:Agr (Old H) H H6:=(ag4.trans (a1.mono fun k hk=>A0 ag4 hk)).trans (ha6.mono fun k hk=>by have:k<H.size:=hk;omega);refine⟨rfl,(),rfl,⟨B1,.func (.func g2) #[] c2,s1,ag6,?_,ga.frame (ag6.mono fun k hk=>st.up hk) s1,?_⟩⟩
   ·rw [GJ,if_neg (by omega)];exact st6.rebase
   ·rw [GJ,if_neg (by omega)];exact gs.frame st6.old fun k hk=>hk
  ·rintro⟨⟩ G0 junk0 tim0;(conv=>whnf);refine AH.mk [8] (fun k:Nat=>[.int .i64 (k:Int)]) (fun k G=>1≤k∧k≤max m 1∧OD B H ps b3 q6 q7 a ((B9 a m k).getD .eps) (.func (.func g1) #[] c1) G) (fun k _=>max m 1 - k) ?_ ?_
   ·(conv=>whnf);exact⟨1,rfl,UL _,by omega,tim0⟩
   ·rintro k G junk1 ⟨hk1,hkm,⟨B1,f1,s1,ag,sg,gv,gf⟩⟩;obtain⟨gg,cc,rfl⟩:=gf.fn;refine AQ.mk (fun hz=>?_) (fun hz=>?_)<;>simp only [decide_eq_true_eq,decide_eq_false_iff_not]at hz
    ·(conv=>whnf);try (refine Al.run ?_)
     refine ldN (cs:=Ab ((B9 a m k).getD .eps) (.func (.func gg) #[] cc)) Bj (Au (sg.blk _ (lgR ps _ 2))) trivial (ldN (cs:=Ab a (.func (.func g1) #[] c1)) Bj (Au (sg.blk _ (DB ps _))) trivial (Ai.mk (E2 .cat sg gf gv) ?_));rintro _ G1 ⟨B2,f2,rfl,s2,a2,sg2,gj⟩;obtain⟨g2,c2,rfl⟩:=gj.fn;refine Be (cs:=Ab (opR .cat ((B9 a m k).getD .eps) a) (.func (.func g2) #[] c2)) sg2 _ rfl (lgR ps _ 2) (by simp [Ab]) rfl fun G3 sg3 ja3 js3=>?_;unfold Ja at sg3;rw [lsR]at sg3;have e:Ac (Ab ((B9 a m k).getD .eps) (.func (.func gg) #[] cc)) 0 (Ab (opR .cat ((B9 a m k).getD .eps) a) (.func (.func g2) #[] c2))=Ab (opR .cat ((B9 a m k).getD .eps) a) (.func (.func g2) #[] c2):=BZ rfl;rw [e]at sg3;(conv=>whnf);rw [w64 (x:=(k:Int)+1) (by omega) (by omega)];have ag3:Agr (Old H) H G3:=(ag.trans (a2.mono fun k hk=>A0 ag hk)).trans (ja3.mono fun k hk=>by have:k<H.size:=hk;omega);refine⟨rfl,k+1,rfl,⟨by omega,by omega,⟨B2,.func (.func g2) #[] c2,fun k hk=>s2 k (s1 k hk),ag3,?_,ga.frame (ag3.mono fun k hk=>st.up hk) fun k hk=>s2 k (s1 k hk),?_⟩⟩,by omega⟩
     ·rw [CM _ _ _ hk1,if_pos (by omega)];exact sg3.rebase
     ·rw [CM _ _ _ hk1,if_pos (by omega)];exact gj.frame sg3.old fun k hk=>hk
    ·obtain rfl:k=max m 1:=by omega
     by_cases hn:n<0
     ·have d2:decide (n<0)=true:=decide_eq_true hn;have hm1:max m 1=m:=by omega
      rw [hm1]at gf sg;(conv=>whnf);try (refine Al.run ?_)
      (conv=>whnf);rw [d2];refine As.heldZ (Old G) [4] (sq [0,1] (.f 2 (.f 3 (.f 4 .e)))) rfl (by kernel_rfl) (ldN (cs:=Ab ((B9 a m m).getD .eps) (.func (.func gg) #[] cc)) Bj (Au (sg.blk _ (lgR ps _ 2))) ((sg.in_ _ (lgR ps _ 2) (k:=q7) rfl).2) (ldN (cs:=Ab a (.func (.func g1) #[] c1)) Bj (Au (sg.blk _ (DB ps _))) ((sg.in_ _ (DB ps _) (k:=b3) rfl).2) (Ai.mk (JZ sg gv) ?_)));rintro _ G1 ⟨B2,f2,rfl,s2,a2,sg2,gs⟩;refine⟨a2,?_⟩;have agB2':Agr B1 G G1:=a2.mono fun k hk=>sg.up hk;refine Ai.mk (E2 .cat sg2 (gf.frame agB2' s2) gs) ?_;rintro _ G2 ⟨B3,f3,rfl,s3,a3,sg3,gj⟩;have a23:=a2.trans (a3.mono fun k hk=>A0 a2 hk);refine⟨a23,?_⟩;obtain⟨g2,c2,rfl⟩:=gj.fn;refine Be (cs:=Ab (opR .cat ((B9 a m m).getD .eps) (.star a)) (.func (.func g2) #[] c2)) sg3 _ rfl (lgR ps _ 1) (by simp [Ab,Aj]) rfl fun G3 sg4 ja3 js3=>?_;unfold Ja at sg4;rw [lsR,BZ rfl]at sg4;have hb4:Blk G3 q6 77 (Ab (opR .cat ((B9 a m m).getD .eps) (.star a)) (.func (.func g2) #[] c2)):=sg4.blk _ (lgR ps _ 1);refine ldN (cs:=Ab (opR .cat ((B9 a m m).getD .eps) (.star a)) (.func (.func g2) #[] c2)) Bj (Au hb4) trivial ?_;have e:BG a m n=opR .cat ((B9 a m m).getD .eps) (.star a):=by unfold BG;rw [if_pos hn,if_neg (by omega)];rfl
      rw [e];exact⟨B3,_,rfl,fun k hk=>s3 k (s2 k (s1 k hk)),(ag.trans (a23.mono fun k hk=>A0 ag hk)).trans (ja3.mono fun k hk=>by have:k<H.size:=hk;omega),sg4.lft.rebase,gj.frame sg4.old fun k hk=>hk⟩
     ·have d2:decide (n<0)=false:=decide_eq_false hn;obtain⟨nn,rfl⟩:=Vb (show 0≤n by omega);(conv=>whnf);try (refine Al.run ?_)
      (conv=>whnf);refine AH.mk [8] (fun k:Nat=>[.int .i64 (k:Int)]) (fun k G=>max m 1≤k∧k≤nn∧OD B H ps b3 q6 q7 a ((B9 a m k).getD .eps) (.func (.func g1) #[] c1) G) (fun k _=>nn - k) ?_ ?_
      ·(conv=>whnf);exact⟨max m 1,rfl,UL _,by omega,⟨B1,.func (.func gg) #[] cc,s1,ag,sg,gv,gf⟩⟩
      ·clear s1 ag sg gv gf B1;rintro k G junk2 ⟨hk1,hkm,⟨B1,f1,s1,ag,sg,gv,gf⟩⟩;obtain⟨gg,cc,rfl⟩:=gf.fn;refine AQ.mk (fun hz=>?_) (fun hz=>?_)<;>simp only [decide_eq_true_eq,decide_eq_false_iff_not]at hz
       ·(conv=>whnf);try (refine Al.run ?_)
        refine As.heldZ (Old G) [4] (sq [0,1] (.f 2 (.f 3 (.f 4 .e)))) rfl (by kernel_rfl) (ldN (cs:=Ab ((B9 a m k).getD .eps) (.func (.func gg) #[] cc)) Bj (Au (sg.blk _ (lgR ps _ 2))) ((sg.in_ _ (lgR ps _ 2) (k:=q7) rfl).2) (ldN (cs:=Ab a (.func (.func g1) #[] c1)) Bj (Au (sg.blk _ (DB ps _))) ((sg.in_ _ (DB ps _) (k:=b3) rfl).2) (Ai.mk (Jt sg gv) ?_)));rintro _ G1 ⟨B2,f2,rfl,s2,a2,sg2,gs⟩;refine⟨a2,?_⟩;have agB2':Agr B1 G G1:=a2.mono fun k hk=>sg.up hk;refine Ai.mk (E2 .cat sg2 (gf.frame agB2' s2) gs) ?_;rintro _ G2 ⟨B3,f3,rfl,s3,a3,sg3,gj⟩;have a23:=a2.trans (a3.mono fun k hk=>A0 a2 hk);refine⟨a23,?_⟩;obtain⟨g2,c2,rfl⟩:=gj.fn;refine Be (cs:=Ab (opR .cat ((B9 a m k).getD .eps) (AV a)) (.func (.func g2) #[] c2)) sg3 _ rfl (lgR ps _ 2) (by simp [Ab]) rfl fun G3 sg4 ja3 js3=>?_;unfold Ja at sg4;rw [lsR]at sg4;have e:Ac (Ab ((B9 a m k).getD .eps) (.func (.func gg) #[] cc)) 0 (Ab (opR .cat ((B9 a m k).getD .eps) (AV a)) (.func (.func g2) #[] c2))=Ab (opR .cat ((B9 a m k).getD .eps) (AV a)) (.func (.func g2) #[] c2):=BZ rfl;rw [e]at sg4;(conv=>whnf);rw [w64 (x:=(k:Int)+1) (by omega) (by omega)];have ag3:Agr (Old H) H G3:=(ag.trans (a23.mono fun k hk=>A0 ag hk)).trans (ja3.mono fun k hk=>by have:k<H.size:=hk;omega);refine⟨rfl,k+1,rfl,⟨by omega,by omega,⟨B3,.func (.func g2) #[] c2,fun k hk=>s3 k (s2 k (s1 k hk)),ag3,?_,ga.frame (ag3.mono fun k hk=>st.up hk) fun k hk=>s3 k (s2 k (s1 k hk)),?_⟩⟩,by omega⟩
        ·rw [CM _ _ _ (by omega),if_neg (by omega)];exact sg4.rebase
        ·rw [CM _ _ _ (by omega),if_neg (by omega)];exact gj.frame sg4.old fun k hk=>hk
       ·obtain rfl:k=nn:=by omega
        refine ldN (cs:=Ab ((B9 a m k).getD .eps) (.func (.func gg) #[] cc)) Bj (Au (sg.blk _ (lgR ps _ 2))) trivial (Be (cs:=Ab ((B9 a m k).getD .eps) (.func (.func gg) #[] cc)) sg _ rfl (lgR ps _ 1) (by simp [Ab,Aj]) rfl fun G3 sg4 ja3 js3=>?_);unfold Ja at sg4;rw [lsR,BZ rfl]at sg4;have hb4:Blk G3 q6 77 (Ab ((B9 a m k).getD .eps) (.func (.func gg) #[] cc)):=sg4.blk _ (lgR ps _ 1);refine ldN (cs:=Ab ((B9 a m k).getD .eps) (.func (.func gg) #[] cc)) Bj (Au hb4) trivial ?_;have e:BG a m (k:Int)=(B9 a m k).getD .eps:=by unfold BG;rw [if_neg (by omega),if_neg (by omega),Vf]
        rw [e];exact⟨B1,_,rfl,s1,ag.trans (ja3.mono fun k hk=>by have:k<H.size:=hk;omega),sg4.lft.rebase,gf.frame sg4.old fun k hk=>hk⟩
 ·have d1:((m:Int)==0)=false:=beq_eq_false_iff_ne.2 (by omega);(conv=>whnf);rw [d1];(conv=>whnf);rw [d1];refine ldN (cs:=Ab a (.func (.func g1) #[] c1)) Bj (Au bb3) trivial (Ag (.agg Aj.toArray) Aj CG rfl ?_);intro q7 H3 hq3 hs3 hb3 ha3;have st3:=st2.box hq3 hs3 hb3 ha3;rw [UR]at st3;refine Be (cs:=Ab a (.func (.func g1) #[] c1)) st3 _ rfl (lgR ps _ 2) (by simp [Ab,Aj]) rfl fun H4 st4 ha4 hs4=>?_;rw [lsR]at st4;replace st4:StB B H0 H4 (Ja ps b3 q6 q7 a a (.func (.func g1) #[] c1) (.func (.func g1) #[] c1)):=by
   have e:Ac Aj 0 (Ab a (.func (.func g1) #[] c1))=Ab a (.func (.func g1) #[] c1):=BZ rfl;have:=st4;rw [e]at this;exact this
  have ag4:Agr (Old H) H H4:=(ag2.trans (ha3.mono fun k hk=>by have:=A0 ag2 hk;omega)).trans (ha4.mono fun k hk=>by have:k<H.size:=hk;omega);have agB4:Agr B H H4:=ag4.mono fun k hk=>st.up hk;have n3:H.size≤q7:=by have:=DI ag2;omega
  have n6:H.size≤q6:=by have:=DI (show Agr (Old H) H H1 from ha1.mono fun k hk=>by have:k<H.size:=hk;omega);omega
  (conv=>whnf);refine Al.cut [] (fun _:Unit=>[]) (fun _ G=>OD B H ps b3 q6 q7 a ((B9 a m 1).getD .eps) (.func (.func g1) #[] c1) G) ?_ ?_
  ·(conv=>whnf);rw [d1];(conv=>whnf);refine⟨rfl,(),rfl,⟨B,.func (.func g1) #[] c1,fun k hk=>hk,ag4,?_,ga.frame agB4 fun k hk=>hk,?_⟩⟩
   ·rw [GJ,if_pos (by omega)];exact st4.rebase
   ·rw [GJ,if_pos (by omega)];exact ga.frame agB4 fun k hk=>hk
  ·rintro⟨⟩ G0 junk0 tim0;(conv=>whnf);refine AH.mk [8] (fun k:Nat=>[.int .i64 (k:Int)]) (fun k G=>1≤k∧k≤max m 1∧OD B H ps b3 q6 q7 a ((B9 a m k).getD .eps) (.func (.func g1) #[] c1) G) (fun k _=>max m 1 - k) ?_ ?_
   ·(conv=>whnf);exact⟨1,rfl,UL _,by omega,tim0⟩
   ·rintro k G junk1 ⟨hk1,hkm,⟨B1,f1,s1,ag,sg,gv,gf⟩⟩;obtain⟨gg,cc,rfl⟩:=gf.fn;refine AQ.mk (fun hz=>?_) (fun hz=>?_)<;>simp only [decide_eq_true_eq,decide_eq_false_iff_not]at hz
    ·(conv=>whnf);try (refine Al.run ?_)
     refine ldN (cs:=Ab ((B9 a m k).getD .eps) (.func (.func gg) #[] cc)) Bj (Au (sg.blk _ (lgR ps _ 2))) trivial (ldN (cs:=Ab a (.func (.func g1) #[] c1)) Bj (Au (sg.blk _ (DB ps _))) trivial (Ai.mk (E2 .cat sg gf gv) ?_));rintro _ G1 ⟨B2,f2,rfl,s2,a2,sg2,gj⟩;obtain⟨g2,c2,rfl⟩:=gj.fn;refine Be (cs:=Ab (opR .cat ((B9 a m k).getD .eps) a) (.func (.func g2) #[] c2)) sg2 _ rfl (lgR ps _ 2) (by simp [Ab]) rfl fun G3 sg3 ja3 js3=>?_;unfold Ja at sg3;rw [lsR]at sg3;have e:Ac (Ab ((B9 a m k).getD .eps) (.func (.func gg) #[] cc)) 0 (Ab (opR .cat ((B9 a m k).getD .eps) a) (.func (.func g2) #[] c2))=Ab (opR .cat ((B9 a m k).getD .eps) a) (.func (.func g2) #[] c2):=BZ rfl;rw [e]at sg3;(conv=>whnf);rw [w64 (x:=(k:Int)+1) (by omega) (by omega)];have ag3:Agr (Old H) H G3:=(ag.trans (a2.mono fun k hk=>A0 ag hk)).trans (ja3.mono fun k hk=>by have:k<H.size:=hk;omega);refine⟨rfl,k+1,rfl,⟨by omega,by omega,⟨B2,.func (.func g2) #[] c2,fun k hk=>s2 k (s1 k hk),ag3,?_,ga.frame (ag3.mono fun k hk=>st.up hk) fun k hk=>s2 k (s1 k hk),?_⟩⟩,by omega⟩
     ·rw [CM _ _ _ hk1,if_pos (by omega)];exact sg3.rebase
     ·rw [CM _ _ _ hk1,if_pos (by omega)];exact gj.frame sg3.old fun k hk=>hk
    ·obtain rfl:k=max m 1:=by omega
     by_cases hn:n<0
     ·have d2:decide (n<0)=true:=decide_eq_true hn;have hm1:max m 1=m:=by omega
      rw [hm1]at gf sg;(conv=>whnf);try (refine Al.run ?_)
      (conv=>whnf);rw [d2];refine As.heldZ (Old G) [4] (sq [0,1] (.f 2 (.f 3 (.f 4 .e)))) rfl (by kernel_rfl) (ldN (cs:=Ab ((B9 a m m).getD .eps) (.func (.func gg) #[] cc)) Bj (Au (sg.blk _ (lgR ps _ 2))) ((sg.in_ _ (lgR ps _ 2) (k:=q7) rfl).2) (ldN (cs:=Ab a (.func (.func g1) #[] c1)) Bj (Au (sg.blk _ (DB ps _))) ((sg.in_ _ (DB ps _) (k:=b3) rfl).2) (Ai.mk (JZ sg gv) ?_)));rintro _ G1 ⟨B2,f2,rfl,s2,a2,sg2,gs⟩;refine⟨a2,?_⟩;have agB2':Agr B1 G G1:=a2.mono fun k hk=>sg.up hk;refine Ai.mk (E2 .cat sg2 (gf.frame agB2' s2) gs) ?_;rintro _ G2 ⟨B3,f3,rfl,s3,a3,sg3,gj⟩;have a23:=a2.trans (a3.mono fun k hk=>A0 a2 hk);refine⟨a23,?_⟩;obtain⟨g2,c2,rfl⟩:=gj.fn;refine Be (cs:=Ab (opR .cat ((B9 a m m).getD .eps) (.star a)) (.func (.func g2) #[] c2)) sg3 _ rfl (lgR ps _ 1) (by simp [Ab,Aj]) rfl fun G3 sg4 ja3 js3=>?_;unfold Ja at sg4;rw [lsR,BZ rfl]at sg4;have hb4:Blk G3 q6 77 (Ab (opR .cat ((B9 a m m).getD .eps) (.star a)) (.func (.func g2) #[] c2)):=sg4.blk _ (lgR ps _ 1);refine ldN (cs:=Ab (opR .cat ((B9 a m m).getD .eps) (.star a)) (.func (.func g2) #[] c2)) Bj (Au hb4) trivial ?_;have e:BG a m n=opR .cat ((B9 a m m).getD .eps) (.star a):=by unfold BG;rw [if_pos hn,if_neg (by omega)];rfl
      rw [e];exact⟨B3,_,rfl,fun k hk=>s3 k (s2 k (s1 k hk)),(ag.trans (a23.mono fun k hk=>A0 ag hk)).trans (ja3.mono fun k hk=>by have:k<H.size:=hk;omega),sg4.lft.rebase,gj.frame sg4.old fun k hk=>hk⟩
     ·have d2:decide (n<0)=false:=decide_eq_false hn;obtain⟨nn,rfl⟩:=Vb (show 0≤n by omega);(conv=>whnf);try (refine Al.run ?_)
      (conv=>whnf);refine AH.mk [8] (fun k:Nat=>[.int .i64 (k:Int)]) (fun k G=>max m 1≤k∧k≤nn∧OD B H ps b3 q6 q7 a ((B9 a m k).getD .eps) (.func (.func g1) #[] c1) G) (fun k _=>nn - k) ?_ ?_
      ·(conv=>whnf);exact⟨max m 1,rfl,UL _,by omega,⟨B1,.func (.func gg) #[] cc,s1,ag,sg,gv,gf⟩⟩
      ·clear s1 ag sg gv gf B1;rintro k G junk2 ⟨hk1,hkm,⟨B1,f1,s1,ag,sg,gv,gf⟩⟩;obtain⟨gg,cc,rfl⟩:=gf.fn;refine AQ.mk (fun hz=>?_) (fun hz=>?_)<;>simp only [decide_eq_true_eq,decide_eq_false_iff_not]at hz
       ·(conv=>whnf);try (refine Al.run ?_)
        refine As.heldZ (Old G) [4] (sq [0,1] (.f 2 (.f 3 (.f 4 .e)))) rfl (by kernel_rfl) (ldN (cs:=Ab ((B9 a m k).getD .eps) (.func (.func gg) #[] cc)) Bj (Au (sg.blk _ (lgR ps _ 2))) ((sg.in_ _ (lgR ps _ 2) (k:=q7) rfl).2) (ldN (cs:=Ab a (.func (.func g1) #[] c1)) Bj (Au (sg.blk _ (DB ps _))) ((sg.in_ _ (DB ps _) (k:=b3) rfl).2) (Ai.mk (Jt sg gv) ?_)));rintro _ G1 ⟨B2,f2,rfl,s2,a2,sg2,gs⟩;refine⟨a2,?_⟩;have agB2':Agr B1 G G1:=a2.mono fun k hk=>sg.up hk;refine Ai.mk (E2 .cat sg2 (gf.frame agB2' s2) gs) ?_;rintro _ G2 ⟨B3,f3,rfl,s3,a3,sg3,gj⟩;have a23:=a2.trans (a3.mono fun k hk=>A0 a2 hk);refine⟨a23,?_⟩;obtain⟨g2,c2,rfl⟩:=gj.fn;refine Be (cs:=Ab (opR .cat ((B9 a m k).getD .eps) (AV a)) (.func (.func g2) #[] c2)) sg3 _ rfl (lgR ps _ 2) (by simp [Ab]) rfl fun G3 sg4 ja3 js3=>?_;unfold Ja at sg4;rw [lsR]at sg4;have e:Ac (Ab ((B9 a m k).getD .eps) (.func (.func gg) #[] cc)) 0 (Ab (opR .cat ((B9 a m k).getD .eps) (AV a)) (.func (.func g2) #[] c2))=Ab (opR .cat ((B9 a m k).getD .eps) (AV a)) (.func (.func g2) #[] c2):=BZ rfl;rw [e]at sg4;(conv=>whnf);rw [w64 (x:=(k:Int)+1) (by omega) (by omega)];have ag3:Agr (Old H) H G3:=(ag.trans (a23.mono fun k hk=>A0 ag hk)).trans (ja3.mono fun k hk=>by have:k<H.size:=hk;omega);refine⟨rfl,k+1,rfl,⟨by omega,by omega,⟨B3,.func (.func g2) #[] c2,fun k hk=>s3 k (s2 k (s1 k hk)),ag3,?_,ga.frame (ag3.mono fun k hk=>st.up hk) fun k hk=>s3 k (s2 k (s1 k hk)),?_⟩⟩,by omega⟩
        ·rw [CM _ _ _ (by omega),if_neg (by omega)];exact sg4.rebase
        ·rw [CM _ _ _ (by omega),if_neg (by omega)];exact gj.frame sg4.old fun k hk=>hk
       ·obtain rfl:k=nn:=by omega
        refine ldN (cs:=Ab ((B9 a m k).getD .eps) (.func (.func gg) #[] cc)) Bj (Au (sg.blk _ (lgR ps _ 2))) trivial (Be (cs:=Ab ((B9 a m k).getD .eps) (.func (.func gg) #[] cc)) sg _ rfl (lgR ps _ 1) (by simp [Ab,Aj]) rfl fun G3 sg4 ja3 js3=>?_);unfold Ja at sg4;rw [lsR,BZ rfl]at sg4;have hb4:Blk G3 q6 77 (Ab ((B9 a m k).getD .eps) (.func (.func gg) #[] cc)):=sg4.blk _ (lgR ps _ 1);refine ldN (cs:=Ab ((B9 a m k).getD .eps) (.func (.func gg) #[] cc)) Bj (Au hb4) trivial ?_;have e:BG a m (k:Int)=(B9 a m k).getD .eps:=by unfold BG;rw [if_neg (by omega),if_neg (by omega),Vf]
        rw [e];exact⟨B1,_,rfl,s1,ag.trans (ja3.mono fun k hk=>by have:k<H.size:=hk;omega),sg4.lft.rebase,gf.frame sg4.old fun k hk=>hk⟩
def Ic(c:Nat):Int:=match CT c with
 | some v=>(v:Int)
 | none=> -1
theorem N5{H:Aa}{c:Nat}(hc:c<256):Bv Tryz.prog 85 #[.int .u8 (c:Int)] H (.int .i64 (Ic c)):=by
 refine Ao.of_vc Tryz.func85 rfl (Tryz.call85 _) ?_;(conv=>whnf);by_cases hq00:48≤c
 ·skip
  have d1:decide ((c:Int)≥48)=true:=decide_eq_true (by omega);(conv=>whnf);rw [d1];clear d1;by_cases hq01:c≤57
  ·skip
   have d1:decide ((c:Int)≤57)=true:=decide_eq_true (by omega);(conv=>whnf);rw [d1];clear d1;(conv=>whnf);rw [w8 (x:=(c:Int) - 48) (by omega) (by omega)];(conv=>whnf);rw [w64 (x:=(c:Int) - 48) (by omega) (by omega)];(conv=>whnf);refine⟨?_,Agr.refl _ _⟩;have:CT c=some (c - 48):=by unfold CT;rw [if_pos (by omega)]
   unfold Ic;rw [this];show Value.int .i64 ((c:Int) - 48)=Value.int .i64 ((c - 48:Nat):Int)
   congr 1;omega
  ·skip
   have d1:decide ((c:Int)≤57)=false:=decide_eq_false (by omega);(conv=>whnf);rw [d1];clear d1;by_cases hq00:97≤c
   ·skip
    have d1:decide ((c:Int)≥97)=true:=decide_eq_true (by omega);(conv=>whnf);rw [d1];clear d1;by_cases hq01:c≤102
    ·skip
     have d1:decide ((c:Int)≤102)=true:=decide_eq_true (by omega);(conv=>whnf);rw [d1];clear d1;(conv=>whnf);rw [w8 (x:=(c:Int) - 97) (by omega) (by omega)];(conv=>whnf);rw [w64 (x:=(c:Int) - 97) (by omega) (by omega)];(conv=>whnf);rw [w64 (x:=(c:Int) - 97+10) (by omega) (by omega)];(conv=>whnf);refine⟨?_,Agr.refl _ _⟩;have:CT c=some (c - 87):=by unfold CT;rw [if_neg (by omega),if_pos (by omega)]
     unfold Ic;rw [this];show Value.int .i64 ((c:Int) - 97+10)=Value.int .i64 ((c - 87:Nat):Int)
     congr 1;omega
    ·skip
     have d1:decide ((c:Int)≤102)=false:=decide_eq_false (by omega);(conv=>whnf);rw [d1];clear d1;(conv=>whnf);refine⟨?_,Agr.refl _ _⟩;have:CT c=none:=by unfold CT;rw [if_neg (by omega),if_neg (by omega)]
     unfold Ic;rw [this]
   ·skip
    have d1:decide ((c:Int)≥97)=false:=decide_eq_false (by omega);(conv=>whnf);rw [d1];clear d1;(conv=>whnf);refine⟨?_,Agr.refl _ _⟩;have:CT c=none:=by unfold CT;rw [if_neg (by omega),if_neg (by omega)]
    unfold Ic;rw [this]
 ·skip
  have d1:decide ((c:Int)≥48)=false:=decide_eq_false (by omega);(conv=>whnf);rw [d1];clear d1;have d1:decide ((c:Int)≥97)=false:=decide_eq_false (by omega);(conv=>whnf);rw [d1];clear d1;(conv=>whnf);refine⟨?_,Agr.refl _ _⟩;have:CT c=none:=by unfold CT;rw [if_neg (by omega),if_neg (by omega)]
  unfold Ic;rw [this]
def IY(t:ByteArray)(i:Nat)(inner:Bool):Value:=match Bk t (if inner then Bg else Da) i with
 | .inl e=>.tuple #[.int .u8 0,.int .i64 0,.int .i64 (e:Int)]
 | .inr (c,j)=>.tuple #[.int .u8 (c:Int),.int .i64 (j:Int),.int .i64 (-1)]
theorem Ec{t:ByteArray}{i e:Nat}{inner:Bool}(h:Bk t (if inner then Bg else Da) i= .inl e):Value.tuple #[.int .u8 0,.int .i64 0,.int .i64 (e:Int)]=IY t i inner:=by unfold IY;rw [h]
theorem Fw{t:ByteArray}{i c j:Nat}{inner:Bool}(h:Bk t (if inner then Bg else Da) i= .inr (c,j)):Value.tuple #[.int .u8 (c:Int),.int .i64 (j:Int),.int .i64 (-1)]=IY t i inner:=by unfold IY;rw [h]
theorem Eb{H:Aa}{t:ByteArray}{i:Nat}{inner:Bool}(ht:t.size≤1152921504606846976)(hi0:i≤t.size):Bv Tryz.prog 56 #[.string t,.int .i64 (i:Int),.bool inner] H (IY t i inner):=by
 refine Ao.of_vc Tryz.func56 rfl (Tryz.call56 _) ?_;by_cases hi:i<t.size
 case neg=>
  have h256:=Cb hi;have d1:decide ((i:Int)≥(t.size:Int))=true:=decide_eq_true (by omega);obtain rfl:i=t.size:=by omega
  (conv=>whnf);rw [d1];(conv=>whnf);exact⟨Ec (by unfold Bk;rw [h256,if_neg (by decide),if_pos (.inr (.inl (by decide)))]),Agr.refl _ _⟩
 obtain⟨b,hb1,hb2,hb3⟩:=CI hi;have d0:decide ((i:Int)≥(t.size:Int))=false:=decide_eq_false (by omega);(conv=>whnf);rw [d0];refine CS E7 rfl hb1 ?_;rw [←hb2];by_cases h92:bt t i=92
 case neg=>
  obtain⟨c,hc⟩:∃c,c=bt t i:=⟨_,rfl⟩;rw [←hc]at hb3 h92 ⊢;have dn:((c:Int) != (92:Int))=true:=by rw [bne_iff_ne];omega
  have ho:Bk t (if inner then Bg else Da) i=if c<32∨126<c∨spB (if inner then Bg else Da) c=true then .inl i else .inr (c,i+1):=by unfold Bk;rw [←hc,if_neg h92]
  (conv=>whnf);rw [dn];(conv=>whnf);by_cases hq00:c<32
  ·skip
   have d1:decide ((c:Int)<32)=true:=decide_eq_true (by omega);(conv=>whnf);rw [d1];clear d1;cases inner with
   | true | false=>
     (conv=>whnf);try (refine Al.run ?_)
     (conv=>whnf);exact⟨Ec (by rw [ho,if_pos (by omega)]),Agr.refl _ _⟩
  ·skip
   have d1:decide ((c:Int)<32)=false:=decide_eq_false (by omega);(conv=>whnf);rw [d1];clear d1;by_cases hq10:126<c
   ·skip
    have d1:decide ((c:Int)>126)=true:=decide_eq_true (by omega);(conv=>whnf);rw [d1];clear d1;cases inner with
    | true | false=>
      (conv=>whnf);try (refine Al.run ?_)
      (conv=>whnf);exact⟨Ec (by rw [ho,if_pos (by omega)]),Agr.refl _ _⟩
   ·skip
    have d1:decide ((c:Int)>126)=false:=decide_eq_false (by omega);(conv=>whnf);rw [d1];clear d1;cases inner with
    | true=>
      (conv=>whnf);try (refine Al.run ?_)
      refine Af (Dg hb3) fun G ga=>?_;cases hsp:spB Bg c with
      | true=>
        (conv=>whnf);exact⟨Ec (by rw [ho,if_pos (.inr (.inr hsp))]),ga⟩
      | false=>
        have hb:¬(c<32∨126<c∨spB (if true=true then Bg else Da) c=true):=by
         have:spB (if true=true then Bg else Da) c=false:=hsp;rw [this];simp;omega
        (conv=>whnf);rw [w64 (x:=(i:Int)+1) (by omega) (by omega)];(conv=>whnf);exact⟨Fw (j:=i+1) (by rw [ho,if_neg hb]),ga⟩
    | false=>
      (conv=>whnf);try (refine Al.run ?_)
      refine Af (KJ hb3) fun G ga=>?_;cases hsp:spB Da c with
      | true=>
        (conv=>whnf);exact⟨Ec (by rw [ho,if_pos (.inr (.inr hsp))]),ga⟩
      | false=>
        have hb:¬(c<32∨126<c∨spB (if false=true then Bg else Da) c=true):=by
         have:spB (if false=true then Bg else Da) c=false:=hsp;rw [this];simp;omega
        (conv=>whnf);rw [w64 (x:=(i:Int)+1) (by omega) (by omega)];(conv=>whnf);exact⟨Fw (j:=i+1) (by rw [ho,if_neg hb]),ga⟩
 have ho:Bk t (if inner then Bg else Da) i=F1 t (i+1):=by unfold Bk;rw [if_pos h92]
 rw [h92];(conv=>whnf);rw [w64 (x:=(i:Int)+1) (by omega) (by omega)];by_cases hi1:i+1<t.size
 case neg=>
  have h256:=Cb hi1;have d1:decide ((i:Int)+1≥(t.size:Int))=true:=decide_eq_true (by omega);have hsz:i+1=t.size:=by omega
  (conv=>whnf);rw [d1];(conv=>whnf);refine⟨?_,Agr.refl _ _⟩;have:=Ec (inner:=inner) (e:=i+1) (by rw [ho];unfold F1;rw [if_pos h256]);rw [hsz]at this;exact this
 obtain⟨b1,hc1,hc2,hc3⟩:=CI hi1;have d1:decide ((i:Int)+1≥(t.size:Int))=false:=decide_eq_false (by omega);(conv=>whnf);rw [d1];clear d1 d0;(conv=>whnf);rw [w64 (x:=(i:Int)+1) (by omega) (by omega)];refine CS (i:=i+1) E7 rfl hc1 ?_;rw [←hc2];obtain⟨c,hc⟩:∃c,c=bt t (i+1):=⟨_,rfl⟩;rw [←hc]at hc3 ⊢;by_cases h110:c=110
 ·have d1:((c:Int)==(110:Int))=true:=by rw [h110];rfl
  (conv=>whnf);rw [d1];(conv=>whnf);rw [w64 (x:=(i:Int)+2) (by omega) (by omega)];(conv=>whnf);exact⟨Fw (c:=10) (j:=i+2) (by rw [ho];unfold F1;rw [←hc,h110];rfl),Agr.refl _ _⟩
 have e110:((c:Int)==(110:Int))=false:=beq_eq_false_iff_ne.2 (by omega);(conv=>whnf);rw [e110];by_cases h114:c=114
 ·have d1:((c:Int)==(114:Int))=true:=by rw [h114];rfl
  (conv=>whnf);rw [d1];(conv=>whnf);rw [w64 (x:=(i:Int)+2) (by omega) (by omega)];(conv=>whnf);exact⟨Fw (c:=13) (j:=i+2) (by rw [ho];unfold F1;rw [←hc,h114];rfl),Agr.refl _ _⟩
 have e114:((c:Int)==(114:Int))=false:=beq_eq_false_iff_ne.2 (by omega);(conv=>whnf);rw [e114];by_cases h116:c=116
 ·have d1:((c:Int)==(116:Int))=true:=by rw [h116];rfl
  (conv=>whnf);rw [d1];(conv=>whnf);rw [w64 (x:=(i:Int)+2) (by omega) (by omega)];(conv=>whnf);exact⟨Fw (c:=9) (j:=i+2) (by rw [ho];unfold F1;rw [←hc,h116];rfl),Agr.refl _ _⟩
 have e116:((c:Int)==(116:Int))=false:=beq_eq_false_iff_ne.2 (by omega);(conv=>whnf);rw [e116];have hes:F1 t (i+1)=(if c=120 then match CT (bt t (i+1+1))with
   | none=>.inl (i+1+1)
   | some a=>match CT (bt t (i+1+2))with
     | none=>.inl (i+1+2)
     | some b=>.inr (16*a+b,i+1+3)
  else if c<32∨126<c∨(48≤c∧c≤57)∨(97≤c∧c≤122)∨(65≤c∧c≤90)then .inl (i+1)else .inr (c,i+1+1)):=by
  unfold F1;rw [←hc,if_neg (show c≠256 by omega),if_neg h110,if_neg h114,if_neg h116];rfl
 by_cases h120:c=120
 ·have d1:((c:Int)==(120:Int))=true:=by rw [h120];rfl
  rw [if_pos h120]at hes;(conv=>whnf);rw [d1];(conv=>whnf);refine AH.mk [11] (fun k:Nat=>[.int .i64 (k:Int)]) (fun k G=>2≤k∧k≤4∧(∀m,2≤m→m<k→(CT (bt t (i+m))).isSome=true)∧Agr (Old H) H G) (fun k _=>4 - k) ?_ ?_
  ·(conv=>whnf);exact⟨2,rfl,by omega,by omega,fun m h1 h2=>by omega,Agr.refl _ _⟩
  ·rintro k G junk ⟨hk2,hk4,hall,hag⟩;refine AQ.mk (fun hz=>?_) (fun hz=>?_)<;>simp only [decide_eq_true_eq,decide_eq_false_iff_not]at hz
   ·(conv=>whnf);try (refine Al.run ?_)
    (conv=>whnf);rw [w64 (x:=(i:Int)+(k:Int)) (by omega) (by omega)];have hbadk:CT (bt t (i+k))=none→Bk t (if inner then Bg else Da) i= .inl (i+k):=fun hn=>by
     rw [ho,hes];have:k=2∨k=3:=by omega
     rcases this with rfl | rfl
     ·have hn:CT (bt t (i+1+1))=none:=hn;rw [hn]
     ·have h2:=hall 2 (by omega) (by omega);obtain⟨a,ha⟩:=UU.1 h2;have ha:CT (bt t (i+1+1))=some a:=ha;have hn:CT (bt t (i+1+2))=none:=hn;rw [ha];show(match CT (bt t (i+1+2))with | none=>_ | some b=>_)=_;rw [hn]
    by_cases hik:i+k<t.size
    case neg=>
     have h256:=Cb hik;have d2:decide ((i:Int)+(k:Int)≥(t.size:Int))=true:=decide_eq_true (by omega);(conv=>whnf);rw [d2];(conv=>whnf);rw [w64 (x:=(i:Int)+(k:Int)) (by omega) (by omega)];(conv=>whnf);refine⟨?_,hag⟩;exact Ec (e:=i+k) (hbadk (by rw [h256];rfl))
    obtain⟨bk,hk1,hk2',hk3⟩:=CI hik;have d2:decide ((i:Int)+(k:Int)≥(t.size:Int))=false:=decide_eq_false (by omega);(conv=>whnf);rw [d2];(conv=>whnf);rw [w64 (x:=(i:Int)+(k:Int)) (by omega) (by omega)];refine CS (i:=i+k) E7 rfl hk1 ?_;rw [←hk2'];refine Af (N5 hk3) fun G2 ga2=>?_;have hag2:=hag.trans (ga2.mono fun k hk=>A0 hag hk);cases hx:CT (bt t (i+k))with
    | none=>
      have d3:decide (Ic (bt t (i+k))<0)=true:=by unfold Ic;rw [hx];rfl
      (conv=>whnf);rw [d3];(conv=>whnf);rw [w64 (x:=(i:Int)+(k:Int)) (by omega) (by omega)];(conv=>whnf);exact⟨Ec (e:=i+k) (hbadk hx),hag2⟩
    | some v=>
      have d3:decide (Ic (bt t (i+k))<0)=false:=by unfold Ic;rw [hx];show decide ((v:Int)<0)=false;exact decide_eq_false (by omega)
      (conv=>whnf);rw [d3];(conv=>whnf);rw [w64 (x:=(k:Int)+1) (by omega) (by omega)];refine⟨rfl,k+1,rfl,⟨by omega,by omega,fun m h1 h2=>?_,hag2⟩,by omega⟩;rcases Nat.lt_succ_iff_lt_or_eq.1 h2 with h | rfl
      ·exact hall m h1 h
      ·rw [hx];rfl
   ·obtain rfl:k=4:=by omega
    obtain⟨a,ha⟩:=UU.1 (hall 2 (by omega) (by omega));obtain⟨b,hb⟩:=UU.1 (hall 3 (by omega) (by omega));have hal:=FP ha;have hbl:=FP hb;have h2l:i+2<t.size:=CX fun e=>by rw [e]at ha;cases ha
    have h3l:i+3<t.size:=CX fun e=>by rw [e]at hb;cases hb
    obtain⟨x2,p1,p2,p3⟩:=CI h2l;obtain⟨x3,q1,q2,q3⟩:=CI h3l;have ea:Ic (bt t (i+2))=(a:Int):=by unfold Ic;rw [ha]
    have eb:Ic (bt t (i+3))=(b:Int):=by unfold Ic;rw [hb]
    refine As.held (Old G) 18 (sq [0,1,2,3,6,7,8,9,13,14] (.f 4 (sq [5] (.f 10 (sq [11,12,15,16,17] .e))))) rfl (by kernel_rfl) ?_;(conv=>whnf);rw [w64 (x:=(i:Int)+2) (by omega) (by omega)];refine CS (i:=i+2) E7 rfl p1 ?_;rw [←p2];(conv=>whnf);rw [w64 (x:=(i:Int)+3) (by omega) (by omega)];refine CS (i:=i+3) E7 rfl q1 ?_;rw [←q2];(conv=>whnf);rw [w64 (x:=(i:Int)+4) (by omega) (by omega)];refine Af (N5 p3) fun G2 ga2=>(⟨ga2,?_⟩);rw [ea];(conv=>whnf);rw [w64 (x:=16*(a:Int)) (by omega) (by omega)];refine Af (N5 q3) fun G3 ga3=>?_;have ga4:=ga2.trans (ga3.mono fun k hk=>A0 ga2 hk);refine⟨ga4,?_⟩;rw [eb];(conv=>whnf);rw [w64 (x:=16*(a:Int)+(b:Int)) (by omega) (by omega)];(conv=>whnf);rw [w8 (x:=16*(a:Int)+(b:Int)) (by omega) (by omega)];(conv=>whnf);refine⟨?_,hag.trans (ga4.mono fun k hk=>A0 hag hk)⟩;have:=Fw (t:=t) (i:=i) (inner:=inner) (c:=16*a+b) (j:=i+4) (by
     rw [ho,hes];have ha:CT (bt t (i+1+1))=some a:=ha;have hb:CT (bt t (i+1+2))=some b:=hb;rw [ha];show(match CT (bt t (i+1+2))with | none=>_ | some b=>_)=_;rw [hb])
    rw [←this];rfl
 have d1:((c:Int)==(120:Int))=false:=beq_eq_false_iff_ne.2 (by omega);rw [if_neg h120]at hes;(conv=>whnf);rw [d1];clear d1;(conv=>whnf);by_cases hq00:97≤c
 ·skip
  have d1:decide ((c:Int)≥97)=true:=decide_eq_true (by omega);(conv=>whnf);rw [d1];clear d1;by_cases hq01:c≤122
  ·skip
   have d1:decide ((c:Int)≤122)=true:=decide_eq_true (by omega);(conv=>whnf);rw [d1];clear d1;have d1:decide ((c:Int)<32)=false:=decide_eq_false (by omega);(conv=>whnf);rw [d1];clear d1;have d1:decide ((c:Int)>126)=false:=decide_eq_false (by omega);(conv=>whnf);rw [d1];clear d1;(conv=>whnf);rw [w64 (x:=(i:Int)+1) (by omega) (by omega)];(conv=>whnf);exact⟨Ec (e:=i+1) (by rw [ho,hes,if_pos (by omega)]),Agr.refl _ _⟩
  ·skip
   have d1:decide ((c:Int)≤122)=false:=decide_eq_false (by omega);(conv=>whnf);rw [d1];clear d1;have d1:decide ((c:Int)≥65)=true:=decide_eq_true (by omega);(conv=>whnf);rw [d1];clear d1;have d1:decide ((c:Int)≤90)=false:=decide_eq_false (by omega);(conv=>whnf);rw [d1];clear d1;have d1:decide ((c:Int)≥48)=true:=decide_eq_true (by omega);(conv=>whnf);rw [d1];clear d1;have d1:decide ((c:Int)≤57)=false:=decide_eq_false (by omega);(conv=>whnf);rw [d1];clear d1;have d1:decide ((c:Int)<32)=false:=decide_eq_false (by omega);(conv=>whnf);rw [d1];clear d1;by_cases hq10:126<c
   ·skip
    have d1:decide ((c:Int)>126)=true:=decide_eq_true (by omega);(conv=>whnf);rw [d1];clear d1;(conv=>whnf);rw [w64 (x:=(i:Int)+1) (by omega) (by omega)];(conv=>whnf);exact⟨Ec (e:=i+1) (by rw [ho,hes,if_pos (by omega)]),Agr.refl _ _⟩
   ·skip
    have d1:decide ((c:Int)>126)=false:=decide_eq_false (by omega);(conv=>whnf);rw [d1];clear d1;(conv=>whnf);rw [w64 (x:=(i:Int)+2) (by omega) (by omega)];(conv=>whnf);exact⟨Fw (j:=i+2) (by rw [ho,hes,if_neg (by omega)]),Agr.refl _ _⟩
 ·skip
  have d1:decide ((c:Int)≥97)=false:=decide_eq_false (by omega);(conv=>whnf);rw [d1];clear d1;by_cases hq10:65≤c
  ·skip
   have d1:decide ((c:Int)≥65)=true:=decide_eq_true (by omega);(conv=>whnf);rw [d1];clear d1;by_cases hq11:c≤90
   ·skip
    have d1:decide ((c:Int)≤90)=true:=decide_eq_true (by omega);(conv=>whnf);rw [d1];clear d1;have d1:decide ((c:Int)<32)=false:=decide_eq_false (by omega);(conv=>whnf);rw [d1];clear d1;have d1:decide ((c:Int)>126)=false:=decide_eq_false (by omega);(conv=>whnf);rw [d1];clear d1;(conv=>whnf);rw [w64 (x:=(i:Int)+1) (by omega) (by omega)];(conv=>whnf);exact⟨Ec (e:=i+1) (by rw [ho,hes,if_pos (by omega)]),Agr.refl _ _⟩
   ·skip
    have d1:decide ((c:Int)≤90)=false:=decide_eq_false (by omega);(conv=>whnf);rw [d1];clear d1;have d1:decide ((c:Int)≥48)=true:=decide_eq_true (by omega);(conv=>whnf);rw [d1];clear d1;have d1:decide ((c:Int)≤57)=false:=decide_eq_false (by omega);(conv=>whnf);rw [d1];clear d1;have d1:decide ((c:Int)<32)=false:=decide_eq_false (by omega);(conv=>whnf);rw [d1];clear d1;have d1:decide ((c:Int)>126)=false:=decide_eq_false (by omega);(conv=>whnf);rw [d1];clear d1;(conv=>whnf);rw [w64 (x:=(i:Int)+2) (by omega) (by omega)];(conv=>whnf);exact⟨Fw (j:=i+2) (by rw [ho,hes,if_neg (by omega)]),Agr.refl _ _⟩
  ·skip
   have d1:decide ((c:Int)≥65)=false:=decide_eq_false (by omega);(conv=>whnf);rw [d1];clear d1;by_cases hq20:48≤c
   ·skip
    have d1:decide ((c:Int)≥48)=true:=decide_eq_true (by omega);(conv=>whnf);rw [d1];clear d1;by_cases hq21:c≤57
    ·skip
     have d1:decide ((c:Int)≤57)=true:=decide_eq_true (by omega);(conv=>whnf);rw [d1];clear d1;have d1:decide ((c:Int)<32)=false:=decide_eq_false (by omega);(conv=>whnf);rw [d1];clear d1;have d1:decide ((c:Int)>126)=false:=decide_eq_false (by omega);(conv=>whnf);rw [d1];clear d1;(conv=>whnf);rw [w64 (x:=(i:Int)+1) (by omega) (by omega)];(conv=>whnf);exact⟨Ec (e:=i+1) (by rw [ho,hes,if_pos (by omega)]),Agr.refl _ _⟩
    ·skip
     have d1:decide ((c:Int)≤57)=false:=decide_eq_false (by omega);(conv=>whnf);rw [d1];clear d1;have d1:decide ((c:Int)<32)=false:=decide_eq_false (by omega);(conv=>whnf);rw [d1];clear d1;have d1:decide ((c:Int)>126)=false:=decide_eq_false (by omega);(conv=>whnf);rw [d1];clear d1;(conv=>whnf);rw [w64 (x:=(i:Int)+2) (by omega) (by omega)];(conv=>whnf);exact⟨Fw (j:=i+2) (by rw [ho,hes,if_neg (by omega)]),Agr.refl _ _⟩
   ·skip
    have d1:decide ((c:Int)≥48)=false:=decide_eq_false (by omega);(conv=>whnf);rw [d1];clear d1;by_cases hq00:c<32
    ·skip
     have d1:decide ((c:Int)<32)=true:=decide_eq_true (by omega);(conv=>whnf);rw [d1];clear d1;(conv=>whnf);rw [w64 (x:=(i:Int)+1) (by omega) (by omega)];(conv=>whnf);exact⟨Ec (e:=i+1) (by rw [ho,hes,if_pos (by omega)]),Agr.refl _ _⟩
    ·skip
     have d1:decide ((c:Int)<32)=false:=decide_eq_false (by omega);(conv=>whnf);rw [d1];clear d1;have d1:decide ((c:Int)>126)=false:=decide_eq_false (by omega);(conv=>whnf);rw [d1];clear d1;(conv=>whnf);rw [w64 (x:=(i:Int)+2) (by omega) (by omega)];(conv=>whnf);exact⟨Fw (j:=i+2) (by rw [ho,hes,if_neg (by omega)]),Agr.refl _ _⟩
theorem J8(x:BitVec 256):Ar x=BW fun b=>x.getLsbD b:=by
 unfold Ar DV BW;refine List.map_congr_left fun b hb=>?_;rw [decide_eq_true (List.mem_range.1 hb),UP]
theorem Qb{f:Nat→Bool}{x:BitVec 256}(h:∀b,b<256→f b=x.getLsbD b):BW f=Ar x:=by rw [J8];exact Dw h
theorem I6(x y:BitVec 256)(b:Nat):(x ||| y).getLsbD b=(x.getLsbD b|| y.getLsbD b):=BitVec.getLsbD_or
theorem Ov(x:BitVec 256)(b:Nat)(hb:b<256):(~~~x).getLsbD b= !x.getLsbD b:=by rw [BitVec.getLsbD_not,decide_eq_true hb,UP]
theorem MU(b:Nat):(0#256).getLsbD b=false:=BitVec.getLsbD_zero
theorem EB(f:Nat→Bool){k:Nat}(h:k<256)(v:Bool):(BW f).set k (.bool v)=BW fun b=>if b=k then v else f b:=by
 apply List.ext_getElem?;intro j;by_cases hj:j<256
 ·rw [Gw _ hj];by_cases hjk:k=j
  ·subst hjk;rw [List.getElem?_set_self (by rw [Cp];exact h),if_pos rfl]
  ·rw [List.getElem?_set_ne hjk,Gw _ hj,if_neg (Ne.symm hjk)]
 ·rw [Vd (by rw [List.length_set,Cp];omega),Vd (by rw [Cp];omega)]
def UA(nt:Bool)(M:Sum Nat (BitVec 256×Nat)):Sum Nat (BitVec 256×Nat):=match M with
 | .inl e=>.inl e
 | .inr (x,k)=>.inr (if nt then ~~~x else x,k)
def Fe:Value:=.agg (Ar 0#256).toArray
theorem Dz:(Tryz.prog.info? 92).bind (·.zero)=some Fe:=by kernel_rfl
def Dn(t:ByteArray)(i:Nat)(v:Value):Prop:=match Bm t i with
 | .inl e=>v= .tuple #[Fe,.int .i64 0,.int .i64 10,.int .i64 (e:Int)]
 | .inr (x,j)=>v= .tuple #[.agg (Ar x).toArray,.int .i64 (j:Int),.int .i64 0,.int .i64 0]
def rrP(q4 q8:Nat)(x:BitVec 256):List Pc:=[pB 92 q4 (Ar 0#256),pB 92 q8 (Ar x)]
def rrF(q4 q8:Nat)(f:Nat→Bool):List Pc:=[pB 92 q4 (Ar 0#256),pB 92 q8 (BW f)]
theorem Du{q4 q8:Nat}{f:Nat→Bool}{x:BitVec 256}(h:∀b,b<256→f b=x.getLsbD b):rrF q4 q8 f=rrP q4 q8 x:=by unfold rrF rrP;rw [Qb h]
structure T6(H:Aa)(t:ByteArray)(q4 q8:Nat)(M:Sum Nat (BitVec 256×Nat))(y:Nat×Nat×BitVec 256)(G:Aa):Prop where
 le:y.1≤t.size
 fuel:t.size<y.2.1+y.1
 eq:C9 t y.2.1 y.1 y.2.2=M
 st:St H G (rrP q4 q8 y.2.2)
theorem BL{H:Aa}{b:Nat}{x:BitVec 256}(h:Blk H b 92 (Ar x)):Bo H b 0 (Ar x):=h.cells (fun j v hv=>by rw [Va];exact hv)
theorem agD(x:BitVec 256):E9 Tryz.prog 92 (Ar x).length:=by rw [Ap];exact Kf
theorem szD(x:BitVec 256):(Tryz.prog.info? 92).map (·.size)=some (Ar x).length:=by rw [Ap];rfl
theorem onD(x:BitVec 256):(Ar x).all (·.oneCell')=true:=GR x 256
theorem Pj{H:Aa}{t:ByteArray}{i:Nat}(ht:t.size≤1152921504606846976)(hi:i<t.size):
  Ao Tryz.prog 34 #[.string t,.int .i64 (i:Int)] H fun v H'=>Agr (Old H) H H'∧Dn t i v:=by
 refine Ao.of_vcL Tryz.func34 rfl (Tryz.call34 _) ?_;obtain⟨b,hb1,hb2,hb3⟩:=CI hi;refine Ag Fe (Ar 0#256) Dz rfl ?_;intro q4 H1 hq1 hs1 hb1' ha1;have st1:=(St.nil H).box hq1 hs1 hb1' ha1;refine Ag Fe (Ar 0#256) Dz rfl ?_;intro q8 H2 hq2 hs2 hb2' ha2;have st2:St H H2 (rrP q4 q8 0#256):=st1.box hq2 hs2 hb2' ha2;have d1:decide ((i:Int)<0)=false:=decide_eq_false (by omega);have d2:decide ((i:Int)≥(t.size:Int))=false:=decide_eq_false (by omega);(conv=>whnf);rw [d1];(conv=>whnf);rw [d2];refine CS E7 rfl hb1 ?_;rw [←hb2];by_cases h46:bt t i=46
 ·have d3:((bt t i:Int)==(46:Int))=true:=by rw [h46];rfl
  (conv=>whnf);rw [d3];(conv=>whnf);refine AH.mk [9] (fun k:Nat=>[.int .i64 (k:Int)]) (fun k G=>k≤256∧St H G (rrF q4 q8 fun b=>decide (b<k)&& !decide (b=10))) (fun k _=>256 - k) ?_ ?_
  ·(conv=>whnf);exact⟨0,rfl,by omega,by rw [Du (x:=0#256) (fun b hb=>by rw [MU];simp)];exact st2⟩
  ·rintro k G junk ⟨hk,stg⟩;refine AQ.mk (fun hz=>?_) (fun hz=>?_)<;>simp only [decide_eq_true_eq,decide_eq_false_iff_not]at hz
   ·(conv=>whnf);try (refine Al.run ?_)
    have d4:((k:Int) != (10:Int))= !decide (k=10):=by
     by_cases h:k=10
     ·subst h;rfl
     ·rw [decide_eq_false h];rw [Bool.not_false,bne_iff_ne];omega
    (conv=>whnf);rw [d4];refine ixa DQ (by omega) (by omega) ?_;refine AG stg 1 ct4 rfl (by rw [Cp];omega) rfl fun G2 stg2=>?_;have e0:0+(k:Int).toNat*1=k:=by omega
    rw [e0]at stg2;have st3:St H G2 (rrF q4 q8 fun b=>decide (b<k+1)&& !decide (b=10)):=by
     have e2:(BW fun b=>decide (b<k)&& !decide (b=10)).set k (.bool (!decide (k=10)))=BW fun b=>decide (b<k+1)&& !decide (b=10):=by
      rw [EB _ (by omega)];refine Dw fun b hb=>?_;by_cases h:b=k
      ·subst h;rw [if_pos rfl,decide_eq_true (show b<b+1 by omega),UP]
      ·rw [if_neg h]
       congr 1
       exact decide_eq_decide.2 (by omega)
     have:=stg2;unfold rrF at this ⊢;simp only [UM,UN]at this;rwa [e2]at this
    (conv=>whnf);rw [w64 (x:=(k:Int)+1) (by omega) (by omega)];exact⟨rfl,k+1,rfl,⟨by omega,st3⟩,by omega⟩
   ·obtain rfl:k=256:=by omega
    have hx:∀b,b<256→(decide (b<256)&& !decide (b=10))=(~~~(AK 10 10)).getLsbD b:=fun b hb=>by
     rw [Ov _ _ hb,Di _ _ _ hb,decide_eq_true hb,UP]
     congr 1
     by_cases h:b=10
     ·subst h;rfl
     ·rw [decide_eq_false h];by_cases h2:10≤b
      ·rw [decide_eq_true h2,decide_eq_false (show¬b≤10 by omega)];rfl
      ·rw [decide_eq_false h2];rfl
    rw [Du hx]at stg;refine ldN (cs:=Ar (~~~(AK 10 10))) (agD _) (BL (stg.blk 1 rfl)) trivial ?_;(conv=>whnf);rw [w64 (x:=(i:Int)+1) (by omega) (by omega)];refine Ay (cs:=Ar (~~~(AK 10 10))) stg 0 (szD _) rfl (by simp [Ap]) (onD _) fun Z1 sz1=>?_;have bz1:Blk Z1 q4 92 (Ar (~~~(AK 10 10))):=by
     have:=sz1.blk 0 rfl;rwa [A8 (by simp [Ap])]at this
    refine ldN (cs:=Ar (~~~(AK 10 10))) (agD _) (BL bz1) trivial ?_;exact⟨sz1.old,by unfold Dn Bm;rw [if_pos h46];rfl⟩
 have d3:((bt t i:Int)==(46:Int))=false:=beq_eq_false_iff_ne.2 (by omega);(conv=>whnf);rw [d3];refine CS E7 rfl hb1 ?_;rw [←hb2];by_cases h91:bt t i=91
 case neg=>
  have d4:((bt t i:Int) != (91:Int))=true:=by rw [bne_iff_ne];omega
  have hrs:Bm t i=match Bk t Da i with | .inl e=>.inl e | .inr (b,k)=>.inr (AK b b,k):=by unfold Bm;rw [if_neg h46,if_neg h91];rfl
  (conv=>whnf);rw [d4];refine Af (Eb (i:=i) (inner:=false) ht (by omega)) fun H3 ha3=>?_;have st3:=st2.call ha3;unfold IY;simp only [UY,if_false];cases ho:Bk t Da i with
  | inl e=>
    rw [ho]at hrs;(conv=>whnf);refine ldN (cs:=Ar 0#256) (agD _) (BL (st3.blk 1 rfl)) trivial (Ay (cs:=Ar 0#256) st3 0 (szD _) rfl (by simp [Ap]) (onD _) fun Z1 sz1=>?_);have bz1:Blk Z1 q4 92 (Ar 0#256):=by
     have:=sz1.blk 0 rfl;rwa [A8 (by simp [Ap])]at this
    refine ldN (cs:=Ar 0#256) (agD _) (BL bz1) trivial ?_;exact⟨sz1.old,by unfold Dn;rw [hrs];rfl⟩
  | inr p=>
    obtain⟨c,j⟩:=p;rw [ho]at hrs;have hok:=CE ho;(conv=>whnf);rw [w64 (x:=(c:Int)) (by omega) (by omega)];refine ixa DQ (by omega) (by omega) ?_;refine AG st3 1 ct4 rfl (by rw [Ap];omega) rfl fun H4 st4=>?_;have e0:0+(c:Int).toNat*1=c:=by omega
    rw [e0]at st4;have st5:St H H4 (rrP q4 q8 (AK c c)):=by
     have e2:(Ar 0#256).set c (.bool true)=Ar (AK c c):=by
      rw [J8,J8,EB _ (by omega)];refine Dw fun b hb=>?_;rw [Di _ _ _ hb,MU];by_cases h:b=c
      ·subst h;rw [if_pos rfl,decide_eq_true (UL _)];rfl
      ·rw [if_neg h];by_cases h2:c≤b
       ·rw [decide_eq_true h2,decide_eq_false (show¬b≤c by omega)];rfl
       ·rw [decide_eq_false h2];rfl
     have:=st4;unfold rrP at this ⊢;simp only [UM,UN]at this;rwa [e2]at this
    refine ldN (cs:=Ar (AK c c)) (agD _) (BL (st5.blk 1 rfl)) trivial (Ay (cs:=Ar (AK c c)) st5 0 (szD _) rfl (by simp [Ap]) (onD _) fun Z1 sz1=>?_);have bz1:Blk Z1 q4 92 (Ar (AK c c)):=by
     have:=sz1.blk 0 rfl;rwa [A8 (by simp [Ap])]at this
    refine ldN (cs:=Ar (AK c c)) (agD _) (BL bz1) trivial ?_;exact⟨sz1.old,by unfold Dn;rw [hrs];rfl⟩
 have d4:((bt t i:Int) != (91:Int))=false:=by rw [h91];rfl
 (conv=>whnf);rw [d4];(conv=>whnf);rw [w64 (x:=(i:Int)+1) (by omega) (by omega)];have hrs:Bm t i=Gp t (i+1):=by unfold Bm;rw [if_neg h46,if_pos h91]
 obtain⟨nt,hnt⟩:∃nt:Bool,nt=decide (bt t (i+1)=94):=⟨_,rfl⟩;have hbr:Gp t (i+1)=UA nt (C9 t (t.size+1) (if nt then i+1+1 else i+1) 0#256):=by
  unfold Gp;rw [hnt];by_cases h:bt t (i+1)=94
  ·simp only [h,if_true,decide_true];cases C9 t (t.size+1) (i+1+1) 0#256<;>rfl
  ·simp only [h,if_false,decide_false,UY];cases C9 t (t.size+1) (i+1) 0#256<;>rfl
 obtain⟨M,hM⟩:∃M,M=C9 t (t.size+1) (if nt then i+1+1 else i+1) 0#256:=⟨_,rfl⟩;rw [←hM]at hbr;rw [hbr]at hrs;have hle:(if nt then i+1+1 else i+1)≤t.size:=by
  cases hn:nt with
  | false=>exact hi
  | true=>
    rw [hn]at hnt;have h94:=of_decide_eq_true hnt.symm;exact CX (by omega)
 by_cases hi1:i+1<t.size
 case neg=>
  have h256:=Cb hi1;have hn0:nt=false:=by rw [hnt,decide_eq_false];omega
  have d5:decide ((i:Int)+1<(t.size:Int))=false:=decide_eq_false (by omega);(conv=>whnf);rw [d5];(conv=>whnf);refine Al.cut [13] (fun _:Unit=>[.int .i64 ((if nt then i+1+1 else i+1:Nat):Int)]) (fun _ G=>St H G (rrP q4 q8 0#256)) ?_ ?_
  ·(conv=>whnf);exact⟨rfl,(),by rw [hn0];rfl,st2⟩
  ·rintro⟨⟩ G junk0 stg;(conv=>whnf);refine AH.mk [13] (fun y:Nat×Nat×BitVec 256=>[.int .i64 (y.1:Int)]) (fun y G=>T6 H t q4 q8 M y G) (fun y _=>t.size - y.1) ?_ ?_
   ·(conv=>whnf);exact⟨((if nt then i+1+1 else i+1),t.size+1,0#256),rfl,⟨hle,by simp only;omega,hM.symm,stg⟩⟩
   ·rintro⟨j,n,x⟩ J0 junk1 ⟨hj,hfu,heq,stl⟩;simp only at hj hfu heq stl;obtain⟨n,rfl⟩:∃m,n=m+1:=⟨n - 1,by omega⟩;by_cases hjl:j<t.size
    case neg=>
     have hj0:=Cb hjl;have d7:decide ((j:Int)≥(t.size:Int))=true:=decide_eq_true (by omega);have ho:Bk t Bg j= .inl j:=by unfold Bk;rw [hj0,if_neg (by decide),if_pos (.inr (.inl (by decide)))]
     have hmn:M= .inl j:=by rw [←heq,C9,if_neg (by omega),ho]
     rw [hmn]at hrs;(conv=>whnf);rw [d7];(conv=>whnf);try (refine Al.run ?_)
     refine Af (Eb (i:=j) (inner:=true) ht hj) fun J1 ja1=>?_;have stl1:=stl.call ja1;unfold IY;simp only [if_true];rw [ho];refine CR DQ Fe Dz (Ar 0#256) rfl (Ay (cs:=Ar 0#256) stl1 0 (szD _) rfl (by simp [Ap]) (onD _) fun Z1 sz1=>?_);have bz1:Blk Z1 q4 92 (Ar 0#256):=by
      have:=sz1.blk 0 rfl;rwa [A8 (by simp [Ap])]at this
     refine ldN (cs:=Ar 0#256) (agD _) (BL bz1) trivial ?_;exact⟨sz1.old,by unfold Dn;rw [hrs];rfl⟩
    obtain⟨b5,hb5,hb6,hb7⟩:=CI hjl;have d7:decide ((j:Int)≥(t.size:Int))=false:=decide_eq_false (by omega);(conv=>whnf);rw [d7];refine CS (i:=j) E7 rfl hb5 ?_;rw [←hb6];by_cases h93:bt t j=93
    ·have d8:((bt t j:Int) != (93:Int))=false:=by rw [h93];rfl
     have hmn:M= .inr (x,j+1):=by rw [←heq,C9,if_pos h93]
     rw [hmn]at hrs;(conv=>whnf);rw [d8];(conv=>whnf);have hn:=hn0;(conv=>whnf);try (refine Al.run ?_)
     refine ldN (cs:=Ar x) (agD _) (BL (stl.blk 1 rfl)) trivial ?_;(conv=>whnf);rw [w64 (x:=(j:Int)+1) (by omega) (by omega)];refine Ay (cs:=Ar x) stl 0 (szD _) rfl (by simp [Ap]) (onD _) fun Z1 sz1=>?_;have bz1:Blk Z1 q4 92 (Ar x):=by
      have:=sz1.blk 0 rfl;rwa [A8 (by simp [Ap])]at this
     refine ldN (cs:=Ar x) (agD _) (BL bz1) trivial ?_;exact⟨sz1.old,by unfold Dn;rw [hrs,hn];rfl⟩
    have d8:((bt t j:Int) != (93:Int))=true:=by rw [bne_iff_ne];omega
    (conv=>whnf);rw [d8];(conv=>whnf);try (refine Al.run ?_)
    refine Af (Eb (i:=j) (inner:=true) ht hj) fun J1 ja1=>?_;have stl1:=stl.call ja1;unfold IY;simp only [if_true];cases ho:Bk t Bg j with
    | inl e=>
      have hmn:M= .inl e:=by rw [←heq,C9,if_neg h93,ho]
      rw [hmn]at hrs;refine CR DQ Fe Dz (Ar 0#256) rfl (Ay (cs:=Ar 0#256) stl1 0 (szD _) rfl (by simp [Ap]) (onD _) fun Z1 sz1=>?_);have bz1:Blk Z1 q4 92 (Ar 0#256):=by
       have:=sz1.blk 0 rfl;rwa [A8 (by simp [Ap])]at this
      refine ldN (cs:=Ar 0#256) (agD _) (BL bz1) trivial ?_;exact⟨sz1.old,by unfold Dn;rw [hrs];rfl⟩
    | inr p=>
      obtain⟨lo,j1⟩:=p;have hok:=CE ho;have hmn:M=F0 t lo j1 x (C9 t n):=by rw [←heq,C9,if_neg h93,ho]
      unfold F0 at hmn;by_cases hj1:j1<t.size
      case neg=>
       have h256:=Cb hj1;have d9:decide ((j1:Int)<(t.size:Int))=false:=decide_eq_false (by omega);rw [if_neg (by omega)]at hmn;(conv=>whnf);try (refine Al.run ?_)
       (conv=>whnf);rw [d9];(conv=>whnf);rw [w64 (x:=(lo:Int)) (by omega) (by omega)];(conv=>whnf);refine AH.mk [20] (fun b:Nat=>[.int .i64 (b:Int)]) (fun b G=>lo≤b∧b≤lo+1∧St H G (rrF q4 q8 fun a=>x.getLsbD a|| (decide (lo≤a)&&decide (a<b)))) (fun b _=>lo+1 - b) ?_ ?_
       ·(conv=>whnf);refine⟨lo,rfl,UL _,by omega,?_⟩;rw [Du (x:=x) (fun a ha=>by
         by_cases h:lo≤a
         ·rw [decide_eq_false (show¬a<lo by omega),US,UO]
         ·rw [decide_eq_false h,UT,UO])]
        exact stl1
       ·rintro b I0 junk5 ⟨hb1,hb2,sti⟩;(conv=>whnf);rw [w64 (x:=(lo:Int)) (by omega) (by omega)];refine AQ.mk (fun hz=>?_) (fun hz=>?_)<;>simp only [decide_eq_true_eq,decide_eq_false_iff_not]at hz
        ·(conv=>whnf);try (refine Al.run ?_)
         refine ixa DQ (by omega) (by omega) ?_;refine AG sti 1 ct4 rfl (by rw [Cp];omega) rfl fun I2 sti2=>?_;have e0:0+(b:Int).toNat*1=b:=by omega
         rw [e0]at sti2;have sti3:St H I2 (rrF q4 q8 fun a=>x.getLsbD a|| (decide (lo≤a)&&decide (a<b+1))):=by
          have e2:(BW fun a=>x.getLsbD a|| (decide (lo≤a)&&decide (a<b))).set b (.bool true)=BW fun a=>x.getLsbD a|| (decide (lo≤a)&&decide (a<b+1)):=by
           rw [EB _ (by omega)];refine Dw fun a ha=>?_;by_cases h:a=b
           ·subst h;rw [if_pos rfl,decide_eq_true (show lo≤a by omega),decide_eq_true (show a<a+1 by omega),UP,UV]
           ·rw [if_neg h]
            congr 2
            exact decide_eq_decide.2 (by omega)
          have:=sti2;unfold rrF at this ⊢;simp only [UM,UN]at this;rwa [e2]at this
         (conv=>whnf);rw [w64 (x:=(b:Int)+1) (by omega) (by omega)];exact⟨rfl,b+1,rfl,⟨by omega,by omega,sti3⟩,by omega⟩
        ·obtain rfl:b=lo+1:=by omega
         rw [Du (x:=x ||| AK lo lo) (fun a ha=>by
          rw [I6,Di _ _ _ ha]
          congr 2
          exact decide_eq_decide.2 (by omega))]at sti
         (conv=>whnf);exact⟨rfl,(j1,n,x ||| AK lo lo),rfl,⟨by simp only;omega,by simp only;omega,hmn.symm,sti⟩,by simp only;omega⟩
      obtain⟨b8,hb8,hb9,hb10⟩:=CI hj1;have d9:decide ((j1:Int)<(t.size:Int))=true:=decide_eq_true (by omega);(conv=>whnf);try (refine Al.run ?_)
      (conv=>whnf);rw [d9];refine CS (i:=j1) E7 rfl hb8 ?_;rw [←hb9];by_cases h45:bt t j1=45
      case neg=>
       have d10:((bt t j1:Int)==(45:Int))=false:=beq_eq_false_iff_ne.2 (by omega);rw [if_neg h45]at hmn;(conv=>whnf);rw [d10];(conv=>whnf);rw [w64 (x:=(lo:Int)) (by omega) (by omega)];(conv=>whnf);refine AH.mk [20] (fun b:Nat=>[.int .i64 (b:Int)]) (fun b G=>lo≤b∧b≤lo+1∧St H G (rrF q4 q8 fun a=>x.getLsbD a|| (decide (lo≤a)&&decide (a<b)))) (fun b _=>lo+1 - b) ?_ ?_
       ·(conv=>whnf);refine⟨lo,rfl,UL _,by omega,?_⟩;rw [Du (x:=x) (fun a ha=>by
         by_cases h:lo≤a
         ·rw [decide_eq_false (show¬a<lo by omega),US,UO]
         ·rw [decide_eq_false h,UT,UO])]
        exact stl1
       ·rintro b I0 junk5 ⟨hb1,hb2,sti⟩;(conv=>whnf);rw [w64 (x:=(lo:Int)) (by omega) (by omega)];refine AQ.mk (fun hz=>?_) (fun hz=>?_)<;>simp only [decide_eq_true_eq,decide_eq_false_iff_not]at hz
        ·(conv=>whnf);try (refine Al.run ?_)
         refine ixa DQ (by omega) (by omega) ?_;refine AG sti 1 ct4 rfl (by rw [Cp];omega) rfl fun I2 sti2=>?_;have e0:0+(b:Int).toNat*1=b:=by omega
         rw [e0]at sti2;have sti3:St H I2 (rrF q4 q8 fun a=>x.getLsbD a|| (decide (lo≤a)&&decide (a<b+1))):=by
          have e2:(BW fun a=>x.getLsbD a|| (decide (lo≤a)&&decide (a<b))).set b (.bool true)=BW fun a=>x.getLsbD a|| (decide (lo≤a)&&decide (a<b+1)):=by
           rw [EB _ (by omega)];refine Dw fun a ha=>?_;by_cases h:a=b
           ·subst h;rw [if_pos rfl,decide_eq_true (show lo≤a by omega),decide_eq_true (show a<a+1 by omega),UP,UV]
           ·rw [if_neg h]
            congr 2
            exact decide_eq_decide.2 (by omega)
          have:=sti2;unfold rrF at this ⊢;simp only [UM,UN]at this;rwa [e2]at this
         (conv=>whnf);rw [w64 (x:=(b:Int)+1) (by omega) (by omega)];exact⟨rfl,b+1,rfl,⟨by omega,by omega,sti3⟩,by omega⟩
        ·obtain rfl:b=lo+1:=by omega
         rw [Du (x:=x ||| AK lo lo) (fun a ha=>by
          rw [I6,Di _ _ _ ha]
          congr 2
          exact decide_eq_decide.2 (by omega))]at sti
         (conv=>whnf);exact⟨rfl,(j1,n,x ||| AK lo lo),rfl,⟨by simp only;omega,by simp only;omega,hmn.symm,sti⟩,by simp only;omega⟩
      have d10:((bt t j1:Int)==(45:Int))=true:=by rw [h45];rfl
      rw [if_pos h45]at hmn;(conv=>whnf);rw [d10];(conv=>whnf);rw [w64 (x:=(j1:Int)+1) (by omega) (by omega)];refine Af (Eb (i:=j1+1) (inner:=true) ht (by omega)) fun J2 ja2=>?_;have stl2:=stl1.call ja2;unfold IY;simp only [if_true];cases ho2:Bk t Bg (j1+1)with
      | inl e=>
        rw [ho2]at hmn;rw [hmn]at hrs;refine CR DQ Fe Dz (Ar 0#256) rfl (Ay (cs:=Ar 0#256) stl2 0 (szD _) rfl (by simp [Ap]) (onD _) fun Z1 sz1=>?_);have bz1:Blk Z1 q4 92 (Ar 0#256):=by
         have:=sz1.blk 0 rfl;rwa [A8 (by simp [Ap])]at this
        refine ldN (cs:=Ar 0#256) (agD _) (BL bz1) trivial ?_;exact⟨sz1.old,by unfold Dn;rw [hrs];rfl⟩
      | inr p2=>
        obtain⟨hi2,j2⟩:=p2;have hok2:=CE ho2;rw [ho2]at hmn;by_cases hlt:hi2<lo
        ·have d11:decide ((hi2:Int)<(lo:Int))=true:=decide_eq_true (by omega);simp only [if_pos hlt]at hmn;rw [hmn]at hrs;(conv=>whnf);rw [d11];refine CR DQ Fe Dz (Ar 0#256) rfl (Ay (cs:=Ar 0#256) stl2 0 (szD _) rfl (by simp [Ap]) (onD _) fun Z1 sz1=>?_);have bz1:Blk Z1 q4 92 (Ar 0#256):=by
          have:=sz1.blk 0 rfl;rwa [A8 (by simp [Ap])]at this
         refine ldN (cs:=Ar 0#256) (agD _) (BL bz1) trivial ?_;exact⟨sz1.old,by unfold Dn;rw [hrs];rfl⟩
        ·have d11:decide ((hi2:Int)<(lo:Int))=false:=decide_eq_false (by omega);simp only [if_neg hlt]at hmn;(conv=>whnf);rw [d11];(conv=>whnf);rw [w64 (x:=(lo:Int)) (by omega) (by omega)];(conv=>whnf);refine AH.mk [20] (fun b:Nat=>[.int .i64 (b:Int)]) (fun b G=>lo≤b∧b≤hi2+1∧St H G (rrF q4 q8 fun a=>x.getLsbD a|| (decide (lo≤a)&&decide (a<b)))) (fun b _=>hi2+1 - b) ?_ ?_
         ·(conv=>whnf);refine⟨lo,rfl,UL _,by omega,?_⟩;rw [Du (x:=x) (fun a ha=>by
           by_cases h:lo≤a
           ·rw [decide_eq_false (show¬a<lo by omega),US,UO]
           ·rw [decide_eq_false h,UT,UO])]
          exact stl2
         ·rintro b I0 junk5 ⟨hb1,hb2,sti⟩;(conv=>whnf);rw [w64 (x:=(hi2:Int)) (by omega) (by omega)];refine AQ.mk (fun hz=>?_) (fun hz=>?_)<;>simp only [decide_eq_true_eq,decide_eq_false_iff_not]at hz
          ·(conv=>whnf);try (refine Al.run ?_)
           refine ixa DQ (by omega) (by omega) ?_;refine AG sti 1 ct4 rfl (by rw [Cp];omega) rfl fun I2 sti2=>?_;have e0:0+(b:Int).toNat*1=b:=by omega
           rw [e0]at sti2;have sti3:St H I2 (rrF q4 q8 fun a=>x.getLsbD a|| (decide (lo≤a)&&decide (a<b+1))):=by
            have e2:(BW fun a=>x.getLsbD a|| (decide (lo≤a)&&decide (a<b))).set b (.bool true)=BW fun a=>x.getLsbD a|| (decide (lo≤a)&&decide (a<b+1)):=by
             rw [EB _ (by omega)];refine Dw fun a ha=>?_;by_cases h:a=b
             ·subst h;rw [if_pos rfl,decide_eq_true (show lo≤a by omega),decide_eq_true (show a<a+1 by omega),UP,UV]
             ·rw [if_neg h]
              congr 2
              exact decide_eq_decide.2 (by omega)
            have:=sti2;unfold rrF at this ⊢;simp only [UM,UN]at this;rwa [e2]at this
           (conv=>whnf);rw [w64 (x:=(b:Int)+1) (by omega) (by omega)];exact⟨rfl,b+1,rfl,⟨by omega,by omega,sti3⟩,by omega⟩
          ·obtain rfl:b=hi2+1:=by omega
           rw [Du (x:=x ||| AK lo hi2) (fun a ha=>by
            rw [I6,Di _ _ _ ha]
            congr 2
            exact decide_eq_decide.2 (by omega))]at sti
           (conv=>whnf);exact⟨rfl,(j2,n,x ||| AK lo hi2),rfl,⟨by simp only;omega,by simp only;omega,hmn.symm,sti⟩,by simp only;omega⟩
 obtain⟨b1,hc1,hc2,hc3⟩:=CI hi1;have d5:decide ((i:Int)+1<(t.size:Int))=true:=decide_eq_true (by omega);have d6:((bt t (i+1):Int)==(94:Int))=nt:=by
  rw [hnt];by_cases h:bt t (i+1)=94
  ·rw [h];rfl
  ·rw [decide_eq_false h];exact beq_eq_false_iff_ne.2 (by omega)
 (conv=>whnf);rw [d5];refine CS (i:=i+1) E7 rfl hc1 ?_;rw [←hc2];(conv=>whnf);rw [d6];(conv=>whnf);refine Al.cut [13] (fun _:Unit=>[.int .i64 ((if nt then i+1+1 else i+1:Nat):Int)]) (fun _ G=>St H G (rrP q4 q8 0#256)) ?_ ?_
 ·refine AQ.mk (fun hn=>?_) (fun hn=>?_)
  ·have hn94:bt t (i+1)=94:=by rw [hn]at hnt;exact of_decide_eq_true hnt.symm
   (conv=>whnf);rw [w64 (x:=(i:Int)+1+1) (by omega) (by omega)];exact⟨rfl,(),by rw [hn];rfl,st2⟩
  ·(conv=>whnf);exact⟨rfl,(),by rw [hn];rfl,st2⟩
 ·rintro⟨⟩ G junk0 stg;(conv=>whnf);refine AH.mk [13] (fun y:Nat×Nat×BitVec 256=>[.int .i64 (y.1:Int)]) (fun y G=>T6 H t q4 q8 M y G) (fun y _=>t.size - y.1) ?_ ?_
  ·(conv=>whnf);exact⟨((if nt then i+1+1 else i+1),t.size+1,0#256),rfl,⟨hle,by simp only;omega,hM.symm,stg⟩⟩
  ·rintro⟨j,n,x⟩ J0 junk1 ⟨hj,hfu,heq,stl⟩;simp only at hj hfu heq stl;obtain⟨n,rfl⟩:∃m,n=m+1:=⟨n - 1,by omega⟩;by_cases hjl:j<t.size
   case neg=>
    have hj0:=Cb hjl;have d7:decide ((j:Int)≥(t.size:Int))=true:=decide_eq_true (by omega);have ho:Bk t Bg j= .inl j:=by unfold Bk;rw [hj0,if_neg (by decide),if_pos (.inr (.inl (by decide)))]
    have hmn:M= .inl j:=by rw [←heq,C9,if_neg (by omega),ho]
    rw [hmn]at hrs;(conv=>whnf);rw [d7];(conv=>whnf);try (refine Al.run ?_)
    refine Af (Eb (i:=j) (inner:=true) ht hj) fun J1 ja1=>?_;have stl1:=stl.call ja1;unfold IY;simp only [if_true];rw [ho];refine CR DQ Fe Dz (Ar 0#256) rfl (Ay (cs:=Ar 0#256) stl1 0 (szD _) rfl (by simp [Ap]) (onD _) fun Z1 sz1=>?_);have bz1:Blk Z1 q4 92 (Ar 0#256):=by
     have:=sz1.blk 0 rfl;rwa [A8 (by simp [Ap])]at this
    refine ldN (cs:=Ar 0#256) (agD _) (BL bz1) trivial ?_;exact⟨sz1.old,by unfold Dn;rw [hrs];rfl⟩
   obtain⟨b5,hb5,hb6,hb7⟩:=CI hjl;have d7:decide ((j:Int)≥(t.size:Int))=false:=decide_eq_false (by omega);(conv=>whnf);rw [d7];refine CS (i:=j) E7 rfl hb5 ?_;rw [←hb6];by_cases h93:bt t j=93
   ·have d8:((bt t j:Int) != (93:Int))=false:=by rw [h93];rfl
    have hmn:M= .inr (x,j+1):=by rw [←heq,C9,if_pos h93]
    rw [hmn]at hrs;(conv=>whnf);rw [d8];(conv=>whnf);(conv=>whnf);try (refine Al.run ?_)
    refine AQ.mk (fun hn=>?_) (fun hn=>?_)
    ·skip
     (conv=>whnf);try (refine Al.run ?_)
     (conv=>whnf);refine AH.mk [21] (fun k:Nat=>[.int .i64 (k:Int)]) (fun k G=>k≤256∧St H G (rrF q4 q8 fun b=>if b<k then !x.getLsbD b else x.getLsbD b)) (fun k _=>256 - k) ?_ ?_
     ·(conv=>whnf);exact⟨0,rfl,by omega,by rw [Du (x:=x) (fun b hb=>by rw [if_neg (by omega)])];exact stl⟩
     ·rintro k K0 junk7 ⟨hk,stk⟩;refine AQ.mk (fun hz=>?_) (fun hz=>?_)<;>simp only [decide_eq_true_eq,decide_eq_false_iff_not]at hz
      ·(conv=>whnf);try (refine Al.run ?_)
       refine ixa DQ (by omega) (by omega) (ld1 (v:=.bool (x.getLsbD k)) ct4 ?_ trivial ?_)
       ·rw [(stk.blk 1 rfl).cell,show 0+(k:Int).toNat*1=k by omega,Gw _ (by omega),if_neg (by omega)]
       refine ixa DQ (by omega) (by omega) ?_;refine AG stk 1 ct4 rfl (by rw [Cp];omega) rfl fun K2 stk2=>?_;have e0:0+(k:Int).toNat*1=k:=by omega
       rw [e0]at stk2;have stk3:St H K2 (rrF q4 q8 fun b=>if b<k+1 then !x.getLsbD b else x.getLsbD b):=by
        have e2:(BW fun b=>if b<k then !x.getLsbD b else x.getLsbD b).set k (.bool (!x.getLsbD k))=BW fun b=>if b<k+1 then !x.getLsbD b else x.getLsbD b:=by
         rw [EB _ (by omega)];refine Dw fun b hb=>?_;by_cases h:b=k
         ·subst h;rw [if_pos rfl,if_pos (by omega)]
         ·rw [if_neg h];by_cases h2:b<k
          ·rw [if_pos h2,if_pos (by omega)]
          ·rw [if_neg h2,if_neg (by omega)]
        have:=stk2;unfold rrF at this ⊢;simp only [UM,UN]at this;rwa [e2]at this
       (conv=>whnf);rw [w64 (x:=(k:Int)+1) (by omega) (by omega)];exact⟨rfl,k+1,rfl,⟨by omega,stk3⟩,by omega⟩
      ·obtain rfl:k=256:=by omega
       rw [Du (x:= ~~~x) (fun b hb=>by rw [if_pos hb,Ov _ _ hb])]at stk;refine ldN (cs:=Ar (~~~x)) (agD _) (BL (stk.blk 1 rfl)) trivial ?_;(conv=>whnf);rw [w64 (x:=(j:Int)+1) (by omega) (by omega)];refine Ay (cs:=Ar (~~~x)) stk 0 (szD _) rfl (by simp [Ap]) (onD _) fun Z1 sz1=>?_;have bz1:Blk Z1 q4 92 (Ar (~~~x)):=by
        have:=sz1.blk 0 rfl;rwa [A8 (by simp [Ap])]at this
       refine ldN (cs:=Ar (~~~x)) (agD _) (BL bz1) trivial ?_;exact⟨sz1.old,by unfold Dn;rw [hrs,hn];rfl⟩
    ·skip
     (conv=>whnf);try (refine Al.run ?_)
     refine ldN (cs:=Ar x) (agD _) (BL (stl.blk 1 rfl)) trivial ?_;(conv=>whnf);rw [w64 (x:=(j:Int)+1) (by omega) (by omega)];refine Ay (cs:=Ar x) stl 0 (szD _) rfl (by simp [Ap]) (onD _) fun Z1 sz1=>?_;have bz1:Blk Z1 q4 92 (Ar x):=by
      have:=sz1.blk 0 rfl;rwa [A8 (by simp [Ap])]at this
     refine ldN (cs:=Ar x) (agD _) (BL bz1) trivial ?_;exact⟨sz1.old,by unfold Dn;rw [hrs,hn];rfl⟩
   have d8:((bt t j:Int) != (93:Int))=true:=by rw [bne_iff_ne];omega
   (conv=>whnf);rw [d8];(conv=>whnf);try (refine Al.run ?_)
   refine Af (Eb (i:=j) (inner:=true) ht hj) fun J1 ja1=>?_;have stl1:=stl.call ja1;unfold IY;simp only [if_true];cases ho:Bk t Bg j with
   | inl e=>
     have hmn:M= .inl e:=by rw [←heq,C9,if_neg h93,ho]
     rw [hmn]at hrs;refine CR DQ Fe Dz (Ar 0#256) rfl (Ay (cs:=Ar 0#256) stl1 0 (szD _) rfl (by simp [Ap]) (onD _) fun Z1 sz1=>?_);have bz1:Blk Z1 q4 92 (Ar 0#256):=by
      have:=sz1.blk 0 rfl;rwa [A8 (by simp [Ap])]at this
     refine ldN (cs:=Ar 0#256) (agD _) (BL bz1) trivial ?_;exact⟨sz1.old,by unfold Dn;rw [hrs];rfl⟩
   | inr p=>
     obtain⟨lo,j1⟩:=p;have hok:=CE ho;have hmn:M=F0 t lo j1 x (C9 t n):=by rw [←heq,C9,if_neg h93,ho]
     unfold F0 at hmn;by_cases hj1:j1<t.size
     case neg=>
      have h256:=Cb hj1;have d9:decide ((j1:Int)<(t.size:Int))=false:=decide_eq_false (by omega);rw [if_neg (by omega)]at hmn;(conv=>whnf);try (refine Al.run ?_)
      (conv=>whnf);rw [d9];(conv=>whnf);rw [w64 (x:=(lo:Int)) (by omega) (by omega)];(conv=>whnf);refine AH.mk [20] (fun b:Nat=>[.int .i64 (b:Int)]) (fun b G=>lo≤b∧b≤lo+1∧St H G (rrF q4 q8 fun a=>x.getLsbD a|| (decide (lo≤a)&&decide (a<b)))) (fun b _=>lo+1 - b) ?_ ?_
      ·(conv=>whnf);refine⟨lo,rfl,UL _,by omega,?_⟩;rw [Du (x:=x) (fun a ha=>by
        by_cases h:lo≤a
        ·rw [decide_eq_false (show¬a<lo by omega),US,UO]
        ·rw [decide_eq_false h,UT,UO])]
       exact stl1
      ·rintro b I0 junk5 ⟨hb1,hb2,sti⟩;(conv=>whnf);rw [w64 (x:=(lo:Int)) (by omega) (by omega)];refine AQ.mk (fun hz=>?_) (fun hz=>?_)<;>simp only [decide_eq_true_eq,decide_eq_false_iff_not]at hz
       ·(conv=>whnf);try (refine Al.run ?_)
        refine ixa DQ (by omega) (by omega) ?_;refine AG sti 1 ct4 rfl (by rw [Cp];omega) rfl fun I2 sti2=>?_;have e0:0+(b:Int).toNat*1=b:=by omega
        rw [e0]at sti2;have sti3:St H I2 (rrF q4 q8 fun a=>x.getLsbD a|| (decide (lo≤a)&&decide (a<b+1))):=by
         have e2:(BW fun a=>x.getLsbD a|| (decide (lo≤a)&&decide (a<b))).set b (.bool true)=BW fun a=>x.getLsbD a|| (decide (lo≤a)&&decide (a<b+1)):=by
          rw [EB _ (by omega)];refine Dw fun a ha=>?_;by_cases h:a=b
          ·subst h;rw [if_pos rfl,decide_eq_true (show lo≤a by omega),decide_eq_true (show a<a+1 by omega),UP,UV]
          ·rw [if_neg h]
           congr 2
           exact decide_eq_decide.2 (by omega)
         have:=sti2;unfold rrF at this ⊢;simp only [UM,UN]at this;rwa [e2]at this
        (conv=>whnf);rw [w64 (x:=(b:Int)+1) (by omega) (by omega)];exact⟨rfl,b+1,rfl,⟨by omega,by omega,sti3⟩,by omega⟩
       ·obtain rfl:b=lo+1:=by omega
        rw [Du (x:=x ||| AK lo lo) (fun a ha=>by
         rw [I6,Di _ _ _ ha]
         congr 2
         exact decide_eq_decide.2 (by omega))]at sti
        (conv=>whnf);exact⟨rfl,(j1,n,x ||| AK lo lo),rfl,⟨by simp only;omega,by simp only;omega,hmn.symm,sti⟩,by simp only;omega⟩
     obtain⟨b8,hb8,hb9,hb10⟩:=CI hj1;have d9:decide ((j1:Int)<(t.size:Int))=true:=decide_eq_true (by omega);(conv=>whnf);try (refine Al.run ?_)
     (conv=>whnf);rw [d9];refine CS (i:=j1) E7 rfl hb8 ?_;rw [←hb9];by_cases h45:bt t j1=45
     case neg=>
      have d10:((bt t j1:Int)==(45:Int))=false:=beq_eq_false_iff_ne.2 (by omega);rw [if_neg h45]at hmn;(conv=>whnf);rw [d10];(conv=>whnf);rw [w64 (x:=(lo:Int)) (by omega) (by omega)];(conv=>whnf);refine AH.mk [20] (fun b:Nat=>[.int .i64 (b:Int)]) (fun b G=>lo≤b∧b≤lo+1∧St H G (rrF q4 q8 fun a=>x.getLsbD a|| (decide (lo≤a)&&decide (a<b)))) (fun b _=>lo+1 - b) ?_ ?_
      ·(conv=>whnf);refine⟨lo,rfl,UL _,by omega,?_⟩;rw [Du (x:=x) (fun a ha=>by
        by_cases h:lo≤a
        ·rw [decide_eq_false (show¬a<lo by omega),US,UO]
        ·rw [decide_eq_false h,UT,UO])]
       exact stl1
      ·rintro b I0 junk5 ⟨hb1,hb2,sti⟩;(conv=>whnf);rw [w64 (x:=(lo:Int)) (by omega) (by omega)];refine AQ.mk (fun hz=>?_) (fun hz=>?_)<;>simp only [decide_eq_true_eq,decide_eq_false_iff_not]at hz
       ·(conv=>whnf);try (refine Al.run ?_)
        refine ixa DQ (by omega) (by omega) ?_;refine AG sti 1 ct4 rfl (by rw [Cp];omega) rfl fun I2 sti2=>?_;have e0:0+(b:Int).toNat*1=b:=by omega
        rw [e0]at sti2;have sti3:St H I2 (rrF q4 q8 fun a=>x.getLsbD a|| (decide (lo≤a)&&decide (a<b+1))):=by
         have e2:(BW fun a=>x.getLsbD a|| (decide (lo≤a)&&decide (a<b))).set b (.bool true)=BW fun a=>x.getLsbD a|| (decide (lo≤a)&&decide (a<b+1)):=by
          rw [EB _ (by omega)];refine Dw fun a ha=>?_;by_cases h:a=b
          ·subst h;rw [if_pos rfl,decide_eq_true (show lo≤a by omega),decide_eq_true (show a<a+1 by omega),UP,UV]
          ·rw [if_neg h]
           congr 2
           exact decide_eq_decide.2 (by omega)
         have:=sti2;unfold rrF at this ⊢;simp only [UM,UN]at this;rwa [e2]at this
        (conv=>whnf);rw [w64 (x:=(b:Int)+1) (by omega) (by omega)];exact⟨rfl,b+1,rfl,⟨by omega,by omega,sti3⟩,by omega⟩
       ·obtain rfl:b=lo+1:=by omega
        rw [Du (x:=x ||| AK lo lo) (fun a ha=>by
         rw [I6,Di _ _ _ ha]
         congr 2
         exact decide_eq_decide.2 (by omega))]at sti
        (conv=>whnf);exact⟨rfl,(j1,n,x ||| AK lo lo),rfl,⟨by simp only;omega,by simp only;omega,hmn.symm,sti⟩,by simp only;omega⟩
     have d10:((bt t j1:Int)==(45:Int))=true:=by rw [h45];rfl
     rw [if_pos h45]at hmn;(conv=>whnf);rw [d10];(conv=>whnf);rw [w64 (x:=(j1:Int)+1) (by omega) (by omega)];refine Af (Eb (i:=j1+1) (inner:=true) ht (by omega)) fun J2 ja2=>?_;have stl2:=stl1.call ja2;unfold IY;simp only [if_true];cases ho2:Bk t Bg (j1+1)with
     | inl e=>
       rw [ho2]at hmn;rw [hmn]at hrs;refine CR DQ Fe Dz (Ar 0#256) rfl (Ay (cs:=Ar 0#256) stl2 0 (szD _) rfl (by simp [Ap]) (onD _) fun Z1 sz1=>?_);have bz1:Blk Z1 q4 92 (Ar 0#256):=by
        have:=sz1.blk 0 rfl;rwa [A8 (by simp [Ap])]at this
       refine ldN (cs:=Ar 0#256) (agD _) (BL bz1) trivial ?_;exact⟨sz1.old,by unfold Dn;rw [hrs];rfl⟩
     | inr p2=>
       obtain⟨hi2,j2⟩:=p2;have hok2:=CE ho2;rw [ho2]at hmn;by_cases hlt:hi2<lo
       ·have d11:decide ((hi2:Int)<(lo:Int))=true:=decide_eq_true (by omega);simp only [if_pos hlt]at hmn;rw [hmn]at hrs;(conv=>whnf);rw [d11];refine CR DQ Fe Dz (Ar 0#256) rfl (Ay (cs:=Ar 0#256) stl2 0 (szD _) rfl (by simp [Ap]) (onD _) fun Z1 sz1=>?_);have bz1:Blk Z1 q4 92 (Ar 0#256):=by
         have:=sz1.blk 0 rfl;rwa [A8 (by simp [Ap])]at this
        refine ldN (cs:=Ar 0#256) (agD _) (BL bz1) trivial ?_;exact⟨sz1.old,by unfold Dn;rw [hrs];rfl⟩
       ·have d11:decide ((hi2:Int)<(lo:Int))=false:=decide_eq_false (by omega);simp only [if_neg hlt]at hmn;(conv=>whnf);rw [d11];(conv=>whnf);rw [w64 (x:=(lo:Int)) (by omega) (by omega)];(conv=>whnf);refine AH.mk [20] (fun b:Nat=>[.int .i64 (b:Int)]) (fun b G=>lo≤b∧b≤hi2+1∧St H G (rrF q4 q8 fun a=>x.getLsbD a|| (decide (lo≤a)&&decide (a<b)))) (fun b _=>hi2+1 - b) ?_ ?_
        ·(conv=>whnf);refine⟨lo,rfl,UL _,by omega,?_⟩;rw [Du (x:=x) (fun a ha=>by
          by_cases h:lo≤a
          ·rw [decide_eq_false (show¬a<lo by omega),US,UO]
          ·rw [decide_eq_false h,UT,UO])]
         exact stl2
        ·rintro b I0 junk5 ⟨hb1,hb2,sti⟩;(conv=>whnf);rw [w64 (x:=(hi2:Int)) (by omega) (by omega)];refine AQ.mk (fun hz=>?_) (fun hz=>?_)<;>simp only [decide_eq_true_eq,decide_eq_false_iff_not]at hz
         ·(conv=>whnf);try (refine Al.run ?_)
          refine ixa DQ (by omega) (by omega) ?_;refine AG sti 1 ct4 rfl (by rw [Cp];omega) rfl fun I2 sti2=>?_;have e0:0+(b:Int).toNat*1=b:=by omega
          rw [e0]at sti2;have sti3:St H I2 (rrF q4 q8 fun a=>x.getLsbD a|| (decide (lo≤a)&&decide (a<b+1))):=by
           have e2:(BW fun a=>x.getLsbD a|| (decide (lo≤a)&&decide (a<b))).set b (.bool true)=BW fun a=>x.getLsbD a|| (decide (lo≤a)&&decide (a<b+1)):=by
            rw [EB _ (by omega)];refine Dw fun a ha=>?_;by_cases h:a=b
            ·subst h;rw [if_pos rfl,decide_eq_true (show lo≤a by omega),decide_eq_true (show a<a+1 by omega),UP,UV]
            ·rw [if_neg h]
             congr 2
             exact decide_eq_decide.2 (by omega)
           have:=sti2;unfold rrF at this ⊢;simp only [UM,UN]at this;rwa [e2]at this
          (conv=>whnf);rw [w64 (x:=(b:Int)+1) (by omega) (by omega)];exact⟨rfl,b+1,rfl,⟨by omega,by omega,sti3⟩,by omega⟩
         ·obtain rfl:b=hi2+1:=by omega
          rw [Du (x:=x ||| AK lo hi2) (fun a ha=>by
           rw [I6,Di _ _ _ ha]
           congr 2
           exact decide_eq_decide.2 (by omega))]at sti
          (conv=>whnf);exact⟨rfl,(j2,n,x ||| AK lo hi2),rfl,⟨by simp only;omega,by simp only;omega,hmn.symm,sti⟩,by simp only;omega⟩
abbrev scL(t:ByteArray)(i:Nat)(ov:Value):List Value:=[.string t,.int .i64 (i:Int),ov]
abbrev pSc(s:Nat)(t:ByteArray)(i:Nat)(ov:Value):Pc:=pB 74 s (scL t i ov)
theorem Ee{H:Aa}{s i:Nat}{t:ByteArray}{ov:Value}(hb:Blk H s 74 (scL t i ov)):Bv Tryz.prog 26 #[.pointer (some ⟨s,0,none⟩)] H (.bool (decide (t.size≤i))):=by
 refine Ao.of_vc Tryz.func26 rfl (Tryz.call26 _) (As.lex rfl (by kernel_rfl) (VC.fa AJ ?_));refine ld1 (v:=.int .i64 (i:Int)) ct3 (by rw [hb.cell];rfl) trivial ?_;refine VC.fa Lo ?_;refine ld1 (v:=.string t) ct9 (by rw [hb.cell];rfl) trivial ?_;(conv=>whnf);refine⟨?_,Agr.refl _ _⟩
 congr 1
 rw [decide_eq_decide];omega
theorem CZ{H:Aa}{s i:Nat}{t:ByteArray}{ov:Value}(hb:Blk H s 74 (scL t i ov))(hi:i<t.size):Bv Tryz.prog 51 #[.pointer (some ⟨s,0,none⟩)] H (.int .u8 (bt t i:Int)):=by
 refine Ao.of_vc Tryz.func51 rfl (Tryz.call51 _) (As.lex rfl (by kernel_rfl) (VC.fa AJ ?_));refine ld1 (v:=.int .i64 (i:Int)) ct3 (by rw [hb.cell];rfl) trivial ?_;refine VC.fa Lo ?_;refine ld1 (v:=.string t) ct9 (by rw [hb.cell];rfl) trivial ?_;obtain⟨b,h1,h2,h3⟩:=CI hi;have d1:decide ((i:Int)<(t.size:Int))=true:=decide_eq_true (by omega);(conv=>whnf);rw [d1];refine As.lex rfl (by kernel_rfl) (VC.fa Lo ?_);refine ld1 (v:=.string t) ct9 (by rw [hb.cell];rfl) trivial ?_;refine VC.fa AJ ?_;refine ld1 (v:=.int .i64 (i:Int)) ct3 (by rw [hb.cell];rfl) trivial ?_;refine CS E7 rfl h1 ?_;(conv=>whnf);refine⟨?_,Agr.refl _ _⟩;rw [h2]
theorem C2{H:Aa}{s c e:Nat}:BA Tryz.prog 27 #[.pointer (some ⟨s,0,none⟩),.int .i64 (c:Int),.int .i64 (e:Int)] H (fun _ _=>False) (fun x H'=>x=D3 c e∧H'=H):=by
 refine BA.of_vc Tryz.func27 rfl (Tryz.call27 _) (Av Tryz.underlying27 rfl _ rfl [.int .i64 (c:Int),.int .i64 (e:Int),.string ⟨#[]⟩] rfl ?_);(conv=>whnf);exact⟨rfl,rfl⟩
theorem LA{B:Nat→Prop}{H:Aa}{ps:List Pc}{k s i:Nat}{t:ByteArray}{ov:Value}(ht:t.size≤1152921504606846976)(hi:i≤t.size)(st:StB B H H ps)(hp:ps[k]? =some (pSc s t i ov)):
  BA Tryz.prog 125 #[.pointer (some ⟨s,0,none⟩)] H (fun v H'=>Do t i=true∧v= .int .i64 (((Bz t 3 i 0).1:Nat):Int)∧StB B H H' (ps.set k (pSc s t (Bz t 3 i 0).2 ov)))
   (fun x H'=>Do t i=false∧x=D3 20 i∧Agr B H H'):=by
 refine BA.of_vc Tryz.func125 rfl (Tryz.call125 _) (Ca.of (As.lex rfl (by kernel_rfl) (VC.fa AJ ?_)));refine ld1 (v:=.int .i64 (i:Int)) ct3 (by rw [(st.blk k hp).cell];rfl) trivial ?_;(conv=>whnf);refine DU.mk [3] (fun x:Nat×Nat=>match x with | (_,v)=>[.int .i64 (v:Int)]) (fun x G=>match x with | (n,v)=>n≤3∧v<10 ^ n∧Bz t 3 i 0=Bz t (3 - n) (i+n) v∧(n=0∨Do t i=true)∧StB B H G (ps.set k (pSc s t (i+n) ov))) (fun x _=>match x with | (n,_)=>3 - n) ?_ ?_
 ·(conv=>whnf);exact⟨(0,0),rfl,by omega,by decide,rfl,.inl rfl,by rw [Nat.add_zero,Cu hp];exact st⟩
 ·rintro⟨n,v⟩ G junk ⟨hn,hv,hm,hd,stg⟩;have hpg:(ps.set k (pSc s t (i+n) ov))[k]? =some (pSc s t (i+n) ov):=GX hp;have out:(n=3∨Do t (i+n)=false)→Bz t 3 i 0=(v,i+n):=fun h=>by
   rw [hm];rcases h with rfl | h
   ·rfl
   ·cases h3:3 - n with
    | zero=>rfl
    | succ m=>unfold Bz;rw [h];rfl
  refine Ah.of (Af (Ee (stg.blk k hpg)) fun G1 ha1=>?_);have st1:=stg.call ha1;by_cases h0:i+n<t.size
  ·obtain⟨b0,-,-,hb3⟩:=CI h0;rw [decide_eq_false (show¬t.size≤i+n by omega)];refine VC.fa AJ ?_;refine ld1 (v:=.int .i64 ((i+n:Nat):Int)) ct3 (by rw [(st1.blk k hpg).cell];rfl) trivial ?_;(conv=>whnf);rw [w64 (x:=(i:Int)+3) (by omega) (by omega)];by_cases h1:n=3
   ·have d1:decide (((i+n:Nat):Int)<(i:Int)+3)=false:=decide_eq_false (by omega);(conv=>whnf);rw [d1];refine AO.run (VC.fa AJ ?_);refine ld1 (v:=.int .i64 ((i+n:Nat):Int)) ct3 (by rw [(st1.blk k hpg).cell];rfl) trivial ?_;have hr:=out (.inl h1);by_cases hn0:n=0
    ·have d9:(((i+n:Nat):Int)==(i:Int))=true:=by rw [hn0];exact beq_self_eq_true _
     (conv=>whnf);rw [d9];refine VC.fa AJ ?_;refine ld1 (v:=.int .i64 ((i+n:Nat):Int)) ct3 (by rw [(st1.blk k hpg).cell];rfl) trivial ?_;refine Ah.mk (C2 (c:=20) (e:=i+n)) (fun _ _ h=>h.elim) ?_;rintro _ _ ⟨rfl,rfl⟩;subst hn0
     exact⟨by rcases(.inl h1:0=3∨Do t (i+0)=false)with h | h
              ·omega
              ·exact h,rfl,st1.old⟩
    ·have d9:(((i+n:Nat):Int)==(i:Int))=false:=beq_eq_false_iff_ne.2 (by omega);(conv=>whnf);rw [d9];(conv=>whnf);rw [hr];exact⟨hd.resolve_left hn0,rfl,st1⟩
   ·have d1:decide (((i+n:Nat):Int)<(i:Int)+3)=true:=decide_eq_true (by omega);(conv=>whnf);rw [d1];refine Ah.of (Af (CZ (st1.blk k hpg) h0) fun G2 ha2=>?_);have st2:=st1.call ha2;by_cases h2:48≤bt t (i+n)
    ·have d2:decide (((bt t (i+n):Nat):Int)≥48)=true:=decide_eq_true (by omega);have d2':decide (48≤((bt t (i+n):Nat):Int))=true:=d2;(conv=>whnf);rw [d2'];refine Ah.of (Af (CZ (st2.blk k hpg) h0) fun G3 ha3=>?_);have st3:=st2.call ha3;by_cases h3:bt t (i+n)≤57
     ·have d3:decide (((bt t (i+n):Nat):Int)≤57)=true:=decide_eq_true (by omega);have hdg:Do t (i+n)=true:=decide_eq_true ⟨h2,h3⟩;(conv=>whnf);rw [d3];refine Ah.of (Af (CZ (st3.blk k hpg) h0) fun G4 ha4=>?_);have st4:=st3.call ha4;(conv=>whnf);rw [w64 (x:=10*(v:Int)) (by have:v<1000:=UZ hv (UW (by omega) hn);omega) (by have:v<1000:=UZ hv (UW (by omega) hn);omega)];(conv=>whnf);rw [w8 (x:=((bt t (i+n):Nat):Int) - 48) (by omega) (by omega)];(conv=>whnf);rw [w64 (x:=((bt t (i+n):Nat):Int) - 48) (by omega) (by omega)];(conv=>whnf);rw [w64 (x:=10*(v:Int)+(((bt t (i+n):Nat):Int) - 48)) (by omega) (by have:v<1000:=UZ hv (UW (by omega) hn);omega)];refine VC.fa AJ ?_;refine ld1 (v:=.int .i64 ((i+n:Nat):Int)) ct3 (by rw [(st4.blk k hpg).cell];rfl) trivial ?_;(conv=>whnf);rw [w64 (x:=((i+n:Nat):Int)+1) (by omega) (by omega)];refine VC.fa AJ (AG st4 k ct3 hpg (by simp) rfl fun G5 st5=>?_);refine⟨rfl,(n+1,10*v+(bt t (i+n) - 48)),?_,⟨by omega,?_,?_,.inr ?_,?_⟩,by show 3 - (n+1)<3 - n;omega⟩
      ·show [Value.int .i64 (10*(v:Int)+(((bt t (i+n):Nat):Int) - 48))]=[.int .i64 ((10*v+(bt t (i+n) - 48):Nat):Int)]
       congr 2;omega
      ·rw [Nat.pow_succ];omega
      ·rw [hm,show 3 - n=(3 - (n+1))+1 by omega,Bz,hdg];rfl
      ·rcases hd with rfl | hd
       ·exact hdg
       ·exact hd
      ·rw [UX]at st5;exact st5
     ·have d3:decide (((bt t (i+n):Nat):Int)≤57)=false:=decide_eq_false (by omega);(conv=>whnf);rw [d3];refine AO.run (VC.fa AJ ?_);refine ld1 (v:=.int .i64 ((i+n:Nat):Int)) ct3 (by rw [(st3.blk k hpg).cell];rfl) trivial ?_;have hr:=out (.inr (decide_eq_false fun h=>h3 h.2));by_cases hn0:n=0
      ·have d9:(((i+n:Nat):Int)==(i:Int))=true:=by rw [hn0];exact beq_self_eq_true _
       (conv=>whnf);rw [d9];refine VC.fa AJ ?_;refine ld1 (v:=.int .i64 ((i+n:Nat):Int)) ct3 (by rw [(st3.blk k hpg).cell];rfl) trivial ?_;refine Ah.mk (C2 (c:=20) (e:=i+n)) (fun _ _ h=>h.elim) ?_;rintro _ _ ⟨rfl,rfl⟩;subst hn0
       exact⟨by rcases(.inr (decide_eq_false fun h=>h3 h.2):0=3∨Do t (i+0)=false)with h | h
                ·omega
                ·exact h,rfl,st3.old⟩
      ·have d9:(((i+n:Nat):Int)==(i:Int))=false:=beq_eq_false_iff_ne.2 (by omega);(conv=>whnf);rw [d9];(conv=>whnf);rw [hr];exact⟨hd.resolve_left hn0,rfl,st3⟩
    ·have d2':decide (48≤((bt t (i+n):Nat):Int))=false:=decide_eq_false (by omega);(conv=>whnf);rw [d2'];refine AO.run (VC.fa AJ ?_);refine ld1 (v:=.int .i64 ((i+n:Nat):Int)) ct3 (by rw [(st2.blk k hpg).cell];rfl) trivial ?_;have hr:=out (.inr (decide_eq_false fun h=>h2 h.1));by_cases hn0:n=0
     ·have d9:(((i+n:Nat):Int)==(i:Int))=true:=by rw [hn0];exact beq_self_eq_true _
      (conv=>whnf);rw [d9];refine VC.fa AJ ?_;refine ld1 (v:=.int .i64 ((i+n:Nat):Int)) ct3 (by rw [(st2.blk k hpg).cell];rfl) trivial ?_;refine Ah.mk (C2 (c:=20) (e:=i+n)) (fun _ _ h=>h.elim) ?_;rintro _ _ ⟨rfl,rfl⟩;subst hn0
      exact⟨by rcases(.inr (decide_eq_false fun h=>h2 h.1):0=3∨Do t (i+0)=false)with h | h
               ·omega
               ·exact h,rfl,st2.old⟩
     ·have d9:(((i+n:Nat):Int)==(i:Int))=false:=beq_eq_false_iff_ne.2 (by omega);(conv=>whnf);rw [d9];(conv=>whnf);rw [hr];exact⟨hd.resolve_left hn0,rfl,st2⟩
  ·rw [decide_eq_true (show t.size≤i+n by omega)];refine AO.run (VC.fa AJ ?_);refine ld1 (v:=.int .i64 ((i+n:Nat):Int)) ct3 (by rw [(st1.blk k hpg).cell];rfl) trivial ?_;have hr:=out (.inr (decide_eq_false fun h=>by have:=Cb h0;omega));by_cases hn0:n=0
   ·have d9:(((i+n:Nat):Int)==(i:Int))=true:=by rw [hn0];exact beq_self_eq_true _
    (conv=>whnf);rw [d9];refine VC.fa AJ ?_;refine ld1 (v:=.int .i64 ((i+n:Nat):Int)) ct3 (by rw [(st1.blk k hpg).cell];rfl) trivial ?_;refine Ah.mk (C2 (c:=20) (e:=i+n)) (fun _ _ h=>h.elim) ?_;rintro _ _ ⟨rfl,rfl⟩;subst hn0
    exact⟨by rcases(.inr (decide_eq_false fun h=>by have:=Cb h0;omega):0=3∨Do t (i+0)=false)with h | h
             ·omega
             ·exact h,rfl,st1.old⟩
   ·have d9:(((i+n:Nat):Int)==(i:Int))=false:=beq_eq_false_iff_ne.2 (by omega);(conv=>whnf);rw [d9];(conv=>whnf);rw [hr];exact⟨hd.resolve_left hn0,rfl,st1⟩
theorem LC{ps l:List Pc}{k:Nat}{p q r:Pc}(hp:ps[k]? =some p):(ps.set k q++l).set k r=ps.set k r++l:=by
 rw [lsL (GX hp),UX]
theorem Ff{ps l:List Pc}{k:Nat}{p q:Pc}(hp:ps[k]? =some p):(ps.set k q++l)[k]? =some q:=lgL (GX hp)
structure P0(B:Nat→Prop)(H:Aa)(ps:List Pc)(k s:Nat)(t:ByteArray)(j:Nat)(ov:Value)(r:ReM)(v:Value)(H':Aa):Prop where
 ex:∃(B':Nat→Prop) (fn:Value),v= .agg (Ab r fn).toArray∧(∀k,B k→B' k)∧Agr B H H'∧StB B' H' H' (ps.set k (pSc s t j ov))∧Ck B' H' fn r
theorem DY{c d:Nat}(h:c≠d):((c:Int)==(d:Int))=false:=beq_eq_false_iff_ne.2 (by omega)
theorem PG{B:Nat→Prop}{H:Aa}{ps:List Pc}{k s i:Nat}{t:ByteArray}{ov:Value}{a:ReM}{va:Value}(ht:t.size≤1152921504606846)(hc:bt t i=123)(st:StB B H H ps)(hp:ps[k]? =some (pSc s t i ov))(ga:Ck B H va a):
  BA Tryz.prog 111 #[.pointer (some ⟨s,0,none⟩),.agg (Ab a va).toArray] H (fun v H'=>∃m n j,BD t i= .inr (m,n,j)∧P0 B H ps k s t j ov (BG a m n) v H')
   (fun x H'=>∃c p:Nat,BD t i= .inl (c,p)∧x=D3 c p∧Agr B H H'):=by
 have hi:i<t.size:=CX (by omega);obtain⟨g1,c1,rfl⟩:=ga.fn;refine BA.of_vc Tryz.func111 rfl (Tryz.call111 _) (BM (Ab a (.func (.func g1) #[] c1)) rfl ?_);intro q1 H1 hq1 hs1 hb1 ha1;have st1:=st.box hq1 hs1 hb1 ha1;refine Ag (.agg Aj.toArray) Aj CG rfl ?_;intro q2 H2 hq2 hs2 hb2 ha2;have st2:=st1.box hq2 hs2 hb2 ha2;rw [UR]at st2;replace st2:StB B H H2 (ps++[pB 77 q1 (Ab a (.func (.func g1) #[] c1)),pB 77 q2 Aj]):=st2;have hp2:(ps++[pB 77 q1 (Ab a (.func (.func g1) #[] c1)),pB 77 q2 Aj])[k]? =some (pSc s t i ov):=lgL hp;refine VC.fa AJ ?_;refine ld1 (v:=.int .i64 ((i:Nat):Int)) ct3 (by rw [(st2.blk k hp2).cell];rfl) trivial ?_;refine VC.fa AJ ?_;refine ld1 (v:=.int .i64 ((i:Nat):Int)) ct3 (by rw [(st2.blk k hp2).cell];rfl) trivial ?_;(conv=>whnf);rw [w64 (x:=((i:Nat):Int)+1) (by omega) (by omega)];refine VC.fa AJ (AG st2 k ct3 hp2 (by simp) rfl fun H3 st3=>?_);rw [lsL hp]at st3;replace st3:StB B H H3 (ps.set k (pSc s t (i+1) ov)++[pB 77 q1 (Ab a (.func (.func g1) #[] c1)),pB 77 q2 Aj]):=st3;have a3:=st3.old;refine Ah.mk (LA (by omega) (by omega) st3.rebase (Ff hp)) ?_ ?_
 rotate_left
 ·rintro _ H4 ⟨hd,rfl,a4⟩;exact⟨20,i+1,by unfold BD;rw [hd];rfl,rfl,a3.trans a4⟩
 rintro _ H4 ⟨hd,rfl,st4⟩;have a4:=a3.trans st4.old;rw [LC hp]at st4;replace st4:=st4.rebase;obtain⟨-,-,hj⟩:=Fm (t:=t) 3 (i+1) 0;replace hj:=hj (by omega);have hm:=Jv (t:=t) 3 (i+1) 0;have hbr:BD t i=(match upM t (Bz t 3 (i+1) 0).1 (Bz t 3 (i+1) 0).2 with
  | .inl e=>.inl e
  | .inr (n,j)=>E1 t i (Bz t 3 (i+1) 0).1 n j):=by unfold BD;rw [if_pos hd];cases upM t (Bz t 3 (i+1) 0).1 (Bz t 3 (i+1) 0).2<;>rfl
 generalize Bz t 3 (i+1) 0=q at*;obtain⟨m,j⟩:=q;replace hm:m<1000:=hm;replace hj:j≤t.size:=hj;replace hbr:BD t i=(match upM t m j with
  | .inl e=>.inl e
  | .inr (n,j)=>E1 t i m n j):=hbr
 replace st4:StB B H4 H4 (ps.set k (pSc s t j ov)++[pB 77 q1 (Ab a (.func (.func g1) #[] c1)),pB 77 q2 Aj]):=st4;(conv=>whnf);refine AO.cut [7] (fun x:Int×Nat=>match x with | (n,_)=>[.int .i64 n]) (fun x G=>match x with | (n,e)=>upM t m j= .inr (n,e)∧e≤t.size∧ -1≤n∧n<1000∧Agr B H G∧StB B G G (ps.set k (pSc s t e ov)++[pB 77 q1 (Ab a (.func (.func g1) #[] c1)),pB 77 q2 Aj])) ?_ ?_
 ·refine Ah.of (Af (Ee (st4.blk k (Ff hp))) fun H5 ha5=>?_);have st5:=st4.call ha5;by_cases h0:j<t.size
  ·rw [decide_eq_false (show¬t.size≤j by omega)];refine Ah.of (Af (CZ (st5.blk k (Ff hp)) h0) fun H6 ha6=>?_);have st6:=st5.call ha6;by_cases h1:bt t j=44
   ·have d1:(((bt t j:Nat):Int)==44)=true:=by rw [h1];rfl
    have hu:upM t m j=(if bt t (j+1)=125 then .inr (-1,j+1)else if Do t (j+1)then .inr (((Bz t 3 (j+1) 0).1:Int),(Bz t 3 (j+1) 0).2)else .inl (20,j+1)):=by unfold upM;rw [if_pos h1]
    (conv=>whnf);rw [d1];refine VC.fa AJ ?_;refine ld1 (v:=.int .i64 ((j:Nat):Int)) ct3 (by rw [(st6.blk k (Ff hp)).cell];rfl) trivial ?_;(conv=>whnf);rw [w64 (x:=((j:Nat):Int)+1) (by omega) (by omega)];refine VC.fa AJ (AG st6 k ct3 (Ff hp) (by simp) rfl fun H7 st7=>?_);rw [LC hp]at st7;replace st7:StB B H4 H7 (ps.set k (pSc s t (j+1) ov)++[pB 77 q1 (Ab a (.func (.func g1) #[] c1)),pB 77 q2 Aj]):=st7;refine Ah.of (Af (Ee (st7.blk k (Ff hp))) fun H8 ha8=>?_);have st8:=st7.call ha8;by_cases h2:j+1<t.size
    ·rw [decide_eq_false (show¬t.size≤j+1 by omega)];refine Ah.of (Af (CZ (st8.blk k (Ff hp)) h2) fun H9 ha9=>?_);have st9:=st8.call ha9;by_cases h3:bt t (j+1)=125
     ·have d1:(((bt t (j+1):Nat):Int) != 125)=false:=by rw [h3];rfl
      (conv=>whnf);rw [d1];(conv=>whnf);exact⟨rfl,(-1,j+1),rfl,by rw [hu,if_pos h3],by omega,by omega,by omega,a4.trans st9.old,st9.rebase⟩
     ·have d1:(((bt t (j+1):Nat):Int) != 125)=true:=bne_iff_ne.2 (by omega);rw [if_neg h3]at hu;(conv=>whnf);rw [d1];refine Ah.mk (LA (by omega) (by omega) st9.rebase (Ff hp)) ?_ ?_
      ·rintro _ H10 ⟨hd2,rfl,st10⟩;rw [if_pos hd2]at hu;rw [LC hp]at st10;obtain⟨-,-,hj2⟩:=Fm (t:=t) 3 (j+1) 0;have hm2:=Jv (t:=t) 3 (j+1) 0;(conv=>whnf);exact⟨rfl,(_,_),rfl,hu,hj2 (by omega),by omega,by omega,(a4.trans st9.old).trans st10.old,st10.rebase⟩
      ·rintro _ H10 ⟨hd2,rfl,a10⟩;rw [if_neg (by rw [hd2];decide)]at hu;exact⟨20,j+1,by rw [hbr,hu],rfl,(a4.trans st9.old).trans a10⟩
    ·rw [decide_eq_true (show t.size≤j+1 by omega)];rw [if_neg (by rw [Cb h2];omega)]at hu;refine Ah.mk (LA (by omega) (by omega) st8.rebase (Ff hp)) ?_ ?_
     ·rintro _ H10 ⟨hd2,rfl,st10⟩;rw [if_pos hd2]at hu;rw [LC hp]at st10;obtain⟨-,-,hj2⟩:=Fm (t:=t) 3 (j+1) 0;have hm2:=Jv (t:=t) 3 (j+1) 0;(conv=>whnf);exact⟨rfl,(_,_),rfl,hu,hj2 (by omega),by omega,by omega,(a4.trans st8.old).trans st10.old,st10.rebase⟩
     ·rintro _ H10 ⟨hd2,rfl,a10⟩;rw [if_neg (by rw [hd2];decide)]at hu;exact⟨20,j+1,by rw [hbr,hu],rfl,(a4.trans st8.old).trans a10⟩
   ·have d1:(((bt t j:Nat):Int)==44)=false:=DY h1;(conv=>whnf);rw [d1];(conv=>whnf);exact⟨rfl,((m:Int),j),rfl,by unfold upM;rw [if_neg h1],hj,by omega,by omega,a4.trans st6.old,st6.rebase⟩
  ·rw [decide_eq_true (show t.size≤j by omega)];(conv=>whnf);exact⟨rfl,((m:Int),j),rfl,by unfold upM;rw [if_neg (by rw [Cb h0];omega)],hj,by omega,by omega,a4.trans st5.old,st5.rebase⟩
 ·rintro⟨n,e⟩ G junk ⟨hu,he,hn1,hn2,ag,stg⟩;rw [hu]at hbr;replace hbr:BD t i=E1 t i m n e:=hbr;refine AO.run (Ah.of (Af (Ee (stg.blk k (Ff hp))) fun H5 ha5=>?_));have st5:=stg.call ha5;by_cases h0:e<t.size
  ·rw [decide_eq_false (show¬t.size≤e by omega)];refine Ah.of (Af (CZ (st5.blk k (Ff hp)) h0) fun H6 ha6=>?_);have st6:=st5.call ha6;by_cases h1:bt t e=125
   ·have d1:(((bt t e:Nat):Int) != 125)=false:=by rw [h1];rfl
    have hen:E1 t i m n e=(if 255<m∨255<n∨(0≤n∧n<(m:Int))then .inl (22,i)else .inr (m,n,e+1)):=by unfold E1;rw [if_pos h1]
    (conv=>whnf);rw [d1];refine VC.fa AJ ?_;refine ld1 (v:=.int .i64 ((e:Nat):Int)) ct3 (by rw [(st6.blk k (Ff hp)).cell];rfl) trivial ?_;(conv=>whnf);rw [w64 (x:=((e:Nat):Int)+1) (by omega) (by omega)];refine VC.fa AJ (AG st6 k ct3 (Ff hp) (by simp) rfl fun H7 st7=>?_);rw [LC hp]at st7;replace st7:StB B G H7 (ps.set k (pSc s t (e+1) ov)++[pB 77 q1 (Ab a (.func (.func g1) #[] c1)),pB 77 q2 Aj]):=st7;refine AO.run ?_;(conv=>whnf);by_cases w1:255<m
    ·have e1:decide (255<(m:Int))=true:=decide_eq_true (by omega);(conv=>whnf);rw [e1];rw [if_pos (.inl w1)]at hen;refine Ah.mk (C2 (c:=22) (e:=i)) (fun _ _ h=>h.elim) ?_;rintro _ _ ⟨rfl,rfl⟩;exact⟨22,i,by rw [hbr,hen],rfl,ag.trans st7.old⟩
    ·have e1:decide (255<(m:Int))=false:=decide_eq_false (by omega);(conv=>whnf);rw [e1];by_cases c2:255<n
     ·have e2:decide (255<n)=true:=decide_eq_true c2;(conv=>whnf);rw [e2];rw [if_pos (.inr (.inl c2))]at hen;refine Ah.mk (C2 (c:=22) (e:=i)) (fun _ _ h=>h.elim) ?_;rintro _ _ ⟨rfl,rfl⟩;exact⟨22,i,by rw [hbr,hen],rfl,ag.trans st7.old⟩
     ·have e2:decide (255<n)=false:=decide_eq_false c2;(conv=>whnf);rw [e2];by_cases c3:0≤n
      ·have e3:decide (0≤n)=true:=decide_eq_true c3;(conv=>whnf);rw [e3];by_cases c4:n<(m:Int)
       ·have e4:decide (n<(m:Int))=true:=decide_eq_true c4;(conv=>whnf);rw [e4];rw [if_pos (.inr (.inr ⟨c3,c4⟩))]at hen;refine Ah.mk (C2 (c:=22) (e:=i)) (fun _ _ h=>h.elim) ?_;rintro _ _ ⟨rfl,rfl⟩;exact⟨22,i,by rw [hbr,hen],rfl,ag.trans st7.old⟩
       ·have e4:decide (n<(m:Int))=false:=decide_eq_false c4;(conv=>whnf);rw [e4];rw [if_neg (by omega)]at hen;refine ldN (cs:=Ab a (.func (.func g1) #[] c1)) Bj (Au (st7.blk _ (DB _ _))) trivial (Ah.of (Ai.mk (O5 st7 (ga.frame (ag.trans st7.old) fun k hk=>hk) (by omega) hn1 (by omega) (by omega)) ?_));rintro _ H8 ⟨B1,f1,rfl,s1,a8,st8,gs⟩;obtain⟨g2,c2,rfl⟩:=gs.fn;refine Be (cs:=Ab (BG a m n) (.func (.func g2) #[] c2)) st8 _ rfl (lgR _ _ 1) (by simp [Ab,Aj]) rfl fun H9 st9 ha9 hs9=>?_;rw [lsR,BZ rfl]at st9;refine ldN (cs:=Ab (BG a m n) (.func (.func g2) #[] c2)) Bj (Au (st9.blk _ (lgR _ _ 1))) trivial ?_;exact⟨m,n,e+1,by rw [hbr,hen],B1,_,rfl,s1,((ag.trans st7.old).trans (a8.mono fun k hk=>st7.up hk)).trans fun k hk=>st9.old k (s1 k hk),st9.lft.rebase,gs.frame st9.old fun k hk=>hk⟩
      ·have e3:decide (0≤n)=false:=decide_eq_false c3;(conv=>whnf);rw [e3];rw [if_neg (by omega)]at hen;refine ldN (cs:=Ab a (.func (.func g1) #[] c1)) Bj (Au (st7.blk _ (DB _ _))) trivial (Ah.of (Ai.mk (O5 st7 (ga.frame (ag.trans st7.old) fun k hk=>hk) (by omega) hn1 (by omega) (by omega)) ?_));rintro _ H8 ⟨B1,f1,rfl,s1,a8,st8,gs⟩;obtain⟨g2,c2,rfl⟩:=gs.fn;refine Be (cs:=Ab (BG a m n) (.func (.func g2) #[] c2)) st8 _ rfl (lgR _ _ 1) (by simp [Ab,Aj]) rfl fun H9 st9 ha9 hs9=>?_;rw [lsR,BZ rfl]at st9;refine ldN (cs:=Ab (BG a m n) (.func (.func g2) #[] c2)) Bj (Au (st9.blk _ (lgR _ _ 1))) trivial ?_;exact⟨m,n,e+1,by rw [hbr,hen],B1,_,rfl,s1,((ag.trans st7.old).trans (a8.mono fun k hk=>st7.up hk)).trans fun k hk=>st9.old k (s1 k hk),st9.lft.rebase,gs.frame st9.old fun k hk=>hk⟩
   ·have d1:(((bt t e:Nat):Int) != 125)=true:=bne_iff_ne.2 (by omega);(conv=>whnf);rw [d1];refine VC.fa AJ ?_;refine ld1 (v:=.int .i64 ((e:Nat):Int)) ct3 (by rw [(st6.blk k (Ff hp)).cell];rfl) trivial ?_;refine Ah.mk (C2 (c:=20) (e:=e)) (fun _ _ h=>h.elim) ?_;rintro _ _ ⟨rfl,rfl⟩;exact⟨20,e,by rw [hbr];unfold E1;rw [if_neg h1],rfl,ag.trans st6.old⟩
  ·rw [decide_eq_true (show t.size≤e by omega)];refine VC.fa AJ ?_;refine ld1 (v:=.int .i64 ((e:Nat):Int)) ct3 (by rw [(st5.blk k (Ff hp)).cell];rfl) trivial ?_;refine Ah.mk (C2 (c:=20) (e:=e)) (fun _ _ h=>h.elim) ?_;rintro _ _ ⟨rfl,rfl⟩;exact⟨20,e,by rw [hbr];unfold E1;rw [if_neg (by rw [Cb h0];omega)],rfl,ag.trans st5.old⟩
theorem EW{t:ByteArray}{i m k:Nat}{n:Int}{f:AF}{fs:List AF}{a:ReM}(hf:f.factor=some a)(hc:E6 (bt t i)=true)(hp:DT t i= .inr (m,n,k)):
  BO t ⟨i,f,fs⟩= .inr ⟨k,{f with factor:=some (BG a m n)},fs⟩:=by
 unfold BO;show(if E6 (bt t i)then _ else _)=_;rw [if_pos hc,hf];show(match DT t i with | .inl e=>_ | .inr (m,n,k)=>_)=_;rw [hp]
theorem IK{t:ByteArray}{i:Nat}{e:Nat×Nat}{f:AF}{fs:List AF}{a:ReM}(hf:f.factor=some a)(hc:E6 (bt t i)=true)(hp:DT t i= .inl e):
  BO t ⟨i,f,fs⟩= .inl e:=by
 unfold BO;show(if E6 (bt t i)then _ else _)=_;rw [if_pos hc,hf];show(match DT t i with | .inl e=>_ | .inr (m,n,k)=>_)=_;rw [hp]
theorem M2{c:Nat}(h:c=42∨c=43∨c=63∨c=123):E6 c=true:=by rcases h with rfl | rfl | rfl | rfl<;>rfl
theorem Il{c:Nat}(h1:c≠42)(h2:c≠43)(h3:c≠63)(h4:c≠123):E6 c=false:=by
 unfold E6;rw [beq_eq_false_iff_ne.2 h1,beq_eq_false_iff_ne.2 h2,beq_eq_false_iff_ne.2 h3,beq_eq_false_iff_ne.2 h4];rfl
structure Ux(B:Nat→Prop)(H:Aa)(ps:List Pc)(k s q1 q2 i:Nat)(t:ByteArray)(ov:Value)(f:AF)(fs:List AF)(j:Nat)(G:Aa):Prop where
 ex:∃(a:ReM) (B':Nat→Prop) (fn:Value),BC t ⟨i,f,fs⟩=BC t ⟨j,{f with factor:=some a},fs⟩∧i≤j∧j≤t.size∧(∀k,B k→B' k)∧Agr B H G∧
  StB B' G G (ps.set k (pSc s t j ov)++[pB 77 q1 (Ab a fn),pB 77 q2 Aj])∧Ck B' G fn a
theorem Pm{B:Nat→Prop}{H:Aa}{ps:List Pc}{k s i:Nat}{t:ByteArray}{ov:Value}{a:ReM}{va:Value}{f:AF}{fs:List AF}(ht:t.size≤1152921504606846)(hi:i≤t.size)(hf:f.factor=some a)(st:StB B H H ps)(hp:ps[k]? =some (pSc s t i ov))(ga:Ck B H va a):
  BA Tryz.prog 99 #[.pointer (some ⟨s,0,none⟩),.agg (Ab a va).toArray] H
   (fun v H'=>∃j r,i≤j∧j≤t.size∧E6 (bt t j)=false∧BC t ⟨i,f,fs⟩=BC t ⟨j,{f with factor:=some r},fs⟩∧P0 B H ps k s t j ov r v H')
   (fun x H'=>∃c p:Nat,BC t ⟨i,f,fs⟩= .inl (c,(p:Int))∧x=D3 c p∧Agr B H H'):=by
 obtain⟨g1,c1,rfl⟩:=ga.fn;refine BA.of_vc Tryz.func99 rfl (Tryz.call99 _) (BM (Ab a (.func (.func g1) #[] c1)) rfl ?_);intro q1 H1 hq1 hs1 hb1 ha1;have st1:=st.box hq1 hs1 hb1 ha1;refine Ag (.agg Aj.toArray) Aj CG rfl ?_;intro q2 H2 hq2 hs2 hb2 ha2;have st2:=st1.box hq2 hs2 hb2 ha2;rw [UR]at st2;replace st2:StB B H H2 (ps++[pB 77 q1 (Ab a (.func (.func g1) #[] c1)),pB 77 q2 Aj]):=st2;rw [←Cu hp]at st2;(conv=>whnf);refine DU.mk [] (fun _:Nat=>[]) (fun j G=>Ux B H ps k s q1 q2 i t ov f fs j G) (fun j _=>t.size - j) ?_ ?_
 ·(conv=>whnf);refine⟨i,rfl,⟨a,B,.func (.func g1) #[] c1,?_,UL _,hi,fun k hk=>hk,st2.old,st2.rebase,ga.frame st2.old fun k hk=>hk⟩⟩;rw [←hf]
 ·rintro j G junk ⟨a',B1,f1,hpr,hij,hj,s1,ag,stg,gv⟩;obtain⟨gg,cc,rfl⟩:=gv.fn;clear st st1 st2 ga hb1 hb2 ha1 ha2;have hpg:(ps.set k (pSc s t j ov)++[pB 77 q1 (Ab a' (.func (.func gg) #[] cc)),pB 77 q2 Aj])[k]? =some (pSc s t j ov):=Ff hp;refine Ah.of (Af (Ee (stg.blk k hpg)) fun G1 hg1=>?_);have sg1:=stg.call hg1;by_cases h0:j<t.size
  ·rw [decide_eq_false (show¬t.size≤j by omega)];refine AO.run (Ah.of (Af (CZ (sg1.blk k hpg) h0) fun G2 hg2=>?_));have sg2:=sg1.call hg2;have pst:∀{m k2:Nat} {n:Int},(bt t j=42∨bt t j=43∨bt t j=63∨bt t j=123)→DT t j= .inr (m,n,k2)→BC t ⟨i,f,fs⟩=BC t ⟨k2,{f with factor:=some (BG a' m n)},fs⟩:=fun hc hp=>by
    rw [hpr];exact D8 (s:=⟨j,{f with factor:=some a'},fs⟩) h0 (EW rfl (M2 hc) hp)
   by_cases h1:bt t j=42
   ·have d1:(((bt t j:Nat):Int)==42)=true:=by rw [h1];rfl
    (conv=>whnf);rw [d1];refine ldN (cs:=Ab a' (.func (.func gg) #[] cc)) Bj (Au (sg2.blk _ (DB _ _))) trivial (Ah.of (Ai.mk (JZ sg2 (gv.frame sg2.old fun k hk=>hk)) ?_));rintro _ G3 ⟨B2,f2,rfl,s2,a3,sg3,gs⟩;have ag3:Agr B H G3:=(ag.trans fun k hk=>sg2.old k (s1 k hk)).trans (a3.mono fun k hk=>sg2.up (s1 k hk));obtain⟨g2,c2,rfl⟩:=gs.fn;refine Be (cs:=Ab (.star a') (.func (.func g2) #[] c2)) sg3 _ rfl (DB _ _) (by simp [Ab]) rfl fun G4 sg4 ja js=>?_;rw [Ms]at sg4;have e9:Ac (Ab a' (.func (.func gg) #[] cc)) 0 (Ab (.star a') (.func (.func g2) #[] c2))=Ab (.star a') (.func (.func g2) #[] c2):=BZ rfl;replace sg4:StB B2 G3 G4 (ps.set k (pSc s t j ov)++[pB 77 q1 (Ac (Ab a' (.func (.func gg) #[] cc)) 0 (Ab (.star a') (.func (.func g2) #[] c2))),pB 77 q2 Aj]):=sg4;rw [e9]at sg4;refine VC.fa AJ ?_;refine ld1 (v:=.int .i64 ((j:Nat):Int)) ct3 (by rw [(sg4.blk k (Ff hp)).cell];rfl) trivial ?_;(conv=>whnf);rw [w64 (x:=((j:Nat):Int)+1) (by omega) (by omega)];refine VC.fa AJ (AG sg4 k ct3 (Ff hp) (by simp) rfl fun G5 sg5=>?_);rw [LC hp]at sg5;have ag5:Agr B G3 G5:=fun k hk=>sg5.old k (s2 k (s1 k hk));exact⟨rfl,j+1,rfl,⟨.star a',B2,.func (.func g2) #[] c2,pst (m:=0) (n:= -1) (.inl h1) (by unfold DT;rw [if_pos h1]),by omega,by omega,fun k hk=>s2 k (s1 k hk),ag3.trans ag5,sg5.rebase,gs.frame sg5.old fun k hk=>hk⟩,by omega⟩
   ·have d1:(((bt t j:Nat):Int)==42)=false:=DY h1;(conv=>whnf);rw [d1];by_cases h2:bt t j=43
    ·have d2:(((bt t j:Nat):Int)==43)=true:=by rw [h2];rfl
     (conv=>whnf);rw [d2];refine Ca.of (As.heldZ (Old G2) [4] (sq [0,1] (.f 2 (.f 3 (.f 4 .e)))) rfl (by kernel_rfl) (ldN (cs:=Ab a' (.func (.func gg) #[] cc)) Bj (Au (sg2.blk _ (DB _ _))) ((sg2.in_ _ (DB _ _) (k:=q1) rfl).2) (ldN (cs:=Ab a' (.func (.func gg) #[] cc)) Bj (Au (sg2.blk _ (DB _ _))) ((sg2.in_ _ (DB _ _) (k:=q1) rfl).2) (Ai.mk (JZ sg2 (gv.frame sg2.old fun k hk=>hk)) ?_))));rintro _ G6 ⟨B6,f6,rfl,s6,a6,sg6,gs6⟩;refine⟨a6,?_⟩;refine Ai.mk (E2 .cat sg6 ((gv.frame sg2.old fun k hk=>hk).frame (a6.mono fun k hk=>sg2.up hk) s6) gs6) ?_;rintro _ G3 ⟨B7,f7,rfl,s7,a7,sg3,gs⟩;have a67:=a6.trans (a7.mono fun k hk=>A0 a6 hk);refine⟨a67,?_⟩;have ag3:Agr B H G3:=(ag.trans fun k hk=>sg2.old k (s1 k hk)).trans (a67.mono fun k hk=>sg2.up (s1 k hk));obtain⟨B2,hB2⟩:∃B2,B2=B7:=⟨_,rfl⟩;rw [←hB2]at sg3 gs;have s2:∀k,B1 k→B2 k:=fun k hk=>by rw [hB2];exact s7 k (s6 k hk)
     obtain⟨g2,c2,rfl⟩:=gs.fn;refine Be (cs:=Ab (opR .cat a' (.star a')) (.func (.func g2) #[] c2)) sg3 _ rfl (DB _ _) (by simp [Ab]) rfl fun G4 sg4 ja js=>?_;rw [Ms]at sg4;have e9:Ac (Ab a' (.func (.func gg) #[] cc)) 0 (Ab (opR .cat a' (.star a')) (.func (.func g2) #[] c2))=Ab (opR .cat a' (.star a')) (.func (.func g2) #[] c2):=BZ rfl;replace sg4:StB B2 G3 G4 (ps.set k (pSc s t j ov)++[pB 77 q1 (Ac (Ab a' (.func (.func gg) #[] cc)) 0 (Ab (opR .cat a' (.star a')) (.func (.func g2) #[] c2))),pB 77 q2 Aj]):=sg4;rw [e9]at sg4;refine VC.fa AJ ?_;refine ld1 (v:=.int .i64 ((j:Nat):Int)) ct3 (by rw [(sg4.blk k (Ff hp)).cell];rfl) trivial ?_;(conv=>whnf);rw [w64 (x:=((j:Nat):Int)+1) (by omega) (by omega)];refine VC.fa AJ (AG sg4 k ct3 (Ff hp) (by simp) rfl fun G5 sg5=>?_);rw [LC hp]at sg5;have ag5:Agr B G3 G5:=fun k hk=>sg5.old k (s2 k (s1 k hk));exact⟨rfl,j+1,rfl,⟨opR .cat a' (.star a'),B2,.func (.func g2) #[] c2,pst (m:=1) (n:= -1) (.inr (.inl h2)) (by unfold DT;rw [if_neg h1,if_pos h2]),by omega,by omega,fun k hk=>s2 k (s1 k hk),ag3.trans ag5,sg5.rebase,gs.frame sg5.old fun k hk=>hk⟩,by omega⟩
    ·have d2:(((bt t j:Nat):Int)==43)=false:=DY h2;(conv=>whnf);rw [d2];by_cases h3:bt t j=63
     ·have d3:(((bt t j:Nat):Int)==63)=true:=by rw [h3];rfl
      (conv=>whnf);rw [d3];refine ldN (cs:=Ab a' (.func (.func gg) #[] cc)) Bj (Au (sg2.blk _ (DB _ _))) trivial (Ah.of (Ai.mk (Jt sg2 (gv.frame sg2.old fun k hk=>hk)) ?_));rintro _ G3 ⟨B2,f2,rfl,s2,a3,sg3,gs⟩;have ag3:Agr B H G3:=(ag.trans fun k hk=>sg2.old k (s1 k hk)).trans (a3.mono fun k hk=>sg2.up (s1 k hk));obtain⟨g2,c2,rfl⟩:=gs.fn;refine Be (cs:=Ab (AV a') (.func (.func g2) #[] c2)) sg3 _ rfl (DB _ _) (by simp [Ab]) rfl fun G4 sg4 ja js=>?_;rw [Ms]at sg4;have e9:Ac (Ab a' (.func (.func gg) #[] cc)) 0 (Ab (AV a') (.func (.func g2) #[] c2))=Ab (AV a') (.func (.func g2) #[] c2):=BZ rfl;replace sg4:StB B2 G3 G4 (ps.set k (pSc s t j ov)++[pB 77 q1 (Ac (Ab a' (.func (.func gg) #[] cc)) 0 (Ab (AV a') (.func (.func g2) #[] c2))),pB 77 q2 Aj]):=sg4;rw [e9]at sg4;refine VC.fa AJ ?_;refine ld1 (v:=.int .i64 ((j:Nat):Int)) ct3 (by rw [(sg4.blk k (Ff hp)).cell];rfl) trivial ?_;(conv=>whnf);rw [w64 (x:=((j:Nat):Int)+1) (by omega) (by omega)];refine VC.fa AJ (AG sg4 k ct3 (Ff hp) (by simp) rfl fun G5 sg5=>?_);rw [LC hp]at sg5;have ag5:Agr B G3 G5:=fun k hk=>sg5.old k (s2 k (s1 k hk));exact⟨rfl,j+1,rfl,⟨AV a',B2,.func (.func g2) #[] c2,pst (m:=0) (n:=1) (.inr (.inr (.inl h3))) (by unfold DT;rw [if_neg h1,if_neg h2,if_pos h3]),by omega,by omega,fun k hk=>s2 k (s1 k hk),ag3.trans ag5,sg5.rebase,gs.frame sg5.old fun k hk=>hk⟩,by omega⟩
     ·have d3:(((bt t j:Nat):Int)==63)=false:=DY h3;(conv=>whnf);rw [d3];by_cases h4:bt t j=123
      ·have d4:(((bt t j:Nat):Int)==123)=true:=by rw [h4];rfl
       (conv=>whnf);rw [d4];refine ldN (cs:=Ab a' (.func (.func gg) #[] cc)) Bj (Au (sg2.blk _ (DB _ _))) trivial (Ah.mk (PG ht h4 sg2.rebase hpg (gv.frame sg2.old fun k hk=>hk)) ?_ ?_)
       ·rintro _ G3 ⟨m,n,j2,hbm,⟨B2,f2,rfl,s2,a3,sg3,gs⟩⟩;have hok:=Hr hbm;rw [LC hp]at sg3;obtain⟨g2,c2,rfl⟩:=gs.fn;refine Be (cs:=Ab (BG a' m n) (.func (.func g2) #[] c2)) sg3 _ rfl (DB _ _) (by simp [Ab]) rfl fun G4 sg4 ja js=>?_;rw [Ms]at sg4;have e9:Ac (Ab a' (.func (.func gg) #[] cc)) 0 (Ab (BG a' m n) (.func (.func g2) #[] c2))=Ab (BG a' m n) (.func (.func g2) #[] c2):=BZ rfl;replace sg4:StB B2 G3 G4 (ps.set k (pSc s t j2 ov)++[pB 77 q1 (Ac (Ab a' (.func (.func gg) #[] cc)) 0 (Ab (BG a' m n) (.func (.func g2) #[] c2))),pB 77 q2 Aj]):=sg4;rw [e9]at sg4;(conv=>whnf);have ag3:Agr B H G3:=(ag.trans fun k hk=>sg2.old k (s1 k hk)).trans (a3.mono fun k hk=>s1 k hk);have ag5:Agr B G3 G4:=fun k hk=>sg4.old k (s2 k (s1 k hk));exact⟨rfl,j2,rfl,⟨BG a' m n,B2,.func (.func g2) #[] c2,pst (m:=m) (n:=n) (.inr (.inr (.inr h4))) (by unfold DT;rw [if_neg h1,if_neg h2,if_neg h3];exact hbm),by omega,by omega,fun k hk=>s2 k (s1 k hk),ag3.trans ag5,sg4.rebase,gs.frame sg4.old fun k hk=>hk⟩,by omega⟩
       ·rintro _ G3 ⟨c,p,hbm,rfl,a3⟩;refine⟨c,p,?_,rfl,(ag.trans fun k hk=>sg2.old k (s1 k hk)).trans (a3.mono fun k hk=>s1 k hk)⟩;rw [hpr];exact DL (s:=⟨j,{f with factor:=some a'},fs⟩) h0 (IK rfl (M2 (.inr (.inr (.inr h4)))) (by unfold DT;rw [if_neg h1,if_neg h2,if_neg h3];exact hbm))
      ·have d4:(((bt t j:Nat):Int)==123)=false:=DY h4;(conv=>whnf);rw [d4];refine ldN (cs:=Ab a' (.func (.func gg) #[] cc)) Bj (Au (sg2.blk _ (DB _ _))) trivial (Be (cs:=Ab a' (.func (.func gg) #[] cc)) sg2 _ rfl (lgR _ _ 1) (by simp [Ab,Aj]) rfl fun G9 sg9 ja js=>?_);rw [lsR,BZ rfl]at sg9;refine ldN (cs:=Ab a' (.func (.func gg) #[] cc)) Bj (Au (sg9.blk _ (lgR _ _ 1))) trivial ?_;exact⟨j,a',hij,hj,Il h1 h2 h3 h4,hpr,B1,_,rfl,s1,ag.trans fun k hk=>sg9.old k (s1 k hk),sg9.lft.rebase,gv.frame sg9.old fun k hk=>hk⟩
  ·rw [decide_eq_true (show t.size≤j by omega)];refine ldN (cs:=Ab a' (.func (.func gg) #[] cc)) Bj (Au (sg1.blk _ (DB _ _))) trivial (Be (cs:=Ab a' (.func (.func gg) #[] cc)) sg1 _ rfl (lgR _ _ 1) (by simp [Ab,Aj]) rfl fun G9 sg9 ja js=>?_);rw [lsR,BZ rfl]at sg9;refine ldN (cs:=Ab a' (.func (.func gg) #[] cc)) Bj (Au (sg9.blk _ (lgR _ _ 1))) trivial ?_;exact⟨j,a',hij,hj,by rw [Cb h0];rfl,hpr,B1,_,rfl,s1,ag.trans fun k hk=>sg9.old k (s1 k hk),sg9.lft.rebase,gv.frame sg9.old fun k hk=>hk⟩
def D4(ps:List Pc)(k r:Nat)(t:ByteArray)(q2 q3 i:Nat)(x:BitVec 256):List Pc:=ps.set k (pRd r t i)++[pB 102 q2 (Ak 0),pB 102 q3 (Ak x)]
theorem Cf{ps:List Pc}{k r q2 q3 i:Nat}{t:ByteArray}{x:BitVec 256}{p:Pc}(hp:ps[k]? =some p):(D4 ps k r t q2 q3 i x)[k]? =some (pRd r t i):=lgL (lgS hp)
theorem Cg{ps:List Pc}{k r q2 q3 i j:Nat}{t:ByteArray}{x:BitVec 256}{p:Pc}(hp:ps[k]? =some p):(D4 ps k r t q2 q3 i x).set k (pRd r t j)=D4 ps k r t q2 q3 j x:=by
 unfold D4;rw [lsL (lgS hp),UX]
theorem Cx{ps:List Pc}{k r q2 q3 i:Nat}{t:ByteArray}{x:BitVec 256}:(D4 ps k r t q2 q3 i x)[(ps.set k (pRd r t i)).length+1]? =some (pB 102 q3 (Ak x)):=lgR _ _ 1
theorem I5{ps:List Pc}{k r q2 q3 i:Nat}{t:ByteArray}{x:BitVec 256}:(D4 ps k r t q2 q3 i x)[(ps.set k (pRd r t i)).length+0]? =some (pB 102 q2 (Ak 0)):=lgR _ _ 0
theorem CD{H:Aa}{b:Nat}{x:BitVec 256}(h:Blk H b 102 (Ak x)):Bo H b 0 (Ak x):=h.cells (fun j v hv=>by rw [Va];exact hv)
structure T7(B:Nat→Prop)(H0:Aa)(ps:List Pc)(k r:Nat)(t:ByteArray)(q2 q3:Nat)(M:Sum Nat (BitVec 256×Nat))(y:Nat×Nat×BitVec 256)(G:Aa):Prop where
 le:y.1≤t.size
 fuel:t.size<y.2.1+y.1
 eq:C9 t y.2.1 y.1 y.2.2=M
 st:StB B H0 G (D4 ps k r t q2 q3 y.1 y.2.2)
theorem N6{B:Nat→Prop}{H0 H:Aa}{ps:List Pc}{k r i:Nat}{t:ByteArray}(hE:DP H0)(hEB:B 0)(ht:t.size≤1152921504606846976)(st:StB B H0 H ps)(hp:ps[k]? =some (pRd r t i))(hi:i≤t.size):
  BA Tryz.prog 135 #[.pointer (some ⟨r,0,none⟩)] H (fun v H'=>∃(x:BitVec 256) (j:Nat),Gp t i= .inr (x,j)∧v=BT x∧StB B H0 H' (ps.set k (pRd r t j)))
   (fun x H'=>∃e j:Nat,Gp t i= .inl e∧x=D3 10 e∧StB B H0 H' (ps.set k (pRd r t j))):=by
 refine BA.of_vc Tryz.func135 rfl (Tryz.call135 _) (Ag (BT 0) (Ak 0) rfl rfl ?_);intro q2 H2 hq2 hs2 hb2 ha2;have st2:=st.box hq2 hs2 hb2 ha2;refine Ag (BT 0) (Ak 0) rfl rfl ?_;intro q3 H3 hq3 hs3 hb3 ha3;have st3:=st2.box hq3 hs3 hb3 ha3;rw [UR]at st3;replace st3:StB B H0 H3 (D4 ps k r t q2 q3 i 0#256):=by
  unfold D4;rw [U8 hp];exact st3
 refine Ah.of (Af (GI (st3.blk k (Cf hp))) fun H4 ha4=>?_);have st4:=st3.call ha4;obtain⟨nt,hnt⟩:∃nt:Bool,nt=decide (bt t i=94):=⟨_,rfl⟩;have hbr:Gp t i=match C9 t (t.size+1) (if nt then i+1 else i) 0#256 with | .inl e=>.inl e | .inr (x,k)=>.inr (if nt then ~~~x else x,k):=by
  unfold Gp;rw [hnt];by_cases h:bt t i=94
  ·simp only [h,if_true,decide_true];cases C9 t (t.size+1) (i+1) 0#256<;>rfl
  ·simp only [h,if_false,decide_false,UY];cases C9 t (t.size+1) i 0#256<;>rfl
 obtain⟨M,hM⟩:∃M,M=C9 t (t.size+1) (if nt then i+1 else i) 0#256:=⟨_,rfl⟩;rw [←hM]at hbr;have hle:(if nt then i+1 else i)≤t.size:=by
  cases hn:nt with
  | false=>exact hi
  | true=>
    rw [hn]at hnt;have h94:=of_decide_eq_true hnt.symm;exact CX (by omega)
 by_cases h0:bt t i=256
 ·have hn0:nt=false:=by rw [hnt,decide_eq_false];omega
  rw [if_pos h0,decide_eq_false (by omega)];(conv=>whnf);refine AO.cut [] (fun _:Unit=>[]) (fun _ G=>StB B H0 G (D4 ps k r t q2 q3 (if nt then i+1 else i) 0#256)) ?_ ?_
  ·(conv=>whnf);exact⟨rfl,(),rfl,by rw [hn0];exact st4⟩
  ·rintro⟨⟩ G junk0 stg;(conv=>whnf);refine DU.mk [] (fun _:Nat×Nat×BitVec 256=>[]) (fun y G=>T7 B H0 ps k r t q2 q3 M y G) (fun y _=>t.size - y.1) ?_ ?_
   ·(conv=>whnf);exact⟨((if nt then i+1 else i),t.size+1,0#256),rfl,⟨hle,by simp only;omega,hM.symm,stg⟩⟩
   ·rintro⟨j,n,x⟩ J0 junk1 ⟨hj,hfu,heq,stl⟩;simp only at hj hfu heq stl;obtain⟨n,rfl⟩:∃m,n=m+1:=⟨n - 1,by omega⟩;(conv=>whnf);try (refine AO.run ?_)
    refine Ah.of (Af (GI (stl.blk k (Cf hp))) fun J1 ja1=>?_);have stl1:=stl.call ja1;by_cases hj0:bt t j=256
    ·rw [if_pos hj0,decide_eq_false (by omega)];have hmn:C9 t (n+1) j x= .inl j:=by
      unfold C9;rw [if_neg (by omega)];have:Bk t Bg j= .inl j:=by unfold Bk;rw [hj0,if_neg (by decide),if_pos (.inr (.inl (by decide)))]
      rw [this]
     (conv=>whnf);try (refine AO.run ?_)
     refine Ah.mk (FR (s:=Bg) hE hEB ht stl1 (Cf hp)) ?_ ?_
     ·rintro _ J2 ⟨lo,j1,hlo,rfl,stl2⟩;exfalso;have:Bk t Bg j= .inl j:=by unfold Bk;rw [hj0,if_neg (by decide),if_pos (.inr (.inl (by decide)))]
      rw [this]at hlo;cases hlo
     ·rintro _ J2 ⟨e,j1,hlo,rfl,stl2⟩;rw [Cg hp]at stl2;refine⟨e,j1,?_,rfl,stl2.lft⟩;have:Bk t Bg j= .inl j:=by unfold Bk;rw [hj0,if_neg (by decide),if_pos (.inr (.inl (by decide)))]
      rw [this]at hlo;cases hlo;rw [hbr,←heq,hmn]
    ·have hjl:=CX hj0;obtain⟨b1,hb1,hb2,hb3⟩:=CI hjl;rw [if_neg hj0,decide_eq_true (by omega)];by_cases h93:bt t j=93
     ·have d2:((bt t j:Int)==(93:Int))=true:=by rw [h93];rfl
      have hmn:M= .inr (x,j+1):=by rw [←heq];unfold C9;rw [if_pos h93]
      (conv=>whnf);try (refine AO.run ?_)
      (conv=>whnf);rw [d2];refine VC.fa A3 ?_;refine ld1 (v:=.int .i64 ((j:Nat):Int)) ct3 (by rw [(stl1.blk k (Cf hp)).cell];rfl) trivial ?_;(conv=>whnf);rw [w64 (x:=((j:Nat):Int)+1) (by omega) (by omega)];refine VC.fa A3 (AG stl1 k ct3 (Cf hp) (by simp) rfl fun J2 stl2=>?_);replace stl2:StB B H0 J2 ((D4 ps k r t q2 q3 j x).set k (pRd r t (j+1))):=stl2;rw [Cg hp]at stl2;rw [hmn]at hbr
      ·refine ldN (cs:=Ak x) B0 (CD (stl2.blk _ Cx)) trivial (Ay (cs:=Ak x) stl2 _ rfl I5 (UL _) rfl fun J4 stl4=>?_);have hb4:Blk J4 q2 102 (Ak x):=by
        have:=stl4.blk _ (lgS I5);rwa [A8 (by rfl)]at this
       unfold D4 at stl4;rw [lsR]at stl4;refine ldN (cs:=Ak x) B0 (CD hb4) trivial ?_;exact⟨x,j+1,by rw [hbr,hn0];rfl,rfl,stl4.lft⟩
     ·have d2:((bt t j:Int)==(93:Int))=false:=beq_eq_false_iff_ne.2 (by omega);(conv=>whnf);try (refine AO.run ?_)
      (conv=>whnf);rw [d2];refine Ah.mk (FR (s:=Bg) hE hEB ht stl1 (Cf hp)) ?_ ?_
      ·rintro _ J2 ⟨lo,j1,hlo,rfl,stl2⟩;rw [Cg hp]at stl2;have hok:=CE hlo;have hmn:C9 t (n+1) j x=F0 t lo j1 x (C9 t n):=by
        rw [C9,if_neg h93,hlo]
       rw [heq]at hmn;(conv=>whnf);try (refine AO.run ?_)
       refine Ah.of (Af (GI (stl2.blk k (Cf hp))) fun J3 ja3=>?_);have stl3:=stl2.call ja3;by_cases h45:bt t j1=45
       ·have hj1l:j1<t.size:=CX (by omega);rw [if_neg (by omega),decide_eq_true (by omega)];unfold F0 at hmn;rw [if_pos h45]at hmn;have d3:((bt t j1:Int)==(45:Int))=true:=by rw [h45];rfl
        (conv=>whnf);try (refine AO.run ?_)
        (conv=>whnf);rw [d3];refine VC.fa A3 ?_;refine ld1 (v:=.int .i64 ((j1:Nat):Int)) ct3 (by rw [(stl3.blk k (Cf hp)).cell];rfl) trivial ?_;(conv=>whnf);rw [w64 (x:=((j1:Nat):Int)+1) (by omega) (by omega)];refine VC.fa A3 (AG stl3 k ct3 (Cf hp) (by simp) rfl fun J4 stl4=>?_);replace stl4:StB B H0 J4 ((D4 ps k r t q2 q3 j1 x).set k (pRd r t (j1+1))):=stl4;rw [Cg hp]at stl4;refine VC.fa A3 ?_;refine ld1 (v:=.int .i64 ((j1+1:Nat):Int)) ct3 (by rw [(stl4.blk k (Cf hp)).cell];rfl) trivial ?_;refine Ah.mk (FR (s:=Bg) hE hEB ht stl4 (Cf hp)) ?_ ?_
        ·rintro _ J5 ⟨hi2,j2,hhi,rfl,stl5⟩;rw [Cg hp]at stl5;have hok2:=CE hhi;rw [hhi]at hmn;by_cases hlt:hi2<lo
         ·have d4:decide ((hi2:Int)<(lo:Int))=true:=decide_eq_true (by omega);simp only [if_pos hlt]at hmn;(conv=>whnf);rw [d4];refine Ah.mk CQ (fun _ _ h=>h.elim) ?_;rintro _ _ ⟨rfl,rfl⟩;exact⟨j1+1,j2,by rw [hbr,hmn],rfl,stl5.lft⟩
         ·have d4:decide ((hi2:Int)<(lo:Int))=false:=decide_eq_false (by omega);simp only [if_neg hlt]at hmn;(conv=>whnf);rw [d4];refine Ca.held (Old J5) [5] (sq [0,1,2] (.f 3 (.f 4 (.f 5 .e)))) (CL _ _) rfl (by kernel_rfl) (ldN (cs:=Ak x) B0 (CD (stl5.blk _ Cx)) ((stl5.in_ _ Cx (k:=q3) rfl).2) (Ah.of (Af (HN lo hi2 (by omega) (by omega) J5) fun J1 ja1=>(⟨ja1,?_⟩))));refine Ah.of (Af (GY x (AK lo hi2) J1) fun J2 ja2=>?_);have ja3:=ja1.trans (ja2.mono fun k hk=>A0 ja1 hk);refine⟨ja3,?_⟩;have stj:=stl5.call ja3;refine Ay (cs:=Ak (x ||| AK lo hi2)) stj _ rfl Cx (UL _) rfl fun J4 stj4=>?_;rw [A8 (by rfl)]at stj4;replace stj4:StB B H0 J4 (D4 ps k r t q2 q3 j2 (x ||| AK lo hi2)):=by
           unfold D4 at stj4 ⊢;rw [lsR]at stj4;exact stj4
          (conv=>whnf);exact⟨rfl,(j2,n,x ||| AK lo hi2),rfl,⟨by simp only;omega,by simp only;omega,hmn.symm,stj4⟩,by simp only;omega⟩
        ·rintro _ J5 ⟨e,j2,hhi,rfl,stl5⟩;rw [Cg hp]at stl5;rw [hhi]at hmn;exact⟨e,j2,by rw [hbr,hmn],rfl,stl5.lft⟩
       ·unfold F0 at hmn;rw [if_neg h45]at hmn;by_cases hj1:bt t j1=256
        ·rw [if_pos hj1,decide_eq_false (by omega)];(conv=>whnf);try (refine AO.run ?_)
         refine Ca.held (Old J3) [5] (sq [0,1,2] (.f 3 (.f 4 (.f 5 .e)))) (CL _ _) rfl (by kernel_rfl) (ldN (cs:=Ak x) B0 (CD (stl3.blk _ Cx)) ((stl3.in_ _ Cx (k:=q3) rfl).2) (Ah.of (Af (HN lo lo (by omega) (by omega) J3) fun J1 ja1=>(⟨ja1,?_⟩))));refine Ah.of (Af (GY x (AK lo lo) J1) fun J2 ja2=>?_);have ja3:=ja1.trans (ja2.mono fun k hk=>A0 ja1 hk);refine⟨ja3,?_⟩;have stj:=stl3.call ja3;refine Ay (cs:=Ak (x ||| AK lo lo)) stj _ rfl Cx (UL _) rfl fun J4 stj4=>?_;rw [A8 (by rfl)]at stj4;replace stj4:StB B H0 J4 (D4 ps k r t q2 q3 j1 (x ||| AK lo lo)):=by
          unfold D4 at stj4 ⊢;rw [lsR]at stj4;exact stj4
         (conv=>whnf);exact⟨rfl,(j1,n,x ||| AK lo lo),rfl,⟨by simp only;omega,by simp only;omega,hmn.symm,stj4⟩,by simp only;omega⟩
        ·have hb4:=CI (CX hj1);rw [if_neg hj1,decide_eq_true (by omega)];have d3:((bt t j1:Int)==(45:Int))=false:=beq_eq_false_iff_ne.2 (by omega);(conv=>whnf);try (refine AO.run ?_)
         (conv=>whnf);rw [d3];refine Ca.held (Old J3) [5] (sq [0,1,2] (.f 3 (.f 4 (.f 5 .e)))) (CL _ _) rfl (by kernel_rfl) (ldN (cs:=Ak x) B0 (CD (stl3.blk _ Cx)) ((stl3.in_ _ Cx (k:=q3) rfl).2) (Ah.of (Af (HN lo lo (by omega) (by omega) J3) fun J1 ja1=>(⟨ja1,?_⟩))));refine Ah.of (Af (GY x (AK lo lo) J1) fun J2 ja2=>?_);have ja3:=ja1.trans (ja2.mono fun k hk=>A0 ja1 hk);refine⟨ja3,?_⟩;have stj:=stl3.call ja3;refine Ay (cs:=Ak (x ||| AK lo lo)) stj _ rfl Cx (UL _) rfl fun J4 stj4=>?_;rw [A8 (by rfl)]at stj4;replace stj4:StB B H0 J4 (D4 ps k r t q2 q3 j1 (x ||| AK lo lo)):=by
          unfold D4 at stj4 ⊢;rw [lsR]at stj4;exact stj4
         (conv=>whnf);exact⟨rfl,(j1,n,x ||| AK lo lo),rfl,⟨by simp only;omega,by simp only;omega,hmn.symm,stj4⟩,by simp only;omega⟩
      ·rintro _ J2 ⟨e,j1,hlo,rfl,stl2⟩;rw [Cg hp]at stl2;refine⟨e,j1,?_,rfl,stl2.lft⟩;rw [hbr,←heq];unfold C9;rw [if_neg h93,hlo]
 ·have d1:((bt t i:Int)==(94:Int))=nt:=by
   rw [hnt];by_cases h:bt t i=94
   ·rw [h];rfl
   ·rw [decide_eq_false h];exact beq_eq_false_iff_ne.2 (by omega)
  rw [if_neg h0,decide_eq_true (by omega)];(conv=>whnf);rw [d1];(conv=>whnf);refine AO.cut [] (fun _:Unit=>[]) (fun _ G=>StB B H0 G (D4 ps k r t q2 q3 (if nt then i+1 else i) 0#256)) ?_ ?_
  ·refine AQ.mk (fun hn=>?_) (fun hn=>?_)
   ·(conv=>whnf);refine VC.fa A3 ?_;refine ld1 (v:=.int .i64 ((i:Nat):Int)) ct3 (by rw [(st4.blk k (Cf hp)).cell];rfl) trivial ?_;(conv=>whnf);rw [w64 (x:=((i:Nat):Int)+1) (by omega) (by omega)];refine VC.fa A3 (AG st4 k ct3 (Cf hp) (by simp) rfl fun H5 st5=>?_);replace st5:StB B H0 H5 ((D4 ps k r t q2 q3 i 0#256).set k (pRd r t (i+1))):=st5;rw [Cg hp]at st5;exact⟨rfl,(),rfl,by rw [hn];exact st5⟩
   ·(conv=>whnf);exact⟨rfl,(),rfl,by rw [hn];exact st4⟩
  ·rintro⟨⟩ G junk0 stg;(conv=>whnf);refine DU.mk [] (fun _:Nat×Nat×BitVec 256=>[]) (fun y G=>T7 B H0 ps k r t q2 q3 M y G) (fun y _=>t.size - y.1) ?_ ?_
   ·(conv=>whnf);exact⟨((if nt then i+1 else i),t.size+1,0#256),rfl,⟨hle,by simp only;omega,hM.symm,stg⟩⟩
   ·rintro⟨j,n,x⟩ J0 junk1 ⟨hj,hfu,heq,stl⟩;simp only at hj hfu heq stl;obtain⟨n,rfl⟩:∃m,n=m+1:=⟨n - 1,by omega⟩;(conv=>whnf);try (refine AO.run ?_)
    refine Ah.of (Af (GI (stl.blk k (Cf hp))) fun J1 ja1=>?_);have stl1:=stl.call ja1;by_cases hj0:bt t j=256
    ·rw [if_pos hj0,decide_eq_false (by omega)];have hmn:C9 t (n+1) j x= .inl j:=by
      unfold C9;rw [if_neg (by omega)];have:Bk t Bg j= .inl j:=by unfold Bk;rw [hj0,if_neg (by decide),if_pos (.inr (.inl (by decide)))]
      rw [this]
     (conv=>whnf);try (refine AO.run ?_)
     refine Ah.mk (FR (s:=Bg) hE hEB ht stl1 (Cf hp)) ?_ ?_
     ·rintro _ J2 ⟨lo,j1,hlo,rfl,stl2⟩;exfalso;have:Bk t Bg j= .inl j:=by unfold Bk;rw [hj0,if_neg (by decide),if_pos (.inr (.inl (by decide)))]
      rw [this]at hlo;cases hlo
     ·rintro _ J2 ⟨e,j1,hlo,rfl,stl2⟩;rw [Cg hp]at stl2;refine⟨e,j1,?_,rfl,stl2.lft⟩;have:Bk t Bg j= .inl j:=by unfold Bk;rw [hj0,if_neg (by decide),if_pos (.inr (.inl (by decide)))]
      rw [this]at hlo;cases hlo;rw [hbr,←heq,hmn]
    ·have hjl:=CX hj0;obtain⟨b1,hb1,hb2,hb3⟩:=CI hjl;rw [if_neg hj0,decide_eq_true (by omega)];by_cases h93:bt t j=93
     ·have d2:((bt t j:Int)==(93:Int))=true:=by rw [h93];rfl
      have hmn:M= .inr (x,j+1):=by rw [←heq];unfold C9;rw [if_pos h93]
      (conv=>whnf);try (refine AO.run ?_)
      (conv=>whnf);rw [d2];refine VC.fa A3 ?_;refine ld1 (v:=.int .i64 ((j:Nat):Int)) ct3 (by rw [(stl1.blk k (Cf hp)).cell];rfl) trivial ?_;(conv=>whnf);rw [w64 (x:=((j:Nat):Int)+1) (by omega) (by omega)];refine VC.fa A3 (AG stl1 k ct3 (Cf hp) (by simp) rfl fun J2 stl2=>?_);replace stl2:StB B H0 J2 ((D4 ps k r t q2 q3 j x).set k (pRd r t (j+1))):=stl2;rw [Cg hp]at stl2;rw [hmn]at hbr;refine AQ.mk (fun hn=>?_) (fun hn=>?_)
      ·refine ldN (cs:=Ak x) B0 (CD (stl2.blk _ Cx)) trivial (Ah.of (Af (Qo x J2) fun J3 ja3=>?_));have stl3:=stl2.call ja3;refine Ay (cs:=Ak (~~~x)) stl3 _ rfl I5 (UL _) rfl fun J4 stl4=>?_;have hb4:Blk J4 q2 102 (Ak (~~~x)):=by
        have:=stl4.blk _ (lgS I5);rwa [A8 (by rfl)]at this
       unfold D4 at stl4;rw [lsR]at stl4;refine ldN (cs:=Ak (~~~x)) B0 (CD hb4) trivial ?_;exact⟨~~~x,j+1,by rw [hbr,hn];rfl,rfl,stl4.lft⟩
      ·refine ldN (cs:=Ak x) B0 (CD (stl2.blk _ Cx)) trivial (Ay (cs:=Ak x) stl2 _ rfl I5 (UL _) rfl fun J4 stl4=>?_);have hb4:Blk J4 q2 102 (Ak x):=by
        have:=stl4.blk _ (lgS I5);rwa [A8 (by rfl)]at this
       unfold D4 at stl4;rw [lsR]at stl4;refine ldN (cs:=Ak x) B0 (CD hb4) trivial ?_;exact⟨x,j+1,by rw [hbr,hn];rfl,rfl,stl4.lft⟩
     ·have d2:((bt t j:Int)==(93:Int))=false:=beq_eq_false_iff_ne.2 (by omega);(conv=>whnf);try (refine AO.run ?_)
      (conv=>whnf);rw [d2];refine Ah.mk (FR (s:=Bg) hE hEB ht stl1 (Cf hp)) ?_ ?_
      ·rintro _ J2 ⟨lo,j1,hlo,rfl,stl2⟩;rw [Cg hp]at stl2;have hok:=CE hlo;have hmn:C9 t (n+1) j x=F0 t lo j1 x (C9 t n):=by
        rw [C9,if_neg h93,hlo]
       rw [heq]at hmn;(conv=>whnf);try (refine AO.run ?_)
       refine Ah.of (Af (GI (stl2.blk k (Cf hp))) fun J3 ja3=>?_);have stl3:=stl2.call ja3;by_cases h45:bt t j1=45
       ·have hj1l:j1<t.size:=CX (by omega);rw [if_neg (by omega),decide_eq_true (by omega)];unfold F0 at hmn;rw [if_pos h45]at hmn;have d3:((bt t j1:Int)==(45:Int))=true:=by rw [h45];rfl
        (conv=>whnf);try (refine AO.run ?_)
        (conv=>whnf);rw [d3];refine VC.fa A3 ?_;refine ld1 (v:=.int .i64 ((j1:Nat):Int)) ct3 (by rw [(stl3.blk k (Cf hp)).cell];rfl) trivial ?_;(conv=>whnf);rw [w64 (x:=((j1:Nat):Int)+1) (by omega) (by omega)];refine VC.fa A3 (AG stl3 k ct3 (Cf hp) (by simp) rfl fun J4 stl4=>?_);replace stl4:StB B H0 J4 ((D4 ps k r t q2 q3 j1 x).set k (pRd r t (j1+1))):=stl4;rw [Cg hp]at stl4;refine VC.fa A3 ?_;refine ld1 (v:=.int .i64 ((j1+1:Nat):Int)) ct3 (by rw [(stl4.blk k (Cf hp)).cell];rfl) trivial ?_;refine Ah.mk (FR (s:=Bg) hE hEB ht stl4 (Cf hp)) ?_ ?_
        ·rintro _ J5 ⟨hi2,j2,hhi,rfl,stl5⟩;rw [Cg hp]at stl5;have hok2:=CE hhi;rw [hhi]at hmn;by_cases hlt:hi2<lo
         ·have d4:decide ((hi2:Int)<(lo:Int))=true:=decide_eq_true (by omega);simp only [if_pos hlt]at hmn;(conv=>whnf);rw [d4];refine Ah.mk CQ (fun _ _ h=>h.elim) ?_;rintro _ _ ⟨rfl,rfl⟩;exact⟨j1+1,j2,by rw [hbr,hmn],rfl,stl5.lft⟩
         ·have d4:decide ((hi2:Int)<(lo:Int))=false:=decide_eq_false (by omega);simp only [if_neg hlt]at hmn;(conv=>whnf);rw [d4];refine Ca.held (Old J5) [5] (sq [0,1,2] (.f 3 (.f 4 (.f 5 .e)))) (CL _ _) rfl (by kernel_rfl) (ldN (cs:=Ak x) B0 (CD (stl5.blk _ Cx)) ((stl5.in_ _ Cx (k:=q3) rfl).2) (Ah.of (Af (HN lo hi2 (by omega) (by omega) J5) fun J1 ja1=>(⟨ja1,?_⟩))));refine Ah.of (Af (GY x (AK lo hi2) J1) fun J2 ja2=>?_);have ja3:=ja1.trans (ja2.mono fun k hk=>A0 ja1 hk);refine⟨ja3,?_⟩;have stj:=stl5.call ja3;refine Ay (cs:=Ak (x ||| AK lo hi2)) stj _ rfl Cx (UL _) rfl fun J4 stj4=>?_;rw [A8 (by rfl)]at stj4;replace stj4:StB B H0 J4 (D4 ps k r t q2 q3 j2 (x ||| AK lo hi2)):=by
           unfold D4 at stj4 ⊢;rw [lsR]at stj4;exact stj4
          (conv=>whnf);exact⟨rfl,(j2,n,x ||| AK lo hi2),rfl,⟨by simp only;omega,by simp only;omega,hmn.symm,stj4⟩,by simp only;omega⟩
        ·rintro _ J5 ⟨e,j2,hhi,rfl,stl5⟩;rw [Cg hp]at stl5;rw [hhi]at hmn;exact⟨e,j2,by rw [hbr,hmn],rfl,stl5.lft⟩
       ·unfold F0 at hmn;rw [if_neg h45]at hmn;by_cases hj1:bt t j1=256
        ·rw [if_pos hj1,decide_eq_false (by omega)];(conv=>whnf);try (refine AO.run ?_)
         refine Ca.held (Old J3) [5] (sq [0,1,2] (.f 3 (.f 4 (.f 5 .e)))) (CL _ _) rfl (by kernel_rfl) (ldN (cs:=Ak x) B0 (CD (stl3.blk _ Cx)) ((stl3.in_ _ Cx (k:=q3) rfl).2) (Ah.of (Af (HN lo lo (by omega) (by omega) J3) fun J1 ja1=>(⟨ja1,?_⟩))));refine Ah.of (Af (GY x (AK lo lo) J1) fun J2 ja2=>?_);have ja3:=ja1.trans (ja2.mono fun k hk=>A0 ja1 hk);refine⟨ja3,?_⟩;have stj:=stl3.call ja3;refine Ay (cs:=Ak (x ||| AK lo lo)) stj _ rfl Cx (UL _) rfl fun J4 stj4=>?_;rw [A8 (by rfl)]at stj4;replace stj4:StB B H0 J4 (D4 ps k r t q2 q3 j1 (x ||| AK lo lo)):=by
          unfold D4 at stj4 ⊢;rw [lsR]at stj4;exact stj4
         (conv=>whnf);exact⟨rfl,(j1,n,x ||| AK lo lo),rfl,⟨by simp only;omega,by simp only;omega,hmn.symm,stj4⟩,by simp only;omega⟩
        ·have hb4:=CI (CX hj1);rw [if_neg hj1,decide_eq_true (by omega)];have d3:((bt t j1:Int)==(45:Int))=false:=beq_eq_false_iff_ne.2 (by omega);(conv=>whnf);try (refine AO.run ?_)
         (conv=>whnf);rw [d3];refine Ca.held (Old J3) [5] (sq [0,1,2] (.f 3 (.f 4 (.f 5 .e)))) (CL _ _) rfl (by kernel_rfl) (ldN (cs:=Ak x) B0 (CD (stl3.blk _ Cx)) ((stl3.in_ _ Cx (k:=q3) rfl).2) (Ah.of (Af (HN lo lo (by omega) (by omega) J3) fun J1 ja1=>(⟨ja1,?_⟩))));refine Ah.of (Af (GY x (AK lo lo) J1) fun J2 ja2=>?_);have ja3:=ja1.trans (ja2.mono fun k hk=>A0 ja1 hk);refine⟨ja3,?_⟩;have stj:=stl3.call ja3;refine Ay (cs:=Ak (x ||| AK lo lo)) stj _ rfl Cx (UL _) rfl fun J4 stj4=>?_;rw [A8 (by rfl)]at stj4;replace stj4:StB B H0 J4 (D4 ps k r t q2 q3 j1 (x ||| AK lo lo)):=by
          unfold D4 at stj4 ⊢;rw [lsR]at stj4;exact stj4
         (conv=>whnf);exact⟨rfl,(j1,n,x ||| AK lo lo),rfl,⟨by simp only;omega,by simp only;omega,hmn.symm,stj4⟩,by simp only;omega⟩
      ·rintro _ J2 ⟨e,j1,hlo,rfl,stl2⟩;rw [Cg hp]at stl2;refine⟨e,j1,?_,rfl,stl2.lft⟩;rw [hbr,←heq];unfold C9;rw [if_neg h93,hlo]
end Go.Proofs.YtlnmhfhdjnenoaaGreatDoor
namespace Go.VC
theorem MP{P:Program}{t A:TypeId}{S:Nat→Prop}{H:Aa}{K:Value→Prop}{v:Value}{d:TypeDesc}(hd:P.underlying A=some d)(hn:∀ms,d≠ .interface ms)(k:K v):AB P (Instr.typeAssert (.iface A v) t A false) S H K:=by
 refine AB.mk _ (fun w _=>?_) k;unfold Instr.typeAssert;simp only [Sem.run_bind,run_underlying hd,Result.andThen_ok];cases d<;>first | (exact absurd rfl (hn _)) | simp
end Go.VC
namespace Go.Proofs.YtlnmhfhdjnenoaaGreatDoor
open Go.VC Go.Lib
theorem Uf:ofB 0#256 (byN ⟨#[10]⟩)=AK 10 10:=by decide+kernel
theorem SN{B:Nat→Prop}{H0 H:Aa}{ps:List Pc}{k r i:Nat}{t:ByteArray}(hE:DP H0)(hEB:B 0)(ht:t.size≤1152921504606846976)(st:StB B H0 H ps)(hp:ps[k]? =some (pRd r t i))(hi:i<t.size):
  BA Tryz.prog 128 #[.pointer (some ⟨r,0,none⟩)] H (fun v H'=>∃(x:BitVec 256) (j:Nat),Bm t i= .inr (x,j)∧v=BT x∧StB B H0 H' (ps.set k (pRd r t j)))
   (fun x H'=>∃e j:Nat,Bm t i= .inl e∧x=D3 10 e∧StB B H0 H' (ps.set k (pRd r t j))):=by
 refine BA.of_vc Tryz.func128 rfl (Tryz.call128 _) ?_;obtain⟨b,hb1,hb2,hb3⟩:=CI hi;refine Ag (BT 0) (Ak 0) rfl rfl ?_;intro q2 H2 hq2 hs2 hb2' ha2;have st2:=st.box hq2 hs2 hb2' ha2;have hp2:(ps++[pB 102 q2 (Ak 0)])[k]? =some (pRd r t i):=lgL hp;have hset:∀(j:Nat),(ps++[pB 102 q2 (Ak 0)]).set k (pRd r t j)=ps.set k (pRd r t j)++[pB 102 q2 (Ak 0)]:=fun j=>lsL hp;have hl:∀(j:Nat),(ps.set k (pRd r t j)++[pB 102 q2 (Ak 0)])[(ps.set k (pRd r t j)).length]? =some (pB 102 q2 (Ak 0)):=fun j=>DB _ _;have hbr:=st2.blk k hp2;refine Ca.of (As.lex rfl (by kernel_rfl) (VC.fa Lg ?_));refine ld1 (v:=.string t) ct9 (by rw [hbr.cell];rfl) trivial ?_;refine VC.fa A3 ?_;refine ld1 (v:=.int .i64 (i:Int)) ct3 (by rw [hbr.cell];rfl) trivial ?_;refine CS E7 rfl hb1 ?_;rw [←hb2];have fin:∀(x:BitVec 256) (j:Nat) (G:Aa),Bm t i= .inr (x,j)→StB B H0 G (ps.set k (pRd r t j)++[pB 102 q2 (Ak 0)])→True:=fun _ _ _ _ _=>trivial;by_cases h46:bt t i=46
 ·have d1:((bt t i:Int)==(46:Int))=true:=by rw [h46];rfl
  (conv=>whnf);try (refine AO.run ?_)
  (conv=>whnf);rw [d1];refine VC.fa A3 ?_;refine ld1 (v:=.int .i64 ((i:Nat):Int)) ct3 (by rw [(st2.blk k hp2).cell];rfl) trivial ?_;(conv=>whnf);rw [w64 (x:=((i:Nat):Int)+1) (by omega) (by omega)];refine VC.fa A3 (AG st2 k ct3 hp2 (by simp) rfl fun H4 st4=>?_);replace st4:StB B H0 H4 ((ps++[pB 102 q2 (Ak 0)]).set k (pRd r t (i+1))):=st4;rw [hset]at st4;refine Ah.of (Af (Ug ⟨#[10]⟩ (by decide) H4) fun H5 ha5=>?_);have st5:=st4.call ha5;rw [Uf];refine Ah.of (Af (Qo (AK 10 10) H5) fun H6 ha6=>?_);have st6:=st5.call ha6;refine Ay (cs:=Ak (~~~(AK 10 10))) st6 _ rfl (hl _) (UL _) rfl fun H7 st7=>?_;have hb7:Blk H7 q2 102 (Ak (~~~(AK 10 10))):=by
   have:=st7.blk _ (lgS (hl _));rwa [A8 (by rfl)]at this
  rw [Ms]at st7;refine ldN (cs:=Ak (~~~(AK 10 10))) B0 (CD hb7) trivial ?_;exact⟨_,i+1,by unfold Bm;rw [if_pos h46],rfl,st7.lft⟩
 have d1:((bt t i:Int)==(46:Int))=false:=beq_eq_false_iff_ne.2 (by omega);by_cases h91:bt t i=91
 ·have d2:((bt t i:Int)==(91:Int))=true:=by rw [h91];rfl
  have hrs:Bm t i=Gp t (i+1):=by unfold Bm;rw [if_neg h46,if_pos h91]
  (conv=>whnf);try (refine AO.run ?_)
  (conv=>whnf);rw [d1];(conv=>whnf);rw [d2];refine VC.fa A3 ?_;refine ld1 (v:=.int .i64 ((i:Nat):Int)) ct3 (by rw [(st2.blk k hp2).cell];rfl) trivial ?_;(conv=>whnf);rw [w64 (x:=((i:Nat):Int)+1) (by omega) (by omega)];refine VC.fa A3 (AG st2 k ct3 hp2 (by simp) rfl fun H4 st4=>?_);replace st4:StB B H0 H4 ((ps++[pB 102 q2 (Ak 0)]).set k (pRd r t (i+1))):=st4;refine Ah.mk (N6 hE hEB ht st4 (lgS hp2) (by omega)) ?_ ?_
  ·rintro _ H5 ⟨x,j,hx,rfl,st5⟩;rw [UX,hset]at st5;refine Ay (cs:=Ak x) st5 _ rfl (hl _) (UL _) rfl fun H7 st7=>?_;have hb7:Blk H7 q2 102 (Ak x):=by
    have:=st7.blk _ (lgS (hl _));rwa [A8 (by rfl)]at this
   rw [Ms]at st7;refine ldN (cs:=Ak x) B0 (CD hb7) trivial ?_;exact⟨x,j,by rw [hrs,hx],rfl,st7.lft⟩
  ·rintro _ H5 ⟨e,j,hx,rfl,st5⟩;rw [UX,hset]at st5;exact⟨e,j,by rw [hrs,hx],rfl,st5.lft⟩
 have d2:((bt t i:Int)==(91:Int))=false:=beq_eq_false_iff_ne.2 (by omega);have hrs:Bm t i=match Bk t Da i with | .inl e=>.inl e | .inr (b,k)=>.inr (AK b b,k):=by unfold Bm;rw [if_neg h46,if_neg h91];rfl
 (conv=>whnf);try (refine AO.run ?_)
 (conv=>whnf);rw [d1];(conv=>whnf);rw [d2];refine Ah.mk (FR (s:=Da) hE hEB ht st2 hp2) ?_ ?_
 ·rintro _ H5 ⟨c,j,hx,rfl,st5⟩;have hok:=CE hx;rw [hset]at st5;rw [hx]at hrs;refine Ah.of (Af (HN c c (by omega) (by omega) H5) fun H6 ha6=>?_);have st6:=st5.call ha6;refine Ay (cs:=Ak (AK c c)) st6 _ rfl (hl _) (UL _) rfl fun H7 st7=>?_;have hb7:Blk H7 q2 102 (Ak (AK c c)):=by
   have:=st7.blk _ (lgS (hl _));rwa [A8 (by rfl)]at this
  rw [Ms]at st7;refine ldN (cs:=Ak (AK c c)) B0 (CD hb7) trivial ?_;exact⟨_,j,hrs,rfl,st7.lft⟩
 ·rintro _ H5 ⟨e,j,hx,rfl,st5⟩;rw [hset]at st5;rw [hx]at hrs;exact⟨e,j,hrs,rfl,st5.lft⟩
def DX(c i:Nat):Value:=.agg #[.int .i64 (c:Int),.int .i64 (i:Int),.string ⟨#[]⟩]
def An(c i:Nat):List Value:=[.int .i64 (c:Int),.int .i64 (i:Int),.string ⟨#[]⟩]
def O2(q4 q5 q6:Nat)(x:BitVec 256)(j c e:Nat):List Pc:=[pB 102 q4 (Ak x),pB 3 q5 [.int .i64 (j:Int)],pB 27 q6 (An c e)]
theorem RH{H:Aa}{q4 q5 q6:Nat}{K:Aa→Prop}(k:K H):Ej Tryz.prog 127 #[.pointer (some ⟨q4,0,none⟩),.pointer (some ⟨q5,0,none⟩),.pointer (some ⟨q6,0,none⟩)] .returning .returning H K:=by
 refine Ej.mk (R:=fun H'=>H'=H) (FG (R:=fun H'=>H'=H) Tryz.func127 rfl ⟨⟨_,rfl⟩,rfl,rfl,rfl,rfl,rfl⟩ .ret rfl ?_) (fun H' h=>by rw [h];exact k);(conv=>whnf);refine⟨rfl,?_⟩;refine Qe Tryz.underlying20 ?_;(conv=>whnf)
theorem RG{B:Nat→Prop}{H0 H:Aa}{q4 q5 q6 e j c0 e0:Nat}{x:BitVec 256}{ps:List Pc}{K:Aa→Prop}(st:StB B H0 H (O2 q4 q5 q6 x j c0 e0++ps))(k:∀H',StB B H0 H' (O2 q4 q5 q6 0 0 10 e++ps)→K H'):
  Ej Tryz.prog 127 #[.pointer (some ⟨q4,0,none⟩),.pointer (some ⟨q5,0,none⟩),.pointer (some ⟨q6,0,none⟩)] (.panicking (pe (D3 10 e))) (.panicking [{v:=D3 10 e,recovered:=true}]) H K:=by
 refine Ej.mk (R:=fun H'=>StB B H0 H' (O2 q4 q5 q6 0 0 10 e++ps)) (FG (R:=fun H'=>StB B H0 H' (O2 q4 q5 q6 0 0 10 e++ps)) Tryz.func127 rfl ⟨⟨_,rfl⟩,rfl,rfl,rfl,rfl,rfl⟩ (.pan _) rfl ?_) k;(conv=>whnf);refine⟨rfl,?_⟩;refine On Tryz.underlying20 (As.held (fun _=>False) 6 (sq [0,1,2] (.f 3 (.f 4 (.f 5 .e)))) rfl (by kernel_rfl) (CR Dm (BT 0) rfl (Ak 0) rfl (MP Tryz.underlying27 (fun ms h=>by cases h) (Ay (cs:=Ak 0) st 0 rfl rfl (UL _) rfl fun H1 st1=>(⟨fun k hk=>hk.elim,?_⟩)))));refine AG st1 1 ct3 rfl (by simp) rfl fun H2 st2=>(⟨fun k hk=>hk.elim,?_⟩);refine Ay (cs:=An 10 e) st2 2 rfl rfl (UL _) rfl fun H3 st3=>(⟨fun k hk=>hk.elim,?_⟩);(conv=>whnf);have e1:Ac (Ak x) 0 (Ak 0)=Ak 0:=A8 rfl;have e2:Ac (An c0 e0) 0 (An 10 e)=An 10 e:=A8 rfl;rw [e2]at st3;rw [e1]at st3;exact st3
def Jz(t:ByteArray)(i:Nat)(v:Value):Prop:=match Bm t i with
 | .inl e=>v= .tuple #[BT 0,.int .i64 0,DX 10 e]
 | .inr (x,j)=>v= .tuple #[BT x,.int .i64 (j:Int),DX 0 0]
theorem Em{H:Aa}{t:ByteArray}{i:Nat}(hE:DP H)(ht:t.size≤1152921504606846976)(hi:i<t.size):
  Ao Tryz.prog 112 #[.string t,.int .i64 (i:Int)] H fun v H'=>Agr (Old H) H H'∧Jz t i v:=by
 refine Ao.of_defer Tryz.func112 rfl (Tryz.call112 _) ⟨rfl,rfl,rfl,⟨_,rfl⟩,rfl,rfl⟩ (fun vs w=>Tryz.call127 _ w) (Ag (BT 0) (Ak 0) rfl rfl ?_);intro q4 H1 hq1 hs1 hb1 ha1;have st1:=(St.nil H).box hq1 hs1 hb1 ha1;refine Ag (.int .i64 0) [.int .i64 0] rfl rfl ?_;intro q5 H2 hq2 hs2 hb2 ha2;have st2:=st1.box hq2 hs2 hb2 ha2;refine Ag (DX 0 0) (An 0 0) rfl rfl ?_;intro q6 H3 hq3 hs3 hb3 ha3;have st3:=st2.box hq3 hs3 hb3 ha3;have d1:decide ((i:Int)<0)=false:=decide_eq_false (by omega);have d2:decide ((i:Int)≥(t.size:Int))=false:=decide_eq_false (by omega);(conv=>whnf);rw [d1];(conv=>whnf);rw [d2];(conv=>whnf);refine⟨rfl,?_⟩;refine Av Tryz.underlying206 rfl _ rfl (rdL t i) rfl (BM (rdL t i) rfl ?_);intro r H4 hq4 hs4 hb4 ha4;have st4:=st3.box hq4 hs4 hb4 ha4;have o3:q4<q5:=by have:q5=H1.size:=hq2;omega
 have o4:q5<q6:=by have:q6=H2.size:=hq3;omega
 have o5:q6<r:=by have:r=H3.size:=hq4;omega
 refine Ah.mk (SN (k:=3) hE hE.2 ht st4 rfl hi) ?_ ?_
 ·rintro _ H5 ⟨x,j,hx,rfl,st5⟩;refine Ay (cs:=Ak x) st5 0 rfl rfl (UL _) rfl fun H6 st6=>?_;have e1:Ac (Ak 0) 0 (Ak x)=Ak x:=A8 rfl;rw [e1]at st6;have b4:=st6.blk 0 rfl;have br:Blk H6 r 206 (rdL t j):=st6.blk 3 rfl;refine Ca.held (fun k=>k=q4∨k=r) [] (sq [0,1,2,3,4,5] (.f 6 (.f 7 (.f 8 .e)))) (Nb (R:=fun v H5=>Agr (Old H) H H5∧Jz t i v) (by kernel_rfl)) rfl (by kernel_rfl) (ldN (cs:=Ak x) B0 (CD b4) (.inl rfl) (VC.fa A3 ?_));refine ld1 (v:=.int .i64 (j:Int)) ct3 (by rw [br.cell];rfl) (.inr rfl) ?_;refine Av Tryz.underlying27 rfl _ rfl (An 0 0) rfl (Be (cs:=Ak x) st6 0 rfl rfl (UL _) rfl fun H7 st7 ha7 hs7=>?_);have e2:Ac (Ak x) 0 (Ak x)=Ak x:=A8 rfl;rw [e2]at st7;have a7:Agr (fun k=>k=q4∨k=r) H6 H7:=fun k hk=>by
   rcases hk with h | h
   ·rw [h];exact(st7.blk 0 rfl).trans b4.symm
   ·exact ha7 _ (show k≠q4 by omega)
  refine⟨a7,?_⟩;refine QK st7 1 ct3 rfl (by simp) rfl fun H8 st8 ha8 hs8=>?_;have a8:Agr (fun k=>k=q4∨k=r) H6 H8:=a7.trans (ha8.mono fun k hk=>by rcases hk with rfl | rfl<;>omega);refine⟨a8,?_⟩;refine Be (cs:=An 0 0) st8 2 rfl rfl (UL _) rfl fun H9 st9 ha9 hs9=>?_;have a9:Agr (fun k=>k=q4∨k=r) H6 H9:=a8.trans (ha9.mono fun k hk=>by rcases hk with rfl | rfl<;>omega);refine⟨a9,?_⟩;(conv=>whnf);refine RH (ldN (cs:=Ak x) B0 (CD (st9.blk 0 rfl)) trivial ?_);refine ld1 (v:=.int .i64 (j:Int)) ct3 (by rw [(st9.blk 1 rfl).cell];rfl) trivial ?_;refine ldN (cs:=An 0 0) J7 ((st9.blk 2 rfl).cells (fun j v hv=>by rw [Va];exact hv)) trivial ?_;refine⟨st9.old,?_⟩;unfold Jz;rw [hx];rfl
 ·rintro _ H5 ⟨e,j,hx,rfl,st5⟩;refine RG (q4:=q4) (q5:=q5) (q6:=q6) (x:=0) (j:=0) (c0:=0) (e0:=0) st5 fun H6 st6=>(ldN (cs:=Ak 0) B0 (CD (st6.blk 0 rfl)) trivial ?_);refine ld1 (v:=.int .i64 0) ct3 (by rw [(st6.blk 1 rfl).cell];rfl) trivial ?_;refine ldN (cs:=An 10 e) J7 ((st6.blk 2 rfl).cells (fun j v hv=>by rw [Va];exact hv)) trivial ?_;refine⟨st6.old,?_⟩;unfold Jz;rw [hx];rfl
end Go.Proofs.YtlnmhfhdjnenoaaGreatDoor
namespace Go.VC
inductive Sc3 where
 | e
 | q (i:Nat) (s:Sc3)
 | f (i:Nat) (s:Sc3)
 | b (i:Nat) (s:Sc3) (j:Nat) (s':Sc3)
 | t (i:Nat) (s:Sc3) (j:Nat) (s':Sc3) (k:Nat) (s'':Sc3)
def sq3:List Nat→Sc3→Sc3
 | [],s=>s
 | i::l,s=>.q i (sq3 l s)
def Sc3.len:Sc3→Nat
 | .e=>0
 | .q _ s=>s.len+1
 | .f _ s=>s.len+1
 | .b _ s _ _=>s.len+1
 | .t _ s _ _ _ _=>s.len+1
def Sc3.even:Sc3→Bool
 | .e=>true
 | .q _ s=>s.even
 | .f _ s=>s.even
 | .b _ s _ s'=>s.even&&s'.even&&s.len==s'.len
 | .t _ s _ s' _ s''=>s.even&&s'.even&&s''.even&&s.len==s'.len&&s.len==s''.len
def DD(ops:Array Oper):Sc3→Array Bool→Bool
 | .e,listed=>(Region.ready .any ops listed).isEmpty
 | .q i s,listed=>(Region.ready .any ops listed).contains i&&Region.free .any ops listed i&&DD ops s (listed.setIfInBounds i true)
 | .f i s,listed=>Region.ready .any ops listed==[i]&&DD ops s (listed.setIfInBounds i true)
 | .b i s j s',listed=>Region.ready .any ops listed==[i,j]&&DD ops s (listed.setIfInBounds i true)&&DD ops s' (listed.setIfInBounds j true)
 | .t i s j s' k s'',listed=>Region.ready .any ops listed==[i,j,k]&&DD ops s (listed.setIfInBounds i true)&&DD ops s' (listed.setIfInBounds j true)&&DD ops s'' (listed.setIfInBounds k true)
def held3(P:Program)(S:Nat→Prop)(H0:Aa)(all:List Oper)(s:Sc3):Fr→Aa→(Fr→Aa→Prop)→Prop:=
 Sc3.rec (motive:=fun _=>Fr→Aa→(Fr→Aa→Prop)→Prop) (fun fr H K=>K fr H)
  (fun i _ ih fr H K=>match all[i]? with
   | none=>False
   | some o=>MQ all o fr (N1 P S o H fun fr' H'=>ih fr' H' K) (ME o H fun fr' H'=>ih fr' H' K))
  (fun i _ ih fr H K=>IR P S [] H0 all i fr H fun fr' H'=>ih fr' H' K)
  (fun i _ j _ ih ih' fr H K=>(IR P S [] H0 all i fr H fun fr' H'=>ih fr' H' K)∧IR P S [] H0 all j fr H fun fr' H'=>ih' fr' H' K)
  (fun i _ j _ k _ ih ih' ih'' fr H K=>(IR P S [] H0 all i fr H fun fr' H'=>ih fr' H' K)∧(IR P S [] H0 all j fr H fun fr' H'=>ih' fr' H' K)∧IR P S [] H0 all k fr H fun fr' H'=>ih'' fr' H' K) s
theorem Ry(P:Program)(S:Nat→Prop)(H0:Aa)(all:List Oper)(i:Nat)(s:Sc3)(fr:Fr)(H:Aa)(K:Fr→Aa→Prop):held3 P S H0 all (.q i s) fr H K=
  (match all[i]? with
   | none=>False
   | some o=>MQ all o fr (N1 P S o H fun fr' H'=>held3 P S H0 all s fr' H' K) (ME o H fun fr' H'=>held3 P S H0 all s fr' H' K)):=rfl
theorem Cq{P:Program}{S:Nat→Prop}{w0:World}{all:List Oper}{Q:Exit→Act→World→Prop}(hs:Region.noSelect all.toArray=true)
  (hp:∀c a w,¬Q (.panic c) a w):∀(l:Sc3) (listed:Array Bool) (fr:Fr) (a:Act) (w:World) (K:Fr→Aa→Prop),At fr a→Env w0 w→Cls w0 S w→HS all.toArray listed→
  (∀fr' a' w',At fr' a'→Env w0 w'→K fr' w'.heap→Q .normal a' w')→DD all.toArray l listed=true→l.even=true→
  held3 P S w0.heap all l fr w.heap K→HP P all.toArray Q (Cls w0 S) [] l.len listed a w
 | .e,listed,fr,a,w,K,hat,he,_,_,hq,hB,_,h=>⟨by simpa [DD]using hB,hq fr a w hat he h⟩
 | .q i s,listed,fr,a,w,K,hat,he,hc,hsh,hq,hB,hev,h=>by
   simp only [DD,UQ]at hB;obtain⟨⟨b1,b2⟩,hB2⟩:=hB;rw [Ry]at h;split at h
   ·exact h.elim
   ·rename_i o ho;have ho':all.toArray[i]? =some o:=by simpa using ho
    have hri:i∈Region.ready .any all.toArray listed:=by simpa using b1
    rcases IS hat h with⟨hwant,h⟩ | ⟨hwant,h⟩
    ·unfold N1 at h;split at h
     ·obtain⟨v,hv,hk⟩:=DW h;rw [BF]at hk;refine EE (v:=v) (f:=all.toArray.size) ho' (Region.noSelect_spec hs) (fun c a' w' hh=>(hp _ _ _ hh).elim) rfl (fun j hj=>by cases hj) s.len listed a w hsh (Region.free_spec ho' b2) hri
       (.inl ⟨hwant,fun w' hw'=>?_⟩) hc ?_
      ·rw [hat.evalF];exact hv w' fun k hk=>(hw'.2 k hk).trans (hc.2 k hk).symm
      ·exact Cq hs hp s _ _ _ w K (hat.put o.dst v) he hc (hsh.put hri) hq hB2 hev hk
     ·exact h.elim
    ·unfold ME at h;rw [BF]at h;exact EE (v:=undef) (f:=all.toArray.size) ho' (Region.noSelect_spec hs) (fun c a' w' hh=>(hp _ _ _ hh).elim) rfl (fun j hj=>by cases hj) s.len listed a w hsh (Region.free_spec ho' b2) hri
      (.inr ⟨hwant,rfl⟩) hc (Cq hs hp s _ _ _ w K (hat.put o.dst undef) he hc (hsh.put hri) hq hB2 hev h)
 | .f i s,listed,fr,a,w,K,hat,he,hc,hsh,hq,hB,hev,h=>by
   simp only [DD,UQ,beq_iff_eq]at hB;obtain⟨b1,hB2⟩:=hB;refine⟨(fun h0=>by rw [b1]at h0;cases h0),fun j hj=>?_⟩;have hj0:=hj;rw [b1]at hj;obtain rfl:j=i:=by simpa using hj
   exact DA (Z:=[]) hat he (fun _=>hc) h fun fr' a' w' h1 h2 h3 h4=>⟨h3,Cq hs hp s _ _ _ w' K h1 h2 (h3 rfl) (hsh.put hj0) hq hB2 hev h4⟩
 | .b i s j s',listed,fr,a,w,K,hat,he,hc,hsh,hq,hB,hev,h=>by
   simp only [DD,UQ,beq_iff_eq]at hB;obtain⟨⟨b1,hB2⟩,hB3⟩:=hB;simp only [Sc3.even,UQ,beq_iff_eq]at hev;obtain⟨⟨e1,e2⟩,e3⟩:=hev;refine⟨(fun h0=>by rw [b1]at h0;cases h0),fun k hk=>?_⟩;have hk0:=hk;rw [b1]at hk;rcases Ve.1 hk with rfl | hk
   ·exact DA (Z:=[]) hat he (fun _=>hc) h.1 fun fr' a' w' h1 h2 h3 h4=>⟨h3,Cq hs hp s _ _ _ w' K h1 h2 (h3 rfl) (hsh.put hk0) hq hB2 e1 h4⟩
   ·obtain rfl:k=j:=by simpa using hk
    rw [e3];exact DA (Z:=[]) hat he (fun _=>hc) h.2 fun fr' a' w' h1 h2 h3 h4=>⟨h3,Cq hs hp s' _ _ _ w' K h1 h2 (h3 rfl) (hsh.put hk0) hq hB3 e2 h4⟩
 | .t i s j s' m s'',listed,fr,a,w,K,hat,he,hc,hsh,hq,hB,hev,h=>by
   simp only [DD,UQ,beq_iff_eq]at hB;obtain⟨⟨⟨b1,hB2⟩,hB3⟩,hB4⟩:=hB;simp only [Sc3.even,UQ,beq_iff_eq]at hev;obtain⟨⟨⟨⟨e1,e2⟩,e3⟩,e4⟩,e5⟩:=hev;refine⟨(fun h0=>by rw [b1]at h0;cases h0),fun k hk=>?_⟩;have hk0:=hk;rw [b1]at hk;rcases Ve.1 hk with rfl | hk
   ·exact DA (Z:=[]) hat he (fun _=>hc) h.1 fun fr' a' w' h1 h2 h3 h4=>⟨h3,Cq hs hp s _ _ _ w' K h1 h2 (h3 rfl) (hsh.put hk0) hq hB2 e1 h4⟩
   ·rcases Ve.1 hk with rfl | hk
    ·rw [e4];exact DA (Z:=[]) hat he (fun _=>hc) h.2.1 fun fr' a' w' h1 h2 h3 h4=>⟨h3,Cq hs hp s' _ _ _ w' K h1 h2 (h3 rfl) (hsh.put hk0) hq hB3 e2 h4⟩
    ·obtain rfl:k=m:=by simpa using hk
     rw [e5];exact DA (Z:=[]) hat he (fun _=>hc) h.2.2 fun fr' a' w' h1 h2 h3 h4=>⟨h3,Cq hs hp s'' _ _ _ w' K h1 h2 (h3 rfl) (hsh.put hk0) hq hB4 e3 h4⟩
theorem As.held3{P:Program}{l:List Oper}{fr:Fr}{H:Aa}{K:Fr→Aa→Prop}(S:Nat→Prop)(sched:Sc3)(hm:P.follows .mixedOrders=true)
  (hB:(Region.noSelect l.toArray&&(sched.len==l.length)&&sched.even&&DD l.toArray sched (Vc l.length false))=true)
  (h:VC.held3 P S H l sched fr H K):As P l fr H K:=by
 refine⟨?_⟩;intro id Q a w hat hw hp hq;subst hw;simp only [UQ,beq_iff_eq]at hB;refine wp_region_any hm (Gc (S:=Cls w S) (Z:=[]) _ _ _ _ ?_);have hsh:HS l.toArray (Vc l.length false):=fun j o _ hj=>by
  rw [Array.getD_eq_getD_getElem?,Array.getElem?_replicate]at hj;split at hj<;>simp at hj
 have:=Cq (P:=P) (S:=S) (w0:=w) (Q:=Q) hB.1.1.1 hp sched (Vc l.length false) fr a {w with drawn:=w.drawn+1} K hat ⟨rfl,rfl,rfl⟩ ⟨⟨rfl,rfl,rfl⟩,Agr.refl _ _⟩ hsh hq hB.2 hB.1.2 h;rw [hB.1.1.2]at this;simpa using this
end Go.VC
