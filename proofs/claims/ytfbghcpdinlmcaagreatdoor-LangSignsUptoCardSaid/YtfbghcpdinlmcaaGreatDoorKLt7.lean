/- Parts of the proof: PPa4, PRd4, PRd5, PPa5, PPa6, PPa7, PDp3, PDp4, PDp5, PDp6 -/
import Derived.Test.YtfbghcpdinlmcaaGreatDoorKLt6
import Derived.Test.YtfbghcpdinlmcaaGreatDoorKLt2
set_option maxHeartbeats 64000000
open Bool renaming or_false → AaU, true_and → Ab8, and_false → AbV, false_and → AbW, or_true → Ac3, false_eq_true → AcM
open Int renaming eq_ofNat_of_zero_le → AbD, toNat_natCast → Ac4, natCast_mul → Ac8
open List renaming set_cons_succ → AaS, set_cons_zero → AaT, append_assoc → AbM, getElem?_eq_none → AcK
open Nat renaming le_refl → AaV, pow_le_pow_right → AbH, lt_of_lt_of_le → AbK, mul_le_mul_left → AbX, mul_le_mul_right → Ac5, mul_le_mul → AcF, zero_add → AcL, pow_succ → AcN, mul_add → AcO
open Option renaming isSome_iff_exists → AbY
set_option linter.unusedVariables false
set_option linter.unusedSimpArgs false
set_option maxRecDepth 100000
namespace Go.Proofs.YtfbghcpdinlmcaaGreatDoor
open Go.VC Go.Lib
theorem Ij(a:ReM)(m:Nat):BS a m 1=some (if 0<m then a else Bj a):=rfl
theorem UB(a:ReM)(m k:Nat)(h:1≤k):∃r,BS a m k=some r:=by
 obtain⟨j,rfl⟩:∃j,k=j+1:=⟨k - 1,by omega⟩;exact⟨_,rfl⟩
theorem Ds(a:ReM)(m k:Nat)(h:1≤k):(BS a m (k+1)).getD .eps= .cat ((BS a m k).getD .eps) (if k<m then a else Bj a):=by
 obtain⟨r,hr⟩:=UB a m k h;show(some (V2 (BS a m k) (if k<m then a else Bj a))).getD .eps=_;rw [hr];rfl
def L1(ps:List Pc)(b3 q6 q7:Nat)(a out:ReM)(va fn:Value):List Pc:=ps++[pB 142 b3 (Ab a va),pB 142 q6 Ak,pB 142 q7 (Ab out fn)]
structure TR(B:Nat→Prop)(H:Aa)(ps:List Pc)(b3 q6 q7:Nat)(a out:ReM)(va:Value)(G:Aa):Prop where
 ex:∃(B':Nat→Prop) (fn:Value),(∀k,B k→B' k)∧Agr (Old H) H G∧StB B' G G (L1 ps b3 q6 q7 a out va fn)∧C9 B' G va a∧C9 B' G fn out
theorem TL{B:Nat→Prop}{H0 H:Aa}{ps:List Pc}{a:ReM}{va:Value}{m:Nat}{n:Int}(st:StB B H0 H ps)(ga:C9 B H va a)(hm:m≤255)(hn1: -1≤n)(hn2:n≤255)(hmn:0≤n→(m:Int)≤n):
  Al Tryz.prog 232 #[.agg (Ab a va).toArray,.int .i64 (m:Int),.int .i64 n] H (PQ B H ps (Ca a m n)):=by
 obtain⟨g1,c1,rfl⟩:=ga.fn;refine Al.of_vc Tryz.func232 rfl (Tryz.call232 _) (Cq (Ab a (.func (.func g1) #[] c1)) rfl ?_);intro b3 H1 hq1 hs1 hb1 ha1;have st1:=st.box hq1 hs1 hb1 ha1;refine An (.agg Ak.toArray) Ak De rfl ?_;intro q6 H2 hq2 hs2 hb2 ha2;have st2:=st1.box hq2 hs2 hb2 ha2;have ag2:Agr (Old H) H H2:=(ha1.mono fun k hk=>by have:k<H.size:=hk;omega).trans (ha2.mono fun k hk=>by have:k<H.size:=hk;omega);have agB2:Agr B H H2:=ag2.mono fun k hk=>st.up hk;rw [AbM]at st2;have ga2:=ga.frame agB2 fun k hk=>hk;have bb3:Blk H2 b3 142 (Ab a (.func (.func g1) #[] c1)):=st2.blk _ (Es _ _);by_cases h1:m=0∧n<0
 ·have d1:((m:Int)==0)=true:=by rw [h1.1];rfl
  have d2:decide (n<0)=true:=decide_eq_true h1.2;(conv=>whnf);rw [d1];(conv=>whnf);rw [d2];refine ldN (cs:=Ab a (.func (.func g1) #[] c1)) AO (As bb3) trivial (Ad.mk (Nk st2 ga2) ?_);rintro _ H3 ⟨B1,f1,rfl,s1,a1,st3,gs⟩;obtain⟨g2,c2,rfl⟩:=gs.fn;refine Br (cs:=Ab (.star a) (.func (.func g2) #[] c2)) st3 _ rfl (lgR ps _ 1) (by simp [Ab,Ak]) rfl fun H4 st4 ha4 hs4=>?_;rw [lsR,Cu rfl]at st4;have hb4:Blk H4 q6 142 (Ab (.star a) (.func (.func g2) #[] c2)):=st4.blk _ (lgR ps _ 1);refine ldN (cs:=Ab (.star a) (.func (.func g2) #[] c2)) AO (As hb4) trivial ?_;have e:Ca a m n= .star a:=by unfold Ca;rw [if_pos h1.2,if_pos h1.1]
  rw [e];exact⟨B1,_,rfl,s1,(ag2.trans (a1.mono fun k hk=>Aj ag2 hk)).trans (ha4.mono fun k hk=>by have:k<H.size:=hk;omega),st4.lft.rebase,gs.frame st4.old fun k hk=>hk⟩
 by_cases h2:m=0∧n=0
 ·have d1:((m:Int)==0)=true:=by rw [h2.1];rfl
  have d2:decide (n<0)=false:=decide_eq_false (by omega);have d3:(n==0)=true:=by rw [h2.2];rfl
  (conv=>whnf);rw [d1];(conv=>whnf);rw [d2];(conv=>whnf);rw [d1];(conv=>whnf);rw [d3];refine Aw Tryz.underlying98 rfl _ rfl [] rfl (Ad.mk (Po (r:=.eps) st2 rfl) ?_);rintro _ H3 ⟨B1,f1,rfl,s1,a1,st3,gs⟩;obtain⟨g2,c2,rfl⟩:=gs.fn;refine Br (cs:=Ab .eps (.func (.func g2) #[] c2)) st3 _ rfl (lgR ps _ 1) (by simp [Ab,Ak]) rfl fun H4 st4 ha4 hs4=>?_;rw [lsR,Cu rfl]at st4;have hb4:Blk H4 q6 142 (Ab .eps (.func (.func g2) #[] c2)):=st4.blk _ (lgR ps _ 1);refine ldN (cs:=Ab .eps (.func (.func g2) #[] c2)) AO (As hb4) trivial ?_;have e:Ca a m n= .eps:=by unfold Ca;rw [if_neg (by omega),if_pos h2.2]
  rw [e];exact⟨B1,_,rfl,s1,(ag2.trans (a1.mono fun k hk=>Aj ag2 hk)).trans (ha4.mono fun k hk=>by have:k<H.size:=hk;omega),st4.lft.rebase,gs.frame st4.old fun k hk=>hk⟩
 by_cases hm0:m=0
 ·have d1:((m:Int)==0)=true:=by rw [hm0];rfl
  have d2:decide (n<0)=false:=decide_eq_false (by omega);have d3:(n==0)=false:=beq_eq_false_iff_ne.2 (by omega);(conv=>whnf);rw [d1];(conv=>whnf);rw [d2];(conv=>whnf);rw [d1];(conv=>whnf);rw [d3];refine ldN (cs:=Ab a (.func (.func g1) #[] c1)) AO (As bb3) trivial (An (.agg Ak.toArray) Ak De rfl ?_);intro q7 H3 hq3 hs3 hb3 ha3;have st3:=st2.box hq3 hs3 hb3 ha3;rw [AbM]at st3;refine Br (cs:=Ab a (.func (.func g1) #[] c1)) st3 _ rfl (lgR ps _ 2) (by simp [Ab,Ak]) rfl fun H4 st4 ha4 hs4=>?_;rw [lsR]at st4;replace st4:StB B H0 H4 (L1 ps b3 q6 q7 a a (.func (.func g1) #[] c1) (.func (.func g1) #[] c1)):=by
   have e:Ai Ak 0 (Ab a (.func (.func g1) #[] c1))=Ab a (.func (.func g1) #[] c1):=Cu rfl;have:=st4;rw [e]at this;exact this
  have ag4:Agr (Old H) H H4:=(ag2.trans (ha3.mono fun k hk=>by have:=Aj ag2 hk;omega)).trans (ha4.mono fun k hk=>by have:k<H.size:=hk;omega);have agB4:Agr B H H4:=ag4.mono fun k hk=>st.up hk;have n3:H.size≤q7:=by have:=Bl ag2;omega
  have n6:H.size≤q6:=by have:=Bl (show Agr (Old H) H H1 from ha1.mono fun k hk=>by have:k<H.size:=hk;omega);omega
  (conv=>whnf);refine Av.cut [] (fun _:Unit=>[]) (fun _ G=>TR B H ps b3 q6 q7 a ((BS a m 1).getD .eps) (.func (.func g1) #[] c1) G) ?_ ?_
  ·(conv=>whnf);rw [d1];refine ldN (cs:=Ab a (.func (.func g1) #[] c1)) AO (As (st4.blk _ (Es _ _))) trivial (Ad.mk (LK st4 (ga.frame agB4 fun k hk=>hk)) ?_);rintro _ H5 ⟨B1,f1,rfl,s1,a1,st5,gs⟩;obtain⟨g2,c2,rfl⟩:=gs.fn;refine Br (cs:=Ab (Bj a) (.func (.func g2) #[] c2)) st5 _ rfl (lgR ps _ 2) (by simp [Ab]) rfl fun H6 st6 ha6 hs6=>?_;unfold L1 at st6;rw [lsR]at st6;have e6:Ai (Ab a (.func (.func g1) #[] c1)) 0 (Ab (Bj a) (.func (.func g2) #[] c2))=Ab (Bj a) (.func (.func g2) #[] c2):=Cu rfl;rw [e6]at st6;(conv=>whnf);have ag6:Agr (Old H) H H6:=(ag4.trans (a1.mono fun k hk=>Aj ag4 hk)).trans (ha6.mono fun k hk=>by have:k<H.size:=hk;omega);refine⟨rfl,(),rfl,⟨B1,.func (.func g2) #[] c2,s1,ag6,?_,ga.frame (ag6.mono fun k hk=>st.up hk) s1,?_⟩⟩
   ·rw [Ij,if_neg (by omega)];exact st6.rebase
   ·rw [Ij,if_neg (by omega)];exact gs.frame st6.old fun k hk=>hk
  ·rintro⟨⟩ G0 junk0 tim0;(conv=>whnf);refine AK.mk [8] (fun k:Nat=>[.int .i64 (k:Int)]) (fun k G=>1≤k∧k≤max m 1∧TR B H ps b3 q6 q7 a ((BS a m k).getD .eps) (.func (.func g1) #[] c1) G) (fun k _=>max m 1 - k) ?_ ?_
   ·(conv=>whnf);exact⟨1,rfl,AaV _,by omega,tim0⟩
   ·rintro k G junk1 ⟨hk1,hkm,⟨B1,f1,s1,ag,sg,gv,gf⟩⟩;obtain⟨gg,cc,rfl⟩:=gf.fn;refine AN.mk (fun hz=>?_) (fun hz=>?_)<;>simp only [decide_eq_true_eq,decide_eq_false_iff_not]at hz
    ·(conv=>whnf);try (refine Av.run ?_)
     refine ldN (cs:=Ab ((BS a m k).getD .eps) (.func (.func gg) #[] cc)) AO (As (sg.blk _ (lgR ps _ 2))) trivial (ldN (cs:=Ab a (.func (.func g1) #[] c1)) AO (As (sg.blk _ (Es ps _))) trivial (Ad.mk (Fq .cat sg gf gv) ?_));rintro _ G1 ⟨B2,f2,rfl,s2,a2,sg2,gj⟩;obtain⟨g2,c2,rfl⟩:=gj.fn;refine Br (cs:=Ab (opR .cat ((BS a m k).getD .eps) a) (.func (.func g2) #[] c2)) sg2 _ rfl (lgR ps _ 2) (by simp [Ab]) rfl fun G3 sg3 ja3 js3=>?_;unfold L1 at sg3;rw [lsR]at sg3;have e:Ai (Ab ((BS a m k).getD .eps) (.func (.func gg) #[] cc)) 0 (Ab (opR .cat ((BS a m k).getD .eps) a) (.func (.func g2) #[] c2))=Ab (opR .cat ((BS a m k).getD .eps) a) (.func (.func g2) #[] c2):=Cu rfl;rw [e]at sg3;(conv=>whnf);rw [w64 (x:=(k:Int)+1) (by omega) (by omega)];have ag3:Agr (Old H) H G3:=(ag.trans (a2.mono fun k hk=>Aj ag hk)).trans (ja3.mono fun k hk=>by have:k<H.size:=hk;omega);refine⟨rfl,k+1,rfl,⟨by omega,by omega,⟨B2,.func (.func g2) #[] c2,fun k hk=>s2 k (s1 k hk),ag3,?_,ga.frame (ag3.mono fun k hk=>st.up hk) fun k hk=>s2 k (s1 k hk),?_⟩⟩,by omega⟩
     ·rw [Ds _ _ _ hk1,if_pos (by omega)];exact sg3.rebase
     ·rw [Ds _ _ _ hk1,if_pos (by omega)];exact gj.frame sg3.old fun k hk=>hk
    ·obtain rfl:k=max m 1:=by omega
     by_cases hn:n<0
     ·have d2:decide (n<0)=true:=decide_eq_true hn;have hm1:max m 1=m:=by omega
      rw [hm1]at gf sg;(conv=>whnf);try (refine Av.run ?_)
      (conv=>whnf);rw [d2];refine Ar.heldZ (Old G) [4] (sq [0,1] (.f 2 (.f 3 (.f 4 .e)))) rfl (by kernel_rfl) (ldN (cs:=Ab ((BS a m m).getD .eps) (.func (.func gg) #[] cc)) AO (As (sg.blk _ (lgR ps _ 2))) ((sg.in_ _ (lgR ps _ 2) (k:=q7) rfl).2) (ldN (cs:=Ab a (.func (.func g1) #[] c1)) AO (As (sg.blk _ (Es ps _))) ((sg.in_ _ (Es ps _) (k:=b3) rfl).2) (Ad.mk (Nk sg gv) ?_)));rintro _ G1 ⟨B2,f2,rfl,s2,a2,sg2,gs⟩;refine⟨a2,?_⟩;have agB2':Agr B1 G G1:=a2.mono fun k hk=>sg.up hk;refine Ad.mk (Fq .cat sg2 (gf.frame agB2' s2) gs) ?_;rintro _ G2 ⟨B3,f3,rfl,s3,a3,sg3,gj⟩;have a23:=a2.trans (a3.mono fun k hk=>Aj a2 hk);refine⟨a23,?_⟩;obtain⟨g2,c2,rfl⟩:=gj.fn;refine Br (cs:=Ab (opR .cat ((BS a m m).getD .eps) (.star a)) (.func (.func g2) #[] c2)) sg3 _ rfl (lgR ps _ 1) (by simp [Ab,Ak]) rfl fun G3 sg4 ja3 js3=>?_;unfold L1 at sg4;rw [lsR,Cu rfl]at sg4;have hb4:Blk G3 q6 142 (Ab (opR .cat ((BS a m m).getD .eps) (.star a)) (.func (.func g2) #[] c2)):=sg4.blk _ (lgR ps _ 1);refine ldN (cs:=Ab (opR .cat ((BS a m m).getD .eps) (.star a)) (.func (.func g2) #[] c2)) AO (As hb4) trivial ?_;have e:Ca a m n=opR .cat ((BS a m m).getD .eps) (.star a):=by unfold Ca;rw [if_pos hn,if_neg (by omega)];rfl
      rw [e];exact⟨B3,_,rfl,fun k hk=>s3 k (s2 k (s1 k hk)),(ag.trans (a23.mono fun k hk=>Aj ag hk)).trans (ja3.mono fun k hk=>by have:k<H.size:=hk;omega),sg4.lft.rebase,gj.frame sg4.old fun k hk=>hk⟩
     ·have d2:decide (n<0)=false:=decide_eq_false hn;obtain⟨nn,rfl⟩:=AbD (show 0≤n by omega);(conv=>whnf);try (refine Av.run ?_)
      (conv=>whnf);refine AK.mk [8] (fun k:Nat=>[.int .i64 (k:Int)]) (fun k G=>max m 1≤k∧k≤nn∧TR B H ps b3 q6 q7 a ((BS a m k).getD .eps) (.func (.func g1) #[] c1) G) (fun k _=>nn - k) ?_ ?_
      ·(conv=>whnf);exact⟨max m 1,rfl,AaV _,by omega,⟨B1,.func (.func gg) #[] cc,s1,ag,sg,gv,gf⟩⟩
      ·clear s1 ag sg gv gf B1;rintro k G junk2 ⟨hk1,hkm,⟨B1,f1,s1,ag,sg,gv,gf⟩⟩;obtain⟨gg,cc,rfl⟩:=gf.fn;refine AN.mk (fun hz=>?_) (fun hz=>?_)<;>simp only [decide_eq_true_eq,decide_eq_false_iff_not]at hz
       ·(conv=>whnf);try (refine Av.run ?_)
        refine Ar.heldZ (Old G) [4] (sq [0,1] (.f 2 (.f 3 (.f 4 .e)))) rfl (by kernel_rfl) (ldN (cs:=Ab ((BS a m k).getD .eps) (.func (.func gg) #[] cc)) AO (As (sg.blk _ (lgR ps _ 2))) ((sg.in_ _ (lgR ps _ 2) (k:=q7) rfl).2) (ldN (cs:=Ab a (.func (.func g1) #[] c1)) AO (As (sg.blk _ (Es ps _))) ((sg.in_ _ (Es ps _) (k:=b3) rfl).2) (Ad.mk (LK sg gv) ?_)));rintro _ G1 ⟨B2,f2,rfl,s2,a2,sg2,gs⟩;refine⟨a2,?_⟩;have agB2':Agr B1 G G1:=a2.mono fun k hk=>sg.up hk;refine Ad.mk (Fq .cat sg2 (gf.frame agB2' s2) gs) ?_;rintro _ G2 ⟨B3,f3,rfl,s3,a3,sg3,gj⟩;have a23:=a2.trans (a3.mono fun k hk=>Aj a2 hk);refine⟨a23,?_⟩;obtain⟨g2,c2,rfl⟩:=gj.fn;refine Br (cs:=Ab (opR .cat ((BS a m k).getD .eps) (Bj a)) (.func (.func g2) #[] c2)) sg3 _ rfl (lgR ps _ 2) (by simp [Ab]) rfl fun G3 sg4 ja3 js3=>?_;unfold L1 at sg4;rw [lsR]at sg4;have e:Ai (Ab ((BS a m k).getD .eps) (.func (.func gg) #[] cc)) 0 (Ab (opR .cat ((BS a m k).getD .eps) (Bj a)) (.func (.func g2) #[] c2))=Ab (opR .cat ((BS a m k).getD .eps) (Bj a)) (.func (.func g2) #[] c2):=Cu rfl;rw [e]at sg4;(conv=>whnf);rw [w64 (x:=(k:Int)+1) (by omega) (by omega)];have ag3:Agr (Old H) H G3:=(ag.trans (a23.mono fun k hk=>Aj ag hk)).trans (ja3.mono fun k hk=>by have:k<H.size:=hk;omega);refine⟨rfl,k+1,rfl,⟨by omega,by omega,⟨B3,.func (.func g2) #[] c2,fun k hk=>s3 k (s2 k (s1 k hk)),ag3,?_,ga.frame (ag3.mono fun k hk=>st.up hk) fun k hk=>s3 k (s2 k (s1 k hk)),?_⟩⟩,by omega⟩
        ·rw [Ds _ _ _ (by omega),if_neg (by omega)];exact sg4.rebase
        ·rw [Ds _ _ _ (by omega),if_neg (by omega)];exact gj.frame sg4.old fun k hk=>hk
       ·obtain rfl:k=nn:=by omega
        refine ldN (cs:=Ab ((BS a m k).getD .eps) (.func (.func gg) #[] cc)) AO (As (sg.blk _ (lgR ps _ 2))) trivial (Br (cs:=Ab ((BS a m k).getD .eps) (.func (.func gg) #[] cc)) sg _ rfl (lgR ps _ 1) (by simp [Ab,Ak]) rfl fun G3 sg4 ja3 js3=>?_);unfold L1 at sg4;rw [lsR,Cu rfl]at sg4;have hb4:Blk G3 q6 142 (Ab ((BS a m k).getD .eps) (.func (.func gg) #[] cc)):=sg4.blk _ (lgR ps _ 1);refine ldN (cs:=Ab ((BS a m k).getD .eps) (.func (.func gg) #[] cc)) AO (As hb4) trivial ?_;have e:Ca a m (k:Int)=(BS a m k).getD .eps:=by unfold Ca;rw [if_neg (by omega),if_neg (by omega),Ac4]
        rw [e];exact⟨B1,_,rfl,s1,ag.trans (ja3.mono fun k hk=>by have:k<H.size:=hk;omega),sg4.lft.rebase,gf.frame sg4.old fun k hk=>hk⟩
 ·have d1:((m:Int)==0)=false:=beq_eq_false_iff_ne.2 (by omega);(conv=>whnf);rw [d1];(conv=>whnf);rw [d1];refine ldN (cs:=Ab a (.func (.func g1) #[] c1)) AO (As bb3) trivial (An (.agg Ak.toArray) Ak De rfl ?_);intro q7 H3 hq3 hs3 hb3 ha3;have st3:=st2.box hq3 hs3 hb3 ha3;rw [AbM]at st3;refine Br (cs:=Ab a (.func (.func g1) #[] c1)) st3 _ rfl (lgR ps _ 2) (by simp [Ab,Ak]) rfl fun H4 st4 ha4 hs4=>?_;rw [lsR]at st4;replace st4:StB B H0 H4 (L1 ps b3 q6 q7 a a (.func (.func g1) #[] c1) (.func (.func g1) #[] c1)):=by
   have e:Ai Ak 0 (Ab a (.func (.func g1) #[] c1))=Ab a (.func (.func g1) #[] c1):=Cu rfl;have:=st4;rw [e]at this;exact this
  have ag4:Agr (Old H) H H4:=(ag2.trans (ha3.mono fun k hk=>by have:=Aj ag2 hk;omega)).trans (ha4.mono fun k hk=>by have:k<H.size:=hk;omega);have agB4:Agr B H H4:=ag4.mono fun k hk=>st.up hk;have n3:H.size≤q7:=by have:=Bl ag2;omega
  have n6:H.size≤q6:=by have:=Bl (show Agr (Old H) H H1 from ha1.mono fun k hk=>by have:k<H.size:=hk;omega);omega
  (conv=>whnf);refine Av.cut [] (fun _:Unit=>[]) (fun _ G=>TR B H ps b3 q6 q7 a ((BS a m 1).getD .eps) (.func (.func g1) #[] c1) G) ?_ ?_
  ·(conv=>whnf);rw [d1];(conv=>whnf);refine⟨rfl,(),rfl,⟨B,.func (.func g1) #[] c1,fun k hk=>hk,ag4,?_,ga.frame agB4 fun k hk=>hk,?_⟩⟩
   ·rw [Ij,if_pos (by omega)];exact st4.rebase
   ·rw [Ij,if_pos (by omega)];exact ga.frame agB4 fun k hk=>hk
  ·rintro⟨⟩ G0 junk0 tim0;(conv=>whnf);refine AK.mk [8] (fun k:Nat=>[.int .i64 (k:Int)]) (fun k G=>1≤k∧k≤max m 1∧TR B H ps b3 q6 q7 a ((BS a m k).getD .eps) (.func (.func g1) #[] c1) G) (fun k _=>max m 1 - k) ?_ ?_
   ·(conv=>whnf);exact⟨1,rfl,AaV _,by omega,tim0⟩
   ·rintro k G junk1 ⟨hk1,hkm,⟨B1,f1,s1,ag,sg,gv,gf⟩⟩;obtain⟨gg,cc,rfl⟩:=gf.fn;refine AN.mk (fun hz=>?_) (fun hz=>?_)<;>simp only [decide_eq_true_eq,decide_eq_false_iff_not]at hz
    ·(conv=>whnf);try (refine Av.run ?_)
     refine ldN (cs:=Ab ((BS a m k).getD .eps) (.func (.func gg) #[] cc)) AO (As (sg.blk _ (lgR ps _ 2))) trivial (ldN (cs:=Ab a (.func (.func g1) #[] c1)) AO (As (sg.blk _ (Es ps _))) trivial (Ad.mk (Fq .cat sg gf gv) ?_));rintro _ G1 ⟨B2,f2,rfl,s2,a2,sg2,gj⟩;obtain⟨g2,c2,rfl⟩:=gj.fn;refine Br (cs:=Ab (opR .cat ((BS a m k).getD .eps) a) (.func (.func g2) #[] c2)) sg2 _ rfl (lgR ps _ 2) (by simp [Ab]) rfl fun G3 sg3 ja3 js3=>?_;unfold L1 at sg3;rw [lsR]at sg3;have e:Ai (Ab ((BS a m k).getD .eps) (.func (.func gg) #[] cc)) 0 (Ab (opR .cat ((BS a m k).getD .eps) a) (.func (.func g2) #[] c2))=Ab (opR .cat ((BS a m k).getD .eps) a) (.func (.func g2) #[] c2):=Cu rfl;rw [e]at sg3;(conv=>whnf);rw [w64 (x:=(k:Int)+1) (by omega) (by omega)];have ag3:Agr (Old H) H G3:=(ag.trans (a2.mono fun k hk=>Aj ag hk)).trans (ja3.mono fun k hk=>by have:k<H.size:=hk;omega);refine⟨rfl,k+1,rfl,⟨by omega,by omega,⟨B2,.func (.func g2) #[] c2,fun k hk=>s2 k (s1 k hk),ag3,?_,ga.frame (ag3.mono fun k hk=>st.up hk) fun k hk=>s2 k (s1 k hk),?_⟩⟩,by omega⟩
     ·rw [Ds _ _ _ hk1,if_pos (by omega)];exact sg3.rebase
     ·rw [Ds _ _ _ hk1,if_pos (by omega)];exact gj.frame sg3.old fun k hk=>hk
    ·obtain rfl:k=max m 1:=by omega
     by_cases hn:n<0
     ·have d2:decide (n<0)=true:=decide_eq_true hn;have hm1:max m 1=m:=by omega
      rw [hm1]at gf sg;(conv=>whnf);try (refine Av.run ?_)
      (conv=>whnf);rw [d2];refine Ar.heldZ (Old G) [4] (sq [0,1] (.f 2 (.f 3 (.f 4 .e)))) rfl (by kernel_rfl) (ldN (cs:=Ab ((BS a m m).getD .eps) (.func (.func gg) #[] cc)) AO (As (sg.blk _ (lgR ps _ 2))) ((sg.in_ _ (lgR ps _ 2) (k:=q7) rfl).2) (ldN (cs:=Ab a (.func (.func g1) #[] c1)) AO (As (sg.blk _ (Es ps _))) ((sg.in_ _ (Es ps _) (k:=b3) rfl).2) (Ad.mk (Nk sg gv) ?_)));rintro _ G1 ⟨B2,f2,rfl,s2,a2,sg2,gs⟩;refine⟨a2,?_⟩;have agB2':Agr B1 G G1:=a2.mono fun k hk=>sg.up hk;refine Ad.mk (Fq .cat sg2 (gf.frame agB2' s2) gs) ?_;rintro _ G2 ⟨B3,f3,rfl,s3,a3,sg3,gj⟩;have a23:=a2.trans (a3.mono fun k hk=>Aj a2 hk);refine⟨a23,?_⟩;obtain⟨g2,c2,rfl⟩:=gj.fn;refine Br (cs:=Ab (opR .cat ((BS a m m).getD .eps) (.star a)) (.func (.func g2) #[] c2)) sg3 _ rfl (lgR ps _ 1) (by simp [Ab,Ak]) rfl fun G3 sg4 ja3 js3=>?_;unfold L1 at sg4;rw [lsR,Cu rfl]at sg4;have hb4:Blk G3 q6 142 (Ab (opR .cat ((BS a m m).getD .eps) (.star a)) (.func (.func g2) #[] c2)):=sg4.blk _ (lgR ps _ 1);refine ldN (cs:=Ab (opR .cat ((BS a m m).getD .eps) (.star a)) (.func (.func g2) #[] c2)) AO (As hb4) trivial ?_;have e:Ca a m n=opR .cat ((BS a m m).getD .eps) (.star a):=by unfold Ca;rw [if_pos hn,if_neg (by omega)];rfl
      rw [e];exact⟨B3,_,rfl,fun k hk=>s3 k (s2 k (s1 k hk)),(ag.trans (a23.mono fun k hk=>Aj ag hk)).trans (ja3.mono fun k hk=>by have:k<H.size:=hk;omega),sg4.lft.rebase,gj.frame sg4.old fun k hk=>hk⟩
     ·have d2:decide (n<0)=false:=decide_eq_false hn;obtain⟨nn,rfl⟩:=AbD (show 0≤n by omega);(conv=>whnf);try (refine Av.run ?_)
      (conv=>whnf);refine AK.mk [8] (fun k:Nat=>[.int .i64 (k:Int)]) (fun k G=>max m 1≤k∧k≤nn∧TR B H ps b3 q6 q7 a ((BS a m k).getD .eps) (.func (.func g1) #[] c1) G) (fun k _=>nn - k) ?_ ?_
      ·(conv=>whnf);exact⟨max m 1,rfl,AaV _,by omega,⟨B1,.func (.func gg) #[] cc,s1,ag,sg,gv,gf⟩⟩
      ·clear s1 ag sg gv gf B1;rintro k G junk2 ⟨hk1,hkm,⟨B1,f1,s1,ag,sg,gv,gf⟩⟩;obtain⟨gg,cc,rfl⟩:=gf.fn;refine AN.mk (fun hz=>?_) (fun hz=>?_)<;>simp only [decide_eq_true_eq,decide_eq_false_iff_not]at hz
       ·(conv=>whnf);try (refine Av.run ?_)
        refine Ar.heldZ (Old G) [4] (sq [0,1] (.f 2 (.f 3 (.f 4 .e)))) rfl (by kernel_rfl) (ldN (cs:=Ab ((BS a m k).getD .eps) (.func (.func gg) #[] cc)) AO (As (sg.blk _ (lgR ps _ 2))) ((sg.in_ _ (lgR ps _ 2) (k:=q7) rfl).2) (ldN (cs:=Ab a (.func (.func g1) #[] c1)) AO (As (sg.blk _ (Es ps _))) ((sg.in_ _ (Es ps _) (k:=b3) rfl).2) (Ad.mk (LK sg gv) ?_)));rintro _ G1 ⟨B2,f2,rfl,s2,a2,sg2,gs⟩;refine⟨a2,?_⟩;have agB2':Agr B1 G G1:=a2.mono fun k hk=>sg.up hk;refine Ad.mk (Fq .cat sg2 (gf.frame agB2' s2) gs) ?_;rintro _ G2 ⟨B3,f3,rfl,s3,a3,sg3,gj⟩;have a23:=a2.trans (a3.mono fun k hk=>Aj a2 hk);refine⟨a23,?_⟩;obtain⟨g2,c2,rfl⟩:=gj.fn;refine Br (cs:=Ab (opR .cat ((BS a m k).getD .eps) (Bj a)) (.func (.func g2) #[] c2)) sg3 _ rfl (lgR ps _ 2) (by simp [Ab]) rfl fun G3 sg4 ja3 js3=>?_;unfold L1 at sg4;rw [lsR]at sg4;have e:Ai (Ab ((BS a m k).getD .eps) (.func (.func gg) #[] cc)) 0 (Ab (opR .cat ((BS a m k).getD .eps) (Bj a)) (.func (.func g2) #[] c2))=Ab (opR .cat ((BS a m k).getD .eps) (Bj a)) (.func (.func g2) #[] c2):=Cu rfl;rw [e]at sg4;(conv=>whnf);rw [w64 (x:=(k:Int)+1) (by omega) (by omega)];have ag3:Agr (Old H) H G3:=(ag.trans (a23.mono fun k hk=>Aj ag hk)).trans (ja3.mono fun k hk=>by have:k<H.size:=hk;omega);refine⟨rfl,k+1,rfl,⟨by omega,by omega,⟨B3,.func (.func g2) #[] c2,fun k hk=>s3 k (s2 k (s1 k hk)),ag3,?_,ga.frame (ag3.mono fun k hk=>st.up hk) fun k hk=>s3 k (s2 k (s1 k hk)),?_⟩⟩,by omega⟩
        ·rw [Ds _ _ _ (by omega),if_neg (by omega)];exact sg4.rebase
        ·rw [Ds _ _ _ (by omega),if_neg (by omega)];exact gj.frame sg4.old fun k hk=>hk
       ·obtain rfl:k=nn:=by omega
        refine ldN (cs:=Ab ((BS a m k).getD .eps) (.func (.func gg) #[] cc)) AO (As (sg.blk _ (lgR ps _ 2))) trivial (Br (cs:=Ab ((BS a m k).getD .eps) (.func (.func gg) #[] cc)) sg _ rfl (lgR ps _ 1) (by simp [Ab,Ak]) rfl fun G3 sg4 ja3 js3=>?_);unfold L1 at sg4;rw [lsR,Cu rfl]at sg4;have hb4:Blk G3 q6 142 (Ab ((BS a m k).getD .eps) (.func (.func gg) #[] cc)):=sg4.blk _ (lgR ps _ 1);refine ldN (cs:=Ab ((BS a m k).getD .eps) (.func (.func gg) #[] cc)) AO (As hb4) trivial ?_;have e:Ca a m (k:Int)=(BS a m k).getD .eps:=by unfold Ca;rw [if_neg (by omega),if_neg (by omega),Ac4]
        rw [e];exact⟨B1,_,rfl,s1,ag.trans (ja3.mono fun k hk=>by have:k<H.size:=hk;omega),sg4.lft.rebase,gf.frame sg4.old fun k hk=>hk⟩
def JV(c:Nat):Int:=match Dz c with
 | some v=>(v:Int)
 | none=> -1
theorem Sw{H:Aa}{c:Nat}(hc:c<256):BX Tryz.prog 173 #[.int .u8 (c:Int)] H (.int .i64 (JV c)):=by
 refine Al.of_vc Tryz.func173 rfl (Tryz.call173 _) ?_;(conv=>whnf);by_cases hq00:48≤c
 ·skip
  have d1:decide ((c:Int)≥48)=true:=decide_eq_true (by omega);(conv=>whnf);rw [d1];clear d1;by_cases hq01:c≤57
  ·skip
   have d1:decide ((c:Int)≤57)=true:=decide_eq_true (by omega);(conv=>whnf);rw [d1];clear d1;(conv=>whnf);rw [w8 (x:=(c:Int) - 48) (by omega) (by omega)];(conv=>whnf);rw [w64 (x:=(c:Int) - 48) (by omega) (by omega)];(conv=>whnf);refine⟨?_,Agr.refl _ _⟩;have:Dz c=some (c - 48):=by unfold Dz;rw [if_pos (by omega)]
   unfold JV;rw [this];show Value.int .i64 ((c:Int) - 48)=Value.int .i64 ((c - 48:Nat):Int)
   congr 1;omega
  ·skip
   have d1:decide ((c:Int)≤57)=false:=decide_eq_false (by omega);(conv=>whnf);rw [d1];clear d1;by_cases hq00:97≤c
   ·skip
    have d1:decide ((c:Int)≥97)=true:=decide_eq_true (by omega);(conv=>whnf);rw [d1];clear d1;by_cases hq01:c≤102
    ·skip
     have d1:decide ((c:Int)≤102)=true:=decide_eq_true (by omega);(conv=>whnf);rw [d1];clear d1;(conv=>whnf);rw [w8 (x:=(c:Int) - 97) (by omega) (by omega)];(conv=>whnf);rw [w64 (x:=(c:Int) - 97) (by omega) (by omega)];(conv=>whnf);rw [w64 (x:=(c:Int) - 97+10) (by omega) (by omega)];(conv=>whnf);refine⟨?_,Agr.refl _ _⟩;have:Dz c=some (c - 87):=by unfold Dz;rw [if_neg (by omega),if_pos (by omega)]
     unfold JV;rw [this];show Value.int .i64 ((c:Int) - 97+10)=Value.int .i64 ((c - 87:Nat):Int)
     congr 1;omega
    ·skip
     have d1:decide ((c:Int)≤102)=false:=decide_eq_false (by omega);(conv=>whnf);rw [d1];clear d1;(conv=>whnf);refine⟨?_,Agr.refl _ _⟩;have:Dz c=none:=by unfold Dz;rw [if_neg (by omega),if_neg (by omega)]
     unfold JV;rw [this]
   ·skip
    have d1:decide ((c:Int)≥97)=false:=decide_eq_false (by omega);(conv=>whnf);rw [d1];clear d1;(conv=>whnf);refine⟨?_,Agr.refl _ _⟩;have:Dz c=none:=by unfold Dz;rw [if_neg (by omega),if_neg (by omega)]
    unfold JV;rw [this]
 ·skip
  have d1:decide ((c:Int)≥48)=false:=decide_eq_false (by omega);(conv=>whnf);rw [d1];clear d1;have d1:decide ((c:Int)≥97)=false:=decide_eq_false (by omega);(conv=>whnf);rw [d1];clear d1;(conv=>whnf);refine⟨?_,Agr.refl _ _⟩;have:Dz c=none:=by unfold Dz;rw [if_neg (by omega),if_neg (by omega)]
  unfold JV;rw [this]
def L0(t:ByteArray)(i:Nat)(inner:Bool):Value:=match BA t (if inner then DD else E6) i with
 | .inl e=>.tuple #[.int .u8 0,.int .i64 0,.int .i64 (e:Int)]
 | .inr (c,j)=>.tuple #[.int .u8 (c:Int),.int .i64 (j:Int),.int .i64 (-1)]
theorem EO{t:ByteArray}{i e:Nat}{inner:Bool}(h:BA t (if inner then DD else E6) i= .inl e):Value.tuple #[.int .u8 0,.int .i64 0,.int .i64 (e:Int)]=L0 t i inner:=by unfold L0;rw [h]
theorem GD{t:ByteArray}{i c j:Nat}{inner:Bool}(h:BA t (if inner then DD else E6) i= .inr (c,j)):Value.tuple #[.int .u8 (c:Int),.int .i64 (j:Int),.int .i64 (-1)]=L0 t i inner:=by unfold L0;rw [h]
theorem EN{H:Aa}{t:ByteArray}{i:Nat}{inner:Bool}(ht:t.size≤1152921504606846976)(hi0:i≤t.size):BX Tryz.prog 134 #[.string t,.int .i64 (i:Int),.bool inner] H (L0 t i inner):=by
 refine Al.of_vc Tryz.func134 rfl (Tryz.call134 _) ?_;by_cases hi:i<t.size
 case neg=>
  have h256:=Cy hi;have d1:decide ((i:Int)≥(t.size:Int))=true:=decide_eq_true (by omega);obtain rfl:i=t.size:=by omega
  (conv=>whnf);rw [d1];(conv=>whnf);exact⟨EO (by unfold BA;rw [h256,if_neg (by decide),if_pos (.inr (.inl (by decide)))]),Agr.refl _ _⟩
 obtain⟨b,hb1,hb2,hb3⟩:=Di hi;have d0:decide ((i:Int)≥(t.size:Int))=false:=decide_eq_false (by omega);(conv=>whnf);rw [d0];refine DJ Fz rfl hb1 ?_;rw [←hb2];by_cases h92:bt t i=92
 case neg=>
  obtain⟨c,hc⟩:∃c,c=bt t i:=⟨_,rfl⟩;rw [←hc]at hb3 h92 ⊢;have dn:((c:Int) != (92:Int))=true:=by rw [bne_iff_ne];omega
  have ho:BA t (if inner then DD else E6) i=if c<32∨126<c∨spB (if inner then DD else E6) c=true then .inl i else .inr (c,i+1):=by unfold BA;rw [←hc,if_neg h92]
  (conv=>whnf);rw [dn];(conv=>whnf);by_cases hq00:c<32
  ·skip
   have d1:decide ((c:Int)<32)=true:=decide_eq_true (by omega);(conv=>whnf);rw [d1];clear d1;cases inner with
   | true | false=>
     (conv=>whnf);try (refine Av.run ?_)
     (conv=>whnf);exact⟨EO (by rw [ho,if_pos (by omega)]),Agr.refl _ _⟩
  ·skip
   have d1:decide ((c:Int)<32)=false:=decide_eq_false (by omega);(conv=>whnf);rw [d1];clear d1;by_cases hq10:126<c
   ·skip
    have d1:decide ((c:Int)>126)=true:=decide_eq_true (by omega);(conv=>whnf);rw [d1];clear d1;cases inner with
    | true | false=>
      (conv=>whnf);try (refine Av.run ?_)
      (conv=>whnf);exact⟨EO (by rw [ho,if_pos (by omega)]),Agr.refl _ _⟩
   ·skip
    have d1:decide ((c:Int)>126)=false:=decide_eq_false (by omega);(conv=>whnf);rw [d1];clear d1;cases inner with
    | true=>
      (conv=>whnf);try (refine Av.run ?_)
      refine Am (XZ hb3) fun G ga=>?_;cases hsp:spB DD c with
      | true=>
        (conv=>whnf);exact⟨EO (by rw [ho,if_pos (.inr (.inr hsp))]),ga⟩
      | false=>
        have hb:¬(c<32∨126<c∨spB (if true=true then DD else E6) c=true):=by
         have:spB (if true=true then DD else E6) c=false:=hsp;rw [this];simp;omega
        (conv=>whnf);rw [w64 (x:=(i:Int)+1) (by omega) (by omega)];(conv=>whnf);exact⟨GD (j:=i+1) (by rw [ho,if_neg hb]),ga⟩
    | false=>
      (conv=>whnf);try (refine Av.run ?_)
      refine Am (UJ hb3) fun G ga=>?_;cases hsp:spB E6 c with
      | true=>
        (conv=>whnf);exact⟨EO (by rw [ho,if_pos (.inr (.inr hsp))]),ga⟩
      | false=>
        have hb:¬(c<32∨126<c∨spB (if false=true then DD else E6) c=true):=by
         have:spB (if false=true then DD else E6) c=false:=hsp;rw [this];simp;omega
        (conv=>whnf);rw [w64 (x:=(i:Int)+1) (by omega) (by omega)];(conv=>whnf);exact⟨GD (j:=i+1) (by rw [ho,if_neg hb]),ga⟩
 have ho:BA t (if inner then DD else E6) i=GL t (i+1):=by unfold BA;rw [if_pos h92]
 rw [h92];(conv=>whnf);rw [w64 (x:=(i:Int)+1) (by omega) (by omega)];by_cases hi1:i+1<t.size
 case neg=>
  have h256:=Cy hi1;have d1:decide ((i:Int)+1≥(t.size:Int))=true:=decide_eq_true (by omega);have hsz:i+1=t.size:=by omega
  (conv=>whnf);rw [d1];(conv=>whnf);refine⟨?_,Agr.refl _ _⟩;have:=EO (inner:=inner) (e:=i+1) (by rw [ho];unfold GL;rw [if_pos h256]);rw [hsz]at this;exact this
 obtain⟨b1,hc1,hc2,hc3⟩:=Di hi1;have d1:decide ((i:Int)+1≥(t.size:Int))=false:=decide_eq_false (by omega);(conv=>whnf);rw [d1];clear d1 d0;(conv=>whnf);rw [w64 (x:=(i:Int)+1) (by omega) (by omega)];refine DJ (i:=i+1) Fz rfl hc1 ?_;rw [←hc2];obtain⟨c,hc⟩:∃c,c=bt t (i+1):=⟨_,rfl⟩;rw [←hc]at hc3 ⊢;by_cases h110:c=110
 ·have d1:((c:Int)==(110:Int))=true:=by rw [h110];rfl
  (conv=>whnf);rw [d1];(conv=>whnf);rw [w64 (x:=(i:Int)+2) (by omega) (by omega)];(conv=>whnf);exact⟨GD (c:=10) (j:=i+2) (by rw [ho];unfold GL;rw [←hc,h110];rfl),Agr.refl _ _⟩
 have e110:((c:Int)==(110:Int))=false:=beq_eq_false_iff_ne.2 (by omega);(conv=>whnf);rw [e110];by_cases h114:c=114
 ·have d1:((c:Int)==(114:Int))=true:=by rw [h114];rfl
  (conv=>whnf);rw [d1];(conv=>whnf);rw [w64 (x:=(i:Int)+2) (by omega) (by omega)];(conv=>whnf);exact⟨GD (c:=13) (j:=i+2) (by rw [ho];unfold GL;rw [←hc,h114];rfl),Agr.refl _ _⟩
 have e114:((c:Int)==(114:Int))=false:=beq_eq_false_iff_ne.2 (by omega);(conv=>whnf);rw [e114];by_cases h116:c=116
 ·have d1:((c:Int)==(116:Int))=true:=by rw [h116];rfl
  (conv=>whnf);rw [d1];(conv=>whnf);rw [w64 (x:=(i:Int)+2) (by omega) (by omega)];(conv=>whnf);exact⟨GD (c:=9) (j:=i+2) (by rw [ho];unfold GL;rw [←hc,h116];rfl),Agr.refl _ _⟩
 have e116:((c:Int)==(116:Int))=false:=beq_eq_false_iff_ne.2 (by omega);(conv=>whnf);rw [e116];have hes:GL t (i+1)=(if c=120 then match Dz (bt t (i+1+1))with
   | none=>.inl (i+1+1)
   | some a=>match Dz (bt t (i+1+2))with
     | none=>.inl (i+1+2)
     | some b=>.inr (16*a+b,i+1+3)
  else if c<32∨126<c∨(48≤c∧c≤57)∨(97≤c∧c≤122)∨(65≤c∧c≤90)then .inl (i+1)else .inr (c,i+1+1)):=by
  unfold GL;rw [←hc,if_neg (show c≠256 by omega),if_neg h110,if_neg h114,if_neg h116];rfl
 by_cases h120:c=120
 ·have d1:((c:Int)==(120:Int))=true:=by rw [h120];rfl
  rw [if_pos h120]at hes;(conv=>whnf);rw [d1];(conv=>whnf);refine AK.mk [11] (fun k:Nat=>[.int .i64 (k:Int)]) (fun k G=>2≤k∧k≤4∧(∀m,2≤m→m<k→(Dz (bt t (i+m))).isSome=true)∧Agr (Old H) H G) (fun k _=>4 - k) ?_ ?_
  ·(conv=>whnf);exact⟨2,rfl,by omega,by omega,fun m h1 h2=>by omega,Agr.refl _ _⟩
  ·rintro k G junk ⟨hk2,hk4,hall,hag⟩;refine AN.mk (fun hz=>?_) (fun hz=>?_)<;>simp only [decide_eq_true_eq,decide_eq_false_iff_not]at hz
   ·(conv=>whnf);try (refine Av.run ?_)
    (conv=>whnf);rw [w64 (x:=(i:Int)+(k:Int)) (by omega) (by omega)];have hbadk:Dz (bt t (i+k))=none→BA t (if inner then DD else E6) i= .inl (i+k):=fun hn=>by
     rw [ho,hes];have:k=2∨k=3:=by omega
     rcases this with rfl | rfl
     ·have hn:Dz (bt t (i+1+1))=none:=hn;rw [hn]
     ·have h2:=hall 2 (by omega) (by omega);obtain⟨a,ha⟩:=AbY.1 h2;have ha:Dz (bt t (i+1+1))=some a:=ha;have hn:Dz (bt t (i+1+2))=none:=hn;rw [ha];show(match Dz (bt t (i+1+2))with | none=>_ | some b=>_)=_;rw [hn]
    by_cases hik:i+k<t.size
    case neg=>
     have h256:=Cy hik;have d2:decide ((i:Int)+(k:Int)≥(t.size:Int))=true:=decide_eq_true (by omega);(conv=>whnf);rw [d2];(conv=>whnf);rw [w64 (x:=(i:Int)+(k:Int)) (by omega) (by omega)];(conv=>whnf);refine⟨?_,hag⟩;exact EO (e:=i+k) (hbadk (by rw [h256];rfl))
    obtain⟨bk,hk1,hk2',hk3⟩:=Di hik;have d2:decide ((i:Int)+(k:Int)≥(t.size:Int))=false:=decide_eq_false (by omega);(conv=>whnf);rw [d2];(conv=>whnf);rw [w64 (x:=(i:Int)+(k:Int)) (by omega) (by omega)];refine DJ (i:=i+k) Fz rfl hk1 ?_;rw [←hk2'];refine Am (Sw hk3) fun G2 ga2=>?_;have hag2:=hag.trans (ga2.mono fun k hk=>Aj hag hk);cases hx:Dz (bt t (i+k))with
    | none=>
      have d3:decide (JV (bt t (i+k))<0)=true:=by unfold JV;rw [hx];rfl
      (conv=>whnf);rw [d3];(conv=>whnf);rw [w64 (x:=(i:Int)+(k:Int)) (by omega) (by omega)];(conv=>whnf);exact⟨EO (e:=i+k) (hbadk hx),hag2⟩
    | some v=>
      have d3:decide (JV (bt t (i+k))<0)=false:=by unfold JV;rw [hx];show decide ((v:Int)<0)=false;exact decide_eq_false (by omega)
      (conv=>whnf);rw [d3];(conv=>whnf);rw [w64 (x:=(k:Int)+1) (by omega) (by omega)];refine⟨rfl,k+1,rfl,⟨by omega,by omega,fun m h1 h2=>?_,hag2⟩,by omega⟩;rcases Nat.lt_succ_iff_lt_or_eq.1 h2 with h | rfl
      ·exact hall m h1 h
      ·rw [hx];rfl
   ·obtain rfl:k=4:=by omega
    obtain⟨a,ha⟩:=AbY.1 (hall 2 (by omega) (by omega));obtain⟨b,hb⟩:=AbY.1 (hall 3 (by omega) (by omega));have hal:=Hi ha;have hbl:=Hi hb;have h2l:i+2<t.size:=D2 fun e=>by rw [e]at ha;cases ha
    have h3l:i+3<t.size:=D2 fun e=>by rw [e]at hb;cases hb
    obtain⟨x2,p1,p2,p3⟩:=Di h2l;obtain⟨x3,q1,q2,q3⟩:=Di h3l;have ea:JV (bt t (i+2))=(a:Int):=by unfold JV;rw [ha]
    have eb:JV (bt t (i+3))=(b:Int):=by unfold JV;rw [hb]
    refine Ar.held (Old G) 18 (sq [0,1,2,3,6,7,8,9,13,14] (.f 4 (sq [5] (.f 10 (sq [11,12,15,16,17] .e))))) rfl (by kernel_rfl) ?_;(conv=>whnf);rw [w64 (x:=(i:Int)+2) (by omega) (by omega)];refine DJ (i:=i+2) Fz rfl p1 ?_;rw [←p2];(conv=>whnf);rw [w64 (x:=(i:Int)+3) (by omega) (by omega)];refine DJ (i:=i+3) Fz rfl q1 ?_;rw [←q2];(conv=>whnf);rw [w64 (x:=(i:Int)+4) (by omega) (by omega)];refine Am (Sw p3) fun G2 ga2=>(⟨ga2,?_⟩);rw [ea];(conv=>whnf);rw [w64 (x:=16*(a:Int)) (by omega) (by omega)];refine Am (Sw q3) fun G3 ga3=>?_;have ga4:=ga2.trans (ga3.mono fun k hk=>Aj ga2 hk);refine⟨ga4,?_⟩;rw [eb];(conv=>whnf);rw [w64 (x:=16*(a:Int)+(b:Int)) (by omega) (by omega)];(conv=>whnf);rw [w8 (x:=16*(a:Int)+(b:Int)) (by omega) (by omega)];(conv=>whnf);refine⟨?_,hag.trans (ga4.mono fun k hk=>Aj hag hk)⟩;have:=GD (t:=t) (i:=i) (inner:=inner) (c:=16*a+b) (j:=i+4) (by
     rw [ho,hes];have ha:Dz (bt t (i+1+1))=some a:=ha;have hb:Dz (bt t (i+1+2))=some b:=hb;rw [ha];show(match Dz (bt t (i+1+2))with | none=>_ | some b=>_)=_;rw [hb])
    rw [←this];rfl
 have d1:((c:Int)==(120:Int))=false:=beq_eq_false_iff_ne.2 (by omega);rw [if_neg h120]at hes;(conv=>whnf);rw [d1];clear d1;(conv=>whnf);by_cases hq00:97≤c
 ·skip
  have d1:decide ((c:Int)≥97)=true:=decide_eq_true (by omega);(conv=>whnf);rw [d1];clear d1;by_cases hq01:c≤122
  ·skip
   have d1:decide ((c:Int)≤122)=true:=decide_eq_true (by omega);(conv=>whnf);rw [d1];clear d1;have d1:decide ((c:Int)<32)=false:=decide_eq_false (by omega);(conv=>whnf);rw [d1];clear d1;have d1:decide ((c:Int)>126)=false:=decide_eq_false (by omega);(conv=>whnf);rw [d1];clear d1;(conv=>whnf);rw [w64 (x:=(i:Int)+1) (by omega) (by omega)];(conv=>whnf);exact⟨EO (e:=i+1) (by rw [ho,hes,if_pos (by omega)]),Agr.refl _ _⟩
  ·skip
   have d1:decide ((c:Int)≤122)=false:=decide_eq_false (by omega);(conv=>whnf);rw [d1];clear d1;have d1:decide ((c:Int)≥65)=true:=decide_eq_true (by omega);(conv=>whnf);rw [d1];clear d1;have d1:decide ((c:Int)≤90)=false:=decide_eq_false (by omega);(conv=>whnf);rw [d1];clear d1;have d1:decide ((c:Int)≥48)=true:=decide_eq_true (by omega);(conv=>whnf);rw [d1];clear d1;have d1:decide ((c:Int)≤57)=false:=decide_eq_false (by omega);(conv=>whnf);rw [d1];clear d1;have d1:decide ((c:Int)<32)=false:=decide_eq_false (by omega);(conv=>whnf);rw [d1];clear d1;by_cases hq10:126<c
   ·skip
    have d1:decide ((c:Int)>126)=true:=decide_eq_true (by omega);(conv=>whnf);rw [d1];clear d1;(conv=>whnf);rw [w64 (x:=(i:Int)+1) (by omega) (by omega)];(conv=>whnf);exact⟨EO (e:=i+1) (by rw [ho,hes,if_pos (by omega)]),Agr.refl _ _⟩
   ·skip
    have d1:decide ((c:Int)>126)=false:=decide_eq_false (by omega);(conv=>whnf);rw [d1];clear d1;(conv=>whnf);rw [w64 (x:=(i:Int)+2) (by omega) (by omega)];(conv=>whnf);exact⟨GD (j:=i+2) (by rw [ho,hes,if_neg (by omega)]),Agr.refl _ _⟩
 ·skip
  have d1:decide ((c:Int)≥97)=false:=decide_eq_false (by omega);(conv=>whnf);rw [d1];clear d1;by_cases hq10:65≤c
  ·skip
   have d1:decide ((c:Int)≥65)=true:=decide_eq_true (by omega);(conv=>whnf);rw [d1];clear d1;by_cases hq11:c≤90
   ·skip
    have d1:decide ((c:Int)≤90)=true:=decide_eq_true (by omega);(conv=>whnf);rw [d1];clear d1;have d1:decide ((c:Int)<32)=false:=decide_eq_false (by omega);(conv=>whnf);rw [d1];clear d1;have d1:decide ((c:Int)>126)=false:=decide_eq_false (by omega);(conv=>whnf);rw [d1];clear d1;(conv=>whnf);rw [w64 (x:=(i:Int)+1) (by omega) (by omega)];(conv=>whnf);exact⟨EO (e:=i+1) (by rw [ho,hes,if_pos (by omega)]),Agr.refl _ _⟩
   ·skip
    have d1:decide ((c:Int)≤90)=false:=decide_eq_false (by omega);(conv=>whnf);rw [d1];clear d1;have d1:decide ((c:Int)≥48)=true:=decide_eq_true (by omega);(conv=>whnf);rw [d1];clear d1;have d1:decide ((c:Int)≤57)=false:=decide_eq_false (by omega);(conv=>whnf);rw [d1];clear d1;have d1:decide ((c:Int)<32)=false:=decide_eq_false (by omega);(conv=>whnf);rw [d1];clear d1;have d1:decide ((c:Int)>126)=false:=decide_eq_false (by omega);(conv=>whnf);rw [d1];clear d1;(conv=>whnf);rw [w64 (x:=(i:Int)+2) (by omega) (by omega)];(conv=>whnf);exact⟨GD (j:=i+2) (by rw [ho,hes,if_neg (by omega)]),Agr.refl _ _⟩
  ·skip
   have d1:decide ((c:Int)≥65)=false:=decide_eq_false (by omega);(conv=>whnf);rw [d1];clear d1;by_cases hq20:48≤c
   ·skip
    have d1:decide ((c:Int)≥48)=true:=decide_eq_true (by omega);(conv=>whnf);rw [d1];clear d1;by_cases hq21:c≤57
    ·skip
     have d1:decide ((c:Int)≤57)=true:=decide_eq_true (by omega);(conv=>whnf);rw [d1];clear d1;have d1:decide ((c:Int)<32)=false:=decide_eq_false (by omega);(conv=>whnf);rw [d1];clear d1;have d1:decide ((c:Int)>126)=false:=decide_eq_false (by omega);(conv=>whnf);rw [d1];clear d1;(conv=>whnf);rw [w64 (x:=(i:Int)+1) (by omega) (by omega)];(conv=>whnf);exact⟨EO (e:=i+1) (by rw [ho,hes,if_pos (by omega)]),Agr.refl _ _⟩
    ·skip
     have d1:decide ((c:Int)≤57)=false:=decide_eq_false (by omega);(conv=>whnf);rw [d1];clear d1;have d1:decide ((c:Int)<32)=false:=decide_eq_false (by omega);(conv=>whnf);rw [d1];clear d1;have d1:decide ((c:Int)>126)=false:=decide_eq_false (by omega);(conv=>whnf);rw [d1];clear d1;(conv=>whnf);rw [w64 (x:=(i:Int)+2) (by omega) (by omega)];(conv=>whnf);exact⟨GD (j:=i+2) (by rw [ho,hes,if_neg (by omega)]),Agr.refl _ _⟩
   ·skip
    have d1:decide ((c:Int)≥48)=false:=decide_eq_false (by omega);(conv=>whnf);rw [d1];clear d1;by_cases hq00:c<32
    ·skip
     have d1:decide ((c:Int)<32)=true:=decide_eq_true (by omega);(conv=>whnf);rw [d1];clear d1;(conv=>whnf);rw [w64 (x:=(i:Int)+1) (by omega) (by omega)];(conv=>whnf);exact⟨EO (e:=i+1) (by rw [ho,hes,if_pos (by omega)]),Agr.refl _ _⟩
    ·skip
     have d1:decide ((c:Int)<32)=false:=decide_eq_false (by omega);(conv=>whnf);rw [d1];clear d1;have d1:decide ((c:Int)>126)=false:=decide_eq_false (by omega);(conv=>whnf);rw [d1];clear d1;(conv=>whnf);rw [w64 (x:=(i:Int)+2) (by omega) (by omega)];(conv=>whnf);exact⟨GD (j:=i+2) (by rw [ho,hes,if_neg (by omega)]),Agr.refl _ _⟩
theorem Mo(x:BitVec 256):A0 x=Ew fun b=>x.getLsbD b:=by
 unfold A0 HN Ew;refine List.map_congr_left fun b hb=>?_;rw [decide_eq_true (List.mem_range.1 hb),Ab8]
theorem VR{f:Nat→Bool}{x:BitVec 256}(h:∀b,b<256→f b=x.getLsbD b):Ew f=A0 x:=by rw [Mo];exact DR h
theorem KA(x y:BitVec 256)(b:Nat):(x ||| y).getLsbD b=(x.getLsbD b|| y.getLsbD b):=BitVec.getLsbD_or
theorem T3(x:BitVec 256)(b:Nat)(hb:b<256):(~~~x).getLsbD b= !x.getLsbD b:=by rw [BitVec.getLsbD_not,decide_eq_true hb,Ab8]
theorem Rv(b:Nat):(0#256).getLsbD b=false:=BitVec.getLsbD_zero
theorem F7(f:Nat→Bool){k:Nat}(h:k<256)(v:Bool):(Ew f).set k (.bool v)=Ew fun b=>if b=k then v else f b:=by
 apply List.ext_getElem?;intro j;by_cases hj:j<256
 ·rw [M2 _ hj];by_cases hjk:k=j
  ·subst hjk;rw [List.getElem?_set_self (by rw [D5];exact h),if_pos rfl]
  ·rw [List.getElem?_set_ne hjk,M2 _ hj,if_neg (Ne.symm hjk)]
 ·rw [AcK (by rw [List.length_set,D5];omega),AcK (by rw [D5];omega)]
def notM(nt:Bool)(M:Sum Nat (BitVec 256×Nat)):Sum Nat (BitVec 256×Nat):=match M with
 | .inl e=>.inl e
 | .inr (x,k)=>.inr (if nt then ~~~x else x,k)
def FZ:Value:=.agg (A0 0#256).toArray
theorem Ea:(Tryz.prog.info? 157).bind (·.zero)=some FZ:=by kernel_rfl
def DK(t:ByteArray)(i:Nat)(v:Value):Prop:=match BE t i with
 | .inl e=>v= .tuple #[FZ,.int .i64 0,.int .i64 10,.int .i64 (e:Int)]
 | .inr (x,j)=>v= .tuple #[.agg (A0 x).toArray,.int .i64 (j:Int),.int .i64 0,.int .i64 0]
def rrP(q4 q8:Nat)(x:BitVec 256):List Pc:=[pB 157 q4 (A0 0#256),pB 157 q8 (A0 x)]
def rrF(q4 q8:Nat)(f:Nat→Bool):List Pc:=[pB 157 q4 (A0 0#256),pB 157 q8 (Ew f)]
theorem DQ{q4 q8:Nat}{f:Nat→Bool}{x:BitVec 256}(h:∀b,b<256→f b=x.getLsbD b):rrF q4 q8 f=rrP q4 q8 x:=by unfold rrF rrP;rw [VR h]
structure MemD(H:Aa)(t:ByteArray)(q4 q8:Nat)(M:Sum Nat (BitVec 256×Nat))(y:Nat×Nat×BitVec 256)(G:Aa):Prop where
 le:y.1≤t.size
 fuel:t.size<y.2.1+y.1
 eq:CX t y.2.1 y.1 y.2.2=M
 st:St H G (rrP q4 q8 y.2.2)
theorem Ce{H:Aa}{b:Nat}{x:BitVec 256}(h:Blk H b 157 (A0 x)):AX H b 0 (A0 x):=h.cells (fun j v hv=>by rw [AcL];exact hv)
theorem agD(x:BitVec 256):GX Tryz.prog 157 (A0 x).length:=by rw [Aq];exact Vl
theorem szD(x:BitVec 256):(Tryz.prog.info? 157).map (·.size)=some (A0 x).length:=by rw [Aq];rfl
theorem onD(x:BitVec 256):(A0 x).all (·.oneCell')=true:=N6 x 256
theorem UA{H:Aa}{t:ByteArray}{i:Nat}(ht:t.size≤1152921504606846976)(hi:i<t.size):
  Al Tryz.prog 81 #[.string t,.int .i64 (i:Int)] H fun v H'=>Agr (Old H) H H'∧DK t i v:=by
 refine Al.of_vcL Tryz.func81 rfl (Tryz.call81 _) ?_;obtain⟨b,hb1,hb2,hb3⟩:=Di hi;refine An FZ (A0 0#256) Ea rfl ?_;intro q4 H1 hq1 hs1 hb1' ha1;have st1:=(St.nil H).box hq1 hs1 hb1' ha1;refine An FZ (A0 0#256) Ea rfl ?_;intro q8 H2 hq2 hs2 hb2' ha2;have st2:St H H2 (rrP q4 q8 0#256):=st1.box hq2 hs2 hb2' ha2;have d1:decide ((i:Int)<0)=false:=decide_eq_false (by omega);have d2:decide ((i:Int)≥(t.size:Int))=false:=decide_eq_false (by omega);(conv=>whnf);rw [d1];(conv=>whnf);rw [d2];refine DJ Fz rfl hb1 ?_;rw [←hb2];by_cases h46:bt t i=46
 ·have d3:((bt t i:Int)==(46:Int))=true:=by rw [h46];rfl
  (conv=>whnf);rw [d3];(conv=>whnf);refine AK.mk [9] (fun k:Nat=>[.int .i64 (k:Int)]) (fun k G=>k≤256∧St H G (rrF q4 q8 fun b=>decide (b<k)&& !decide (b=10))) (fun k _=>256 - k) ?_ ?_
  ·(conv=>whnf);exact⟨0,rfl,by omega,by rw [DQ (x:=0#256) (fun b hb=>by rw [Rv];simp)];exact st2⟩
  ·rintro k G junk ⟨hk,stg⟩;refine AN.mk (fun hz=>?_) (fun hz=>?_)<;>simp only [decide_eq_true_eq,decide_eq_false_iff_not]at hz
   ·(conv=>whnf);try (refine Av.run ?_)
    have d4:((k:Int) != (10:Int))= !decide (k=10):=by
     by_cases h:k=10
     ·subst h;rfl
     ·rw [decide_eq_false h];rw [Bool.not_false,bne_iff_ne];omega
    (conv=>whnf);rw [d4];refine ixa EA (by omega) (by omega) ?_;refine AZ stg 1 ct4 rfl (by rw [D5];omega) rfl fun G2 stg2=>?_;have e0:0+(k:Int).toNat*1=k:=by omega
    rw [e0]at stg2;have st3:St H G2 (rrF q4 q8 fun b=>decide (b<k+1)&& !decide (b=10)):=by
     have e2:(Ew fun b=>decide (b<k)&& !decide (b=10)).set k (.bool (!decide (k=10)))=Ew fun b=>decide (b<k+1)&& !decide (b=10):=by
      rw [F7 _ (by omega)];refine DR fun b hb=>?_;by_cases h:b=k
      ·subst h;rw [if_pos rfl,decide_eq_true (show b<b+1 by omega),Ab8]
      ·rw [if_neg h]
       congr 1
       exact decide_eq_decide.2 (by omega)
     have:=stg2;unfold rrF at this ⊢;simp only [AaS,AaT]at this;rwa [e2]at this
    (conv=>whnf);rw [w64 (x:=(k:Int)+1) (by omega) (by omega)];exact⟨rfl,k+1,rfl,⟨by omega,st3⟩,by omega⟩
   ·obtain rfl:k=256:=by omega
    have hx:∀b,b<256→(decide (b<256)&& !decide (b=10))=(~~~(A8 10 10)).getLsbD b:=fun b hb=>by
     rw [T3 _ _ hb,CB _ _ _ hb,decide_eq_true hb,Ab8]
     congr 1
     by_cases h:b=10
     ·subst h;rfl
     ·rw [decide_eq_false h];by_cases h2:10≤b
      ·rw [decide_eq_true h2,decide_eq_false (show¬b≤10 by omega)];rfl
      ·rw [decide_eq_false h2];rfl
    rw [DQ hx]at stg;refine ldN (cs:=A0 (~~~(A8 10 10))) (agD _) (Ce (stg.blk 1 rfl)) trivial ?_;(conv=>whnf);rw [w64 (x:=(i:Int)+1) (by omega) (by omega)];refine AI (cs:=A0 (~~~(A8 10 10))) stg 0 (szD _) rfl (by simp [Aq]) (onD _) fun Z1 sz1=>?_;have bz1:Blk Z1 q4 157 (A0 (~~~(A8 10 10))):=by
     have:=sz1.blk 0 rfl;rwa [AD (by simp [Aq])]at this
    refine ldN (cs:=A0 (~~~(A8 10 10))) (agD _) (Ce bz1) trivial ?_;exact⟨sz1.old,by unfold DK BE;rw [if_pos h46];rfl⟩
 have d3:((bt t i:Int)==(46:Int))=false:=beq_eq_false_iff_ne.2 (by omega);(conv=>whnf);rw [d3];refine DJ Fz rfl hb1 ?_;rw [←hb2];by_cases h91:bt t i=91
 case neg=>
  have d4:((bt t i:Int) != (91:Int))=true:=by rw [bne_iff_ne];omega
  have hrs:BE t i=match BA t E6 i with | .inl e=>.inl e | .inr (b,k)=>.inr (A8 b b,k):=by unfold BE;rw [if_neg h46,if_neg h91];rfl
  (conv=>whnf);rw [d4];refine Am (EN (i:=i) (inner:=false) ht (by omega)) fun H3 ha3=>?_;have st3:=st2.call ha3;unfold L0;simp only [AcM,if_false];cases ho:BA t E6 i with
  | inl e=>
    rw [ho]at hrs;(conv=>whnf);refine ldN (cs:=A0 0#256) (agD _) (Ce (st3.blk 1 rfl)) trivial (AI (cs:=A0 0#256) st3 0 (szD _) rfl (by simp [Aq]) (onD _) fun Z1 sz1=>?_);have bz1:Blk Z1 q4 157 (A0 0#256):=by
     have:=sz1.blk 0 rfl;rwa [AD (by simp [Aq])]at this
    refine ldN (cs:=A0 0#256) (agD _) (Ce bz1) trivial ?_;exact⟨sz1.old,by unfold DK;rw [hrs];rfl⟩
  | inr p=>
    obtain⟨c,j⟩:=p;rw [ho]at hrs;have hok:=Dd ho;(conv=>whnf);rw [w64 (x:=(c:Int)) (by omega) (by omega)];refine ixa EA (by omega) (by omega) ?_;refine AZ st3 1 ct4 rfl (by rw [Aq];omega) rfl fun H4 st4=>?_;have e0:0+(c:Int).toNat*1=c:=by omega
    rw [e0]at st4;have st5:St H H4 (rrP q4 q8 (A8 c c)):=by
     have e2:(A0 0#256).set c (.bool true)=A0 (A8 c c):=by
      rw [Mo,Mo,F7 _ (by omega)];refine DR fun b hb=>?_;rw [CB _ _ _ hb,Rv];by_cases h:b=c
      ·subst h;rw [if_pos rfl,decide_eq_true (AaV _)];rfl
      ·rw [if_neg h];by_cases h2:c≤b
       ·rw [decide_eq_true h2,decide_eq_false (show¬b≤c by omega)];rfl
       ·rw [decide_eq_false h2];rfl
     have:=st4;unfold rrP at this ⊢;simp only [AaS,AaT]at this;rwa [e2]at this
    refine ldN (cs:=A0 (A8 c c)) (agD _) (Ce (st5.blk 1 rfl)) trivial (AI (cs:=A0 (A8 c c)) st5 0 (szD _) rfl (by simp [Aq]) (onD _) fun Z1 sz1=>?_);have bz1:Blk Z1 q4 157 (A0 (A8 c c)):=by
     have:=sz1.blk 0 rfl;rwa [AD (by simp [Aq])]at this
    refine ldN (cs:=A0 (A8 c c)) (agD _) (Ce bz1) trivial ?_;exact⟨sz1.old,by unfold DK;rw [hrs];rfl⟩
 have d4:((bt t i:Int) != (91:Int))=false:=by rw [h91];rfl
 (conv=>whnf);rw [d4];(conv=>whnf);rw [w64 (x:=(i:Int)+1) (by omega) (by omega)];have hrs:BE t i=HO t (i+1):=by unfold BE;rw [if_neg h46,if_pos h91]
 obtain⟨nt,hnt⟩:∃nt:Bool,nt=decide (bt t (i+1)=94):=⟨_,rfl⟩;have hbr:HO t (i+1)=notM nt (CX t (t.size+1) (if nt then i+1+1 else i+1) 0#256):=by
  unfold HO;rw [hnt];by_cases h:bt t (i+1)=94
  ·simp only [h,if_true,decide_true];cases CX t (t.size+1) (i+1+1) 0#256<;>rfl
  ·simp only [h,if_false,decide_false,AcM];cases CX t (t.size+1) (i+1) 0#256<;>rfl
 obtain⟨M,hM⟩:∃M,M=CX t (t.size+1) (if nt then i+1+1 else i+1) 0#256:=⟨_,rfl⟩;rw [←hM]at hbr;rw [hbr]at hrs;have hle:(if nt then i+1+1 else i+1)≤t.size:=by
  cases hn:nt with
  | false=>exact hi
  | true=>
    rw [hn]at hnt;have h94:=of_decide_eq_true hnt.symm;exact D2 (by omega)
 by_cases hi1:i+1<t.size
 case neg=>
  have h256:=Cy hi1;have hn0:nt=false:=by rw [hnt,decide_eq_false];omega
  have d5:decide ((i:Int)+1<(t.size:Int))=false:=decide_eq_false (by omega);(conv=>whnf);rw [d5];(conv=>whnf);refine Av.cut [13] (fun _:Unit=>[.int .i64 ((if nt then i+1+1 else i+1:Nat):Int)]) (fun _ G=>St H G (rrP q4 q8 0#256)) ?_ ?_
  ·(conv=>whnf);exact⟨rfl,(),by rw [hn0];rfl,st2⟩
  ·rintro⟨⟩ G junk0 stg;(conv=>whnf);refine AK.mk [13] (fun y:Nat×Nat×BitVec 256=>[.int .i64 (y.1:Int)]) (fun y G=>MemD H t q4 q8 M y G) (fun y _=>t.size - y.1) ?_ ?_
   ·(conv=>whnf);exact⟨((if nt then i+1+1 else i+1),t.size+1,0#256),rfl,⟨hle,by simp only;omega,hM.symm,stg⟩⟩
   ·rintro⟨j,n,x⟩ J0 junk1 ⟨hj,hfu,heq,stl⟩;simp only at hj hfu heq stl;obtain⟨n,rfl⟩:∃m,n=m+1:=⟨n - 1,by omega⟩;by_cases hjl:j<t.size
    case neg=>
     have hj0:=Cy hjl;have d7:decide ((j:Int)≥(t.size:Int))=true:=decide_eq_true (by omega);have ho:BA t DD j= .inl j:=by unfold BA;rw [hj0,if_neg (by decide),if_pos (.inr (.inl (by decide)))]
     have hmn:M= .inl j:=by rw [←heq,CX,if_neg (by omega),ho]
     rw [hmn]at hrs;(conv=>whnf);rw [d7];(conv=>whnf);try (refine Av.run ?_)
     refine Am (EN (i:=j) (inner:=true) ht hj) fun J1 ja1=>?_;have stl1:=stl.call ja1;unfold L0;simp only [if_true];rw [ho];refine Ct EA FZ Ea (A0 0#256) rfl (AI (cs:=A0 0#256) stl1 0 (szD _) rfl (by simp [Aq]) (onD _) fun Z1 sz1=>?_);have bz1:Blk Z1 q4 157 (A0 0#256):=by
      have:=sz1.blk 0 rfl;rwa [AD (by simp [Aq])]at this
     refine ldN (cs:=A0 0#256) (agD _) (Ce bz1) trivial ?_;exact⟨sz1.old,by unfold DK;rw [hrs];rfl⟩
    obtain⟨b5,hb5,hb6,hb7⟩:=Di hjl;have d7:decide ((j:Int)≥(t.size:Int))=false:=decide_eq_false (by omega);(conv=>whnf);rw [d7];refine DJ (i:=j) Fz rfl hb5 ?_;rw [←hb6];by_cases h93:bt t j=93
    ·have d8:((bt t j:Int) != (93:Int))=false:=by rw [h93];rfl
     have hmn:M= .inr (x,j+1):=by rw [←heq,CX,if_pos h93]
     rw [hmn]at hrs;(conv=>whnf);rw [d8];(conv=>whnf);have hn:=hn0;(conv=>whnf);try (refine Av.run ?_)
     refine ldN (cs:=A0 x) (agD _) (Ce (stl.blk 1 rfl)) trivial ?_;(conv=>whnf);rw [w64 (x:=(j:Int)+1) (by omega) (by omega)];refine AI (cs:=A0 x) stl 0 (szD _) rfl (by simp [Aq]) (onD _) fun Z1 sz1=>?_;have bz1:Blk Z1 q4 157 (A0 x):=by
      have:=sz1.blk 0 rfl;rwa [AD (by simp [Aq])]at this
     refine ldN (cs:=A0 x) (agD _) (Ce bz1) trivial ?_;exact⟨sz1.old,by unfold DK;rw [hrs,hn];rfl⟩
    have d8:((bt t j:Int) != (93:Int))=true:=by rw [bne_iff_ne];omega
    (conv=>whnf);rw [d8];(conv=>whnf);try (refine Av.run ?_)
    refine Am (EN (i:=j) (inner:=true) ht hj) fun J1 ja1=>?_;have stl1:=stl.call ja1;unfold L0;simp only [if_true];cases ho:BA t DD j with
    | inl e=>
      have hmn:M= .inl e:=by rw [←heq,CX,if_neg h93,ho]
      rw [hmn]at hrs;refine Ct EA FZ Ea (A0 0#256) rfl (AI (cs:=A0 0#256) stl1 0 (szD _) rfl (by simp [Aq]) (onD _) fun Z1 sz1=>?_);have bz1:Blk Z1 q4 157 (A0 0#256):=by
       have:=sz1.blk 0 rfl;rwa [AD (by simp [Aq])]at this
      refine ldN (cs:=A0 0#256) (agD _) (Ce bz1) trivial ?_;exact⟨sz1.old,by unfold DK;rw [hrs];rfl⟩
    | inr p=>
      obtain⟨lo,j1⟩:=p;have hok:=Dd ho;have hmn:M=GJ t lo j1 x (CX t n):=by rw [←heq,CX,if_neg h93,ho]
      unfold GJ at hmn;by_cases hj1:j1<t.size
      case neg=>
       have h256:=Cy hj1;have d9:decide ((j1:Int)<(t.size:Int))=false:=decide_eq_false (by omega);rw [if_neg (by omega)]at hmn;(conv=>whnf);try (refine Av.run ?_)
       (conv=>whnf);rw [d9];(conv=>whnf);rw [w64 (x:=(lo:Int)) (by omega) (by omega)];(conv=>whnf);refine AK.mk [20] (fun b:Nat=>[.int .i64 (b:Int)]) (fun b G=>lo≤b∧b≤lo+1∧St H G (rrF q4 q8 fun a=>x.getLsbD a|| (decide (lo≤a)&&decide (a<b)))) (fun b _=>lo+1 - b) ?_ ?_
       ·(conv=>whnf);refine⟨lo,rfl,AaV _,by omega,?_⟩;rw [DQ (x:=x) (fun a ha=>by
         by_cases h:lo≤a
         ·rw [decide_eq_false (show¬a<lo by omega),AbV,AaU]
         ·rw [decide_eq_false h,AbW,AaU])]
        exact stl1
       ·rintro b I0 junk5 ⟨hb1,hb2,sti⟩;(conv=>whnf);rw [w64 (x:=(lo:Int)) (by omega) (by omega)];refine AN.mk (fun hz=>?_) (fun hz=>?_)<;>simp only [decide_eq_true_eq,decide_eq_false_iff_not]at hz
        ·(conv=>whnf);try (refine Av.run ?_)
         refine ixa EA (by omega) (by omega) ?_;refine AZ sti 1 ct4 rfl (by rw [D5];omega) rfl fun I2 sti2=>?_;have e0:0+(b:Int).toNat*1=b:=by omega
         rw [e0]at sti2;have sti3:St H I2 (rrF q4 q8 fun a=>x.getLsbD a|| (decide (lo≤a)&&decide (a<b+1))):=by
          have e2:(Ew fun a=>x.getLsbD a|| (decide (lo≤a)&&decide (a<b))).set b (.bool true)=Ew fun a=>x.getLsbD a|| (decide (lo≤a)&&decide (a<b+1)):=by
           rw [F7 _ (by omega)];refine DR fun a ha=>?_;by_cases h:a=b
           ·subst h;rw [if_pos rfl,decide_eq_true (show lo≤a by omega),decide_eq_true (show a<a+1 by omega),Ab8,Ac3]
           ·rw [if_neg h]
            congr 2
            exact decide_eq_decide.2 (by omega)
          have:=sti2;unfold rrF at this ⊢;simp only [AaS,AaT]at this;rwa [e2]at this
         (conv=>whnf);rw [w64 (x:=(b:Int)+1) (by omega) (by omega)];exact⟨rfl,b+1,rfl,⟨by omega,by omega,sti3⟩,by omega⟩
        ·obtain rfl:b=lo+1:=by omega
         rw [DQ (x:=x ||| A8 lo lo) (fun a ha=>by
          rw [KA,CB _ _ _ ha]
          congr 2
          exact decide_eq_decide.2 (by omega))]at sti
         (conv=>whnf);exact⟨rfl,(j1,n,x ||| A8 lo lo),rfl,⟨by simp only;omega,by simp only;omega,hmn.symm,sti⟩,by simp only;omega⟩
      obtain⟨b8,hb8,hb9,hb10⟩:=Di hj1;have d9:decide ((j1:Int)<(t.size:Int))=true:=decide_eq_true (by omega);(conv=>whnf);try (refine Av.run ?_)
      (conv=>whnf);rw [d9];refine DJ (i:=j1) Fz rfl hb8 ?_;rw [←hb9];by_cases h45:bt t j1=45
      case neg=>
       have d10:((bt t j1:Int)==(45:Int))=false:=beq_eq_false_iff_ne.2 (by omega);rw [if_neg h45]at hmn;(conv=>whnf);rw [d10];(conv=>whnf);rw [w64 (x:=(lo:Int)) (by omega) (by omega)];(conv=>whnf);refine AK.mk [20] (fun b:Nat=>[.int .i64 (b:Int)]) (fun b G=>lo≤b∧b≤lo+1∧St H G (rrF q4 q8 fun a=>x.getLsbD a|| (decide (lo≤a)&&decide (a<b)))) (fun b _=>lo+1 - b) ?_ ?_
       ·(conv=>whnf);refine⟨lo,rfl,AaV _,by omega,?_⟩;rw [DQ (x:=x) (fun a ha=>by
         by_cases h:lo≤a
         ·rw [decide_eq_false (show¬a<lo by omega),AbV,AaU]
         ·rw [decide_eq_false h,AbW,AaU])]
        exact stl1
       ·rintro b I0 junk5 ⟨hb1,hb2,sti⟩;(conv=>whnf);rw [w64 (x:=(lo:Int)) (by omega) (by omega)];refine AN.mk (fun hz=>?_) (fun hz=>?_)<;>simp only [decide_eq_true_eq,decide_eq_false_iff_not]at hz
        ·(conv=>whnf);try (refine Av.run ?_)
         refine ixa EA (by omega) (by omega) ?_;refine AZ sti 1 ct4 rfl (by rw [D5];omega) rfl fun I2 sti2=>?_;have e0:0+(b:Int).toNat*1=b:=by omega
         rw [e0]at sti2;have sti3:St H I2 (rrF q4 q8 fun a=>x.getLsbD a|| (decide (lo≤a)&&decide (a<b+1))):=by
          have e2:(Ew fun a=>x.getLsbD a|| (decide (lo≤a)&&decide (a<b))).set b (.bool true)=Ew fun a=>x.getLsbD a|| (decide (lo≤a)&&decide (a<b+1)):=by
           rw [F7 _ (by omega)];refine DR fun a ha=>?_;by_cases h:a=b
           ·subst h;rw [if_pos rfl,decide_eq_true (show lo≤a by omega),decide_eq_true (show a<a+1 by omega),Ab8,Ac3]
           ·rw [if_neg h]
            congr 2
            exact decide_eq_decide.2 (by omega)
          have:=sti2;unfold rrF at this ⊢;simp only [AaS,AaT]at this;rwa [e2]at this
         (conv=>whnf);rw [w64 (x:=(b:Int)+1) (by omega) (by omega)];exact⟨rfl,b+1,rfl,⟨by omega,by omega,sti3⟩,by omega⟩
        ·obtain rfl:b=lo+1:=by omega
         rw [DQ (x:=x ||| A8 lo lo) (fun a ha=>by
          rw [KA,CB _ _ _ ha]
          congr 2
          exact decide_eq_decide.2 (by omega))]at sti
         (conv=>whnf);exact⟨rfl,(j1,n,x ||| A8 lo lo),rfl,⟨by simp only;omega,by simp only;omega,hmn.symm,sti⟩,by simp only;omega⟩
      have d10:((bt t j1:Int)==(45:Int))=true:=by rw [h45];rfl
      rw [if_pos h45]at hmn;(conv=>whnf);rw [d10];(conv=>whnf);rw [w64 (x:=(j1:Int)+1) (by omega) (by omega)];refine Am (EN (i:=j1+1) (inner:=true) ht (by omega)) fun J2 ja2=>?_;have stl2:=stl1.call ja2;unfold L0;simp only [if_true];cases ho2:BA t DD (j1+1)with
      | inl e=>
        rw [ho2]at hmn;rw [hmn]at hrs;refine Ct EA FZ Ea (A0 0#256) rfl (AI (cs:=A0 0#256) stl2 0 (szD _) rfl (by simp [Aq]) (onD _) fun Z1 sz1=>?_);have bz1:Blk Z1 q4 157 (A0 0#256):=by
         have:=sz1.blk 0 rfl;rwa [AD (by simp [Aq])]at this
        refine ldN (cs:=A0 0#256) (agD _) (Ce bz1) trivial ?_;exact⟨sz1.old,by unfold DK;rw [hrs];rfl⟩
      | inr p2=>
        obtain⟨hi2,j2⟩:=p2;have hok2:=Dd ho2;rw [ho2]at hmn;by_cases hlt:hi2<lo
        ·have d11:decide ((hi2:Int)<(lo:Int))=true:=decide_eq_true (by omega);simp only [if_pos hlt]at hmn;rw [hmn]at hrs;(conv=>whnf);rw [d11];refine Ct EA FZ Ea (A0 0#256) rfl (AI (cs:=A0 0#256) stl2 0 (szD _) rfl (by simp [Aq]) (onD _) fun Z1 sz1=>?_);have bz1:Blk Z1 q4 157 (A0 0#256):=by
          have:=sz1.blk 0 rfl;rwa [AD (by simp [Aq])]at this
         refine ldN (cs:=A0 0#256) (agD _) (Ce bz1) trivial ?_;exact⟨sz1.old,by unfold DK;rw [hrs];rfl⟩
        ·have d11:decide ((hi2:Int)<(lo:Int))=false:=decide_eq_false (by omega);simp only [if_neg hlt]at hmn;(conv=>whnf);rw [d11];(conv=>whnf);rw [w64 (x:=(lo:Int)) (by omega) (by omega)];(conv=>whnf);refine AK.mk [20] (fun b:Nat=>[.int .i64 (b:Int)]) (fun b G=>lo≤b∧b≤hi2+1∧St H G (rrF q4 q8 fun a=>x.getLsbD a|| (decide (lo≤a)&&decide (a<b)))) (fun b _=>hi2+1 - b) ?_ ?_
         ·(conv=>whnf);refine⟨lo,rfl,AaV _,by omega,?_⟩;rw [DQ (x:=x) (fun a ha=>by
           by_cases h:lo≤a
           ·rw [decide_eq_false (show¬a<lo by omega),AbV,AaU]
           ·rw [decide_eq_false h,AbW,AaU])]
          exact stl2
         ·rintro b I0 junk5 ⟨hb1,hb2,sti⟩;(conv=>whnf);rw [w64 (x:=(hi2:Int)) (by omega) (by omega)];refine AN.mk (fun hz=>?_) (fun hz=>?_)<;>simp only [decide_eq_true_eq,decide_eq_false_iff_not]at hz
          ·(conv=>whnf);try (refine Av.run ?_)
           refine ixa EA (by omega) (by omega) ?_;refine AZ sti 1 ct4 rfl (by rw [D5];omega) rfl fun I2 sti2=>?_;have e0:0+(b:Int).toNat*1=b:=by omega
           rw [e0]at sti2;have sti3:St H I2 (rrF q4 q8 fun a=>x.getLsbD a|| (decide (lo≤a)&&decide (a<b+1))):=by
            have e2:(Ew fun a=>x.getLsbD a|| (decide (lo≤a)&&decide (a<b))).set b (.bool true)=Ew fun a=>x.getLsbD a|| (decide (lo≤a)&&decide (a<b+1)):=by
             rw [F7 _ (by omega)];refine DR fun a ha=>?_;by_cases h:a=b
             ·subst h;rw [if_pos rfl,decide_eq_true (show lo≤a by omega),decide_eq_true (show a<a+1 by omega),Ab8,Ac3]
             ·rw [if_neg h]
              congr 2
              exact decide_eq_decide.2 (by omega)
            have:=sti2;unfold rrF at this ⊢;simp only [AaS,AaT]at this;rwa [e2]at this
           (conv=>whnf);rw [w64 (x:=(b:Int)+1) (by omega) (by omega)];exact⟨rfl,b+1,rfl,⟨by omega,by omega,sti3⟩,by omega⟩
          ·obtain rfl:b=hi2+1:=by omega
           rw [DQ (x:=x ||| A8 lo hi2) (fun a ha=>by
            rw [KA,CB _ _ _ ha]
            congr 2
            exact decide_eq_decide.2 (by omega))]at sti
           (conv=>whnf);exact⟨rfl,(j2,n,x ||| A8 lo hi2),rfl,⟨by simp only;omega,by simp only;omega,hmn.symm,sti⟩,by simp only;omega⟩
 obtain⟨b1,hc1,hc2,hc3⟩:=Di hi1;have d5:decide ((i:Int)+1<(t.size:Int))=true:=decide_eq_true (by omega);have d6:((bt t (i+1):Int)==(94:Int))=nt:=by
  rw [hnt];by_cases h:bt t (i+1)=94
  ·rw [h];rfl
  ·rw [decide_eq_false h];exact beq_eq_false_iff_ne.2 (by omega)
 (conv=>whnf);rw [d5];refine DJ (i:=i+1) Fz rfl hc1 ?_;rw [←hc2];(conv=>whnf);rw [d6];(conv=>whnf);refine Av.cut [13] (fun _:Unit=>[.int .i64 ((if nt then i+1+1 else i+1:Nat):Int)]) (fun _ G=>St H G (rrP q4 q8 0#256)) ?_ ?_
 ·refine AN.mk (fun hn=>?_) (fun hn=>?_)
  ·have hn94:bt t (i+1)=94:=by rw [hn]at hnt;exact of_decide_eq_true hnt.symm
   (conv=>whnf);rw [w64 (x:=(i:Int)+1+1) (by omega) (by omega)];exact⟨rfl,(),by rw [hn];rfl,st2⟩
  ·(conv=>whnf);exact⟨rfl,(),by rw [hn];rfl,st2⟩
 ·rintro⟨⟩ G junk0 stg;(conv=>whnf);refine AK.mk [13] (fun y:Nat×Nat×BitVec 256=>[.int .i64 (y.1:Int)]) (fun y G=>MemD H t q4 q8 M y G) (fun y _=>t.size - y.1) ?_ ?_
  ·(conv=>whnf);exact⟨((if nt then i+1+1 else i+1),t.size+1,0#256),rfl,⟨hle,by simp only;omega,hM.symm,stg⟩⟩
  ·rintro⟨j,n,x⟩ J0 junk1 ⟨hj,hfu,heq,stl⟩;simp only at hj hfu heq stl;obtain⟨n,rfl⟩:∃m,n=m+1:=⟨n - 1,by omega⟩;by_cases hjl:j<t.size
   case neg=>
    have hj0:=Cy hjl;have d7:decide ((j:Int)≥(t.size:Int))=true:=decide_eq_true (by omega);have ho:BA t DD j= .inl j:=by unfold BA;rw [hj0,if_neg (by decide),if_pos (.inr (.inl (by decide)))]
    have hmn:M= .inl j:=by rw [←heq,CX,if_neg (by omega),ho]
    rw [hmn]at hrs;(conv=>whnf);rw [d7];(conv=>whnf);try (refine Av.run ?_)
    refine Am (EN (i:=j) (inner:=true) ht hj) fun J1 ja1=>?_;have stl1:=stl.call ja1;unfold L0;simp only [if_true];rw [ho];refine Ct EA FZ Ea (A0 0#256) rfl (AI (cs:=A0 0#256) stl1 0 (szD _) rfl (by simp [Aq]) (onD _) fun Z1 sz1=>?_);have bz1:Blk Z1 q4 157 (A0 0#256):=by
     have:=sz1.blk 0 rfl;rwa [AD (by simp [Aq])]at this
    refine ldN (cs:=A0 0#256) (agD _) (Ce bz1) trivial ?_;exact⟨sz1.old,by unfold DK;rw [hrs];rfl⟩
   obtain⟨b5,hb5,hb6,hb7⟩:=Di hjl;have d7:decide ((j:Int)≥(t.size:Int))=false:=decide_eq_false (by omega);(conv=>whnf);rw [d7];refine DJ (i:=j) Fz rfl hb5 ?_;rw [←hb6];by_cases h93:bt t j=93
   ·have d8:((bt t j:Int) != (93:Int))=false:=by rw [h93];rfl
    have hmn:M= .inr (x,j+1):=by rw [←heq,CX,if_pos h93]
    rw [hmn]at hrs;(conv=>whnf);rw [d8];(conv=>whnf);(conv=>whnf);try (refine Av.run ?_)
    refine AN.mk (fun hn=>?_) (fun hn=>?_)
    ·skip
     (conv=>whnf);try (refine Av.run ?_)
     (conv=>whnf);refine AK.mk [21] (fun k:Nat=>[.int .i64 (k:Int)]) (fun k G=>k≤256∧St H G (rrF q4 q8 fun b=>if b<k then !x.getLsbD b else x.getLsbD b)) (fun k _=>256 - k) ?_ ?_
     ·(conv=>whnf);exact⟨0,rfl,by omega,by rw [DQ (x:=x) (fun b hb=>by rw [if_neg (by omega)])];exact stl⟩
     ·rintro k K0 junk7 ⟨hk,stk⟩;refine AN.mk (fun hz=>?_) (fun hz=>?_)<;>simp only [decide_eq_true_eq,decide_eq_false_iff_not]at hz
      ·(conv=>whnf);try (refine Av.run ?_)
       refine ixa EA (by omega) (by omega) (ld1 (v:=.bool (x.getLsbD k)) ct4 ?_ trivial ?_)
       ·rw [(stk.blk 1 rfl).cell,show 0+(k:Int).toNat*1=k by omega,M2 _ (by omega),if_neg (by omega)]
       refine ixa EA (by omega) (by omega) ?_;refine AZ stk 1 ct4 rfl (by rw [D5];omega) rfl fun K2 stk2=>?_;have e0:0+(k:Int).toNat*1=k:=by omega
       rw [e0]at stk2;have stk3:St H K2 (rrF q4 q8 fun b=>if b<k+1 then !x.getLsbD b else x.getLsbD b):=by
        have e2:(Ew fun b=>if b<k then !x.getLsbD b else x.getLsbD b).set k (.bool (!x.getLsbD k))=Ew fun b=>if b<k+1 then !x.getLsbD b else x.getLsbD b:=by
         rw [F7 _ (by omega)];refine DR fun b hb=>?_;by_cases h:b=k
         ·subst h;rw [if_pos rfl,if_pos (by omega)]
         ·rw [if_neg h];by_cases h2:b<k
          ·rw [if_pos h2,if_pos (by omega)]
          ·rw [if_neg h2,if_neg (by omega)]
        have:=stk2;unfold rrF at this ⊢;simp only [AaS,AaT]at this;rwa [e2]at this
       (conv=>whnf);rw [w64 (x:=(k:Int)+1) (by omega) (by omega)];exact⟨rfl,k+1,rfl,⟨by omega,stk3⟩,by omega⟩
      ·obtain rfl:k=256:=by omega
       rw [DQ (x:= ~~~x) (fun b hb=>by rw [if_pos hb,T3 _ _ hb])]at stk;refine ldN (cs:=A0 (~~~x)) (agD _) (Ce (stk.blk 1 rfl)) trivial ?_;(conv=>whnf);rw [w64 (x:=(j:Int)+1) (by omega) (by omega)];refine AI (cs:=A0 (~~~x)) stk 0 (szD _) rfl (by simp [Aq]) (onD _) fun Z1 sz1=>?_;have bz1:Blk Z1 q4 157 (A0 (~~~x)):=by
        have:=sz1.blk 0 rfl;rwa [AD (by simp [Aq])]at this
       refine ldN (cs:=A0 (~~~x)) (agD _) (Ce bz1) trivial ?_;exact⟨sz1.old,by unfold DK;rw [hrs,hn];rfl⟩
    ·skip
     (conv=>whnf);try (refine Av.run ?_)
     refine ldN (cs:=A0 x) (agD _) (Ce (stl.blk 1 rfl)) trivial ?_;(conv=>whnf);rw [w64 (x:=(j:Int)+1) (by omega) (by omega)];refine AI (cs:=A0 x) stl 0 (szD _) rfl (by simp [Aq]) (onD _) fun Z1 sz1=>?_;have bz1:Blk Z1 q4 157 (A0 x):=by
      have:=sz1.blk 0 rfl;rwa [AD (by simp [Aq])]at this
     refine ldN (cs:=A0 x) (agD _) (Ce bz1) trivial ?_;exact⟨sz1.old,by unfold DK;rw [hrs,hn];rfl⟩
   have d8:((bt t j:Int) != (93:Int))=true:=by rw [bne_iff_ne];omega
   (conv=>whnf);rw [d8];(conv=>whnf);try (refine Av.run ?_)
   refine Am (EN (i:=j) (inner:=true) ht hj) fun J1 ja1=>?_;have stl1:=stl.call ja1;unfold L0;simp only [if_true];cases ho:BA t DD j with
   | inl e=>
     have hmn:M= .inl e:=by rw [←heq,CX,if_neg h93,ho]
     rw [hmn]at hrs;refine Ct EA FZ Ea (A0 0#256) rfl (AI (cs:=A0 0#256) stl1 0 (szD _) rfl (by simp [Aq]) (onD _) fun Z1 sz1=>?_);have bz1:Blk Z1 q4 157 (A0 0#256):=by
      have:=sz1.blk 0 rfl;rwa [AD (by simp [Aq])]at this
     refine ldN (cs:=A0 0#256) (agD _) (Ce bz1) trivial ?_;exact⟨sz1.old,by unfold DK;rw [hrs];rfl⟩
   | inr p=>
     obtain⟨lo,j1⟩:=p;have hok:=Dd ho;have hmn:M=GJ t lo j1 x (CX t n):=by rw [←heq,CX,if_neg h93,ho]
     unfold GJ at hmn;by_cases hj1:j1<t.size
     case neg=>
      have h256:=Cy hj1;have d9:decide ((j1:Int)<(t.size:Int))=false:=decide_eq_false (by omega);rw [if_neg (by omega)]at hmn;(conv=>whnf);try (refine Av.run ?_)
      (conv=>whnf);rw [d9];(conv=>whnf);rw [w64 (x:=(lo:Int)) (by omega) (by omega)];(conv=>whnf);refine AK.mk [20] (fun b:Nat=>[.int .i64 (b:Int)]) (fun b G=>lo≤b∧b≤lo+1∧St H G (rrF q4 q8 fun a=>x.getLsbD a|| (decide (lo≤a)&&decide (a<b)))) (fun b _=>lo+1 - b) ?_ ?_
      ·(conv=>whnf);refine⟨lo,rfl,AaV _,by omega,?_⟩;rw [DQ (x:=x) (fun a ha=>by
        by_cases h:lo≤a
        ·rw [decide_eq_false (show¬a<lo by omega),AbV,AaU]
        ·rw [decide_eq_false h,AbW,AaU])]
       exact stl1
      ·rintro b I0 junk5 ⟨hb1,hb2,sti⟩;(conv=>whnf);rw [w64 (x:=(lo:Int)) (by omega) (by omega)];refine AN.mk (fun hz=>?_) (fun hz=>?_)<;>simp only [decide_eq_true_eq,decide_eq_false_iff_not]at hz
       ·(conv=>whnf);try (refine Av.run ?_)
        refine ixa EA (by omega) (by omega) ?_;refine AZ sti 1 ct4 rfl (by rw [D5];omega) rfl fun I2 sti2=>?_;have e0:0+(b:Int).toNat*1=b:=by omega
        rw [e0]at sti2;have sti3:St H I2 (rrF q4 q8 fun a=>x.getLsbD a|| (decide (lo≤a)&&decide (a<b+1))):=by
         have e2:(Ew fun a=>x.getLsbD a|| (decide (lo≤a)&&decide (a<b))).set b (.bool true)=Ew fun a=>x.getLsbD a|| (decide (lo≤a)&&decide (a<b+1)):=by
          rw [F7 _ (by omega)];refine DR fun a ha=>?_;by_cases h:a=b
          ·subst h;rw [if_pos rfl,decide_eq_true (show lo≤a by omega),decide_eq_true (show a<a+1 by omega),Ab8,Ac3]
          ·rw [if_neg h]
           congr 2
           exact decide_eq_decide.2 (by omega)
         have:=sti2;unfold rrF at this ⊢;simp only [AaS,AaT]at this;rwa [e2]at this
        (conv=>whnf);rw [w64 (x:=(b:Int)+1) (by omega) (by omega)];exact⟨rfl,b+1,rfl,⟨by omega,by omega,sti3⟩,by omega⟩
       ·obtain rfl:b=lo+1:=by omega
        rw [DQ (x:=x ||| A8 lo lo) (fun a ha=>by
         rw [KA,CB _ _ _ ha]
         congr 2
         exact decide_eq_decide.2 (by omega))]at sti
        (conv=>whnf);exact⟨rfl,(j1,n,x ||| A8 lo lo),rfl,⟨by simp only;omega,by simp only;omega,hmn.symm,sti⟩,by simp only;omega⟩
     obtain⟨b8,hb8,hb9,hb10⟩:=Di hj1;have d9:decide ((j1:Int)<(t.size:Int))=true:=decide_eq_true (by omega);(conv=>whnf);try (refine Av.run ?_)
     (conv=>whnf);rw [d9];refine DJ (i:=j1) Fz rfl hb8 ?_;rw [←hb9];by_cases h45:bt t j1=45
     case neg=>
      have d10:((bt t j1:Int)==(45:Int))=false:=beq_eq_false_iff_ne.2 (by omega);rw [if_neg h45]at hmn;(conv=>whnf);rw [d10];(conv=>whnf);rw [w64 (x:=(lo:Int)) (by omega) (by omega)];(conv=>whnf);refine AK.mk [20] (fun b:Nat=>[.int .i64 (b:Int)]) (fun b G=>lo≤b∧b≤lo+1∧St H G (rrF q4 q8 fun a=>x.getLsbD a|| (decide (lo≤a)&&decide (a<b)))) (fun b _=>lo+1 - b) ?_ ?_
      ·(conv=>whnf);refine⟨lo,rfl,AaV _,by omega,?_⟩;rw [DQ (x:=x) (fun a ha=>by
        by_cases h:lo≤a
        ·rw [decide_eq_false (show¬a<lo by omega),AbV,AaU]
        ·rw [decide_eq_false h,AbW,AaU])]
       exact stl1
      ·rintro b I0 junk5 ⟨hb1,hb2,sti⟩;(conv=>whnf);rw [w64 (x:=(lo:Int)) (by omega) (by omega)];refine AN.mk (fun hz=>?_) (fun hz=>?_)<;>simp only [decide_eq_true_eq,decide_eq_false_iff_not]at hz
       ·(conv=>whnf);try (refine Av.run ?_)
        refine ixa EA (by omega) (by omega) ?_;refine AZ sti 1 ct4 rfl (by rw [D5];omega) rfl fun I2 sti2=>?_;have e0:0+(b:Int).toNat*1=b:=by omega
        rw [e0]at sti2;have sti3:St H I2 (rrF q4 q8 fun a=>x.getLsbD a|| (decide (lo≤a)&&decide (a<b+1))):=by
         have e2:(Ew fun a=>x.getLsbD a|| (decide (lo≤a)&&decide (a<b))).set b (.bool true)=Ew fun a=>x.getLsbD a|| (decide (lo≤a)&&decide (a<b+1)):=by
          rw [F7 _ (by omega)];refine DR fun a ha=>?_;by_cases h:a=b
          ·subst h;rw [if_pos rfl,decide_eq_true (show lo≤a by omega),decide_eq_true (show a<a+1 by omega),Ab8,Ac3]
          ·rw [if_neg h]
           congr 2
           exact decide_eq_decide.2 (by omega)
         have:=sti2;unfold rrF at this ⊢;simp only [AaS,AaT]at this;rwa [e2]at this
        (conv=>whnf);rw [w64 (x:=(b:Int)+1) (by omega) (by omega)];exact⟨rfl,b+1,rfl,⟨by omega,by omega,sti3⟩,by omega⟩
       ·obtain rfl:b=lo+1:=by omega
        rw [DQ (x:=x ||| A8 lo lo) (fun a ha=>by
         rw [KA,CB _ _ _ ha]
         congr 2
         exact decide_eq_decide.2 (by omega))]at sti
        (conv=>whnf);exact⟨rfl,(j1,n,x ||| A8 lo lo),rfl,⟨by simp only;omega,by simp only;omega,hmn.symm,sti⟩,by simp only;omega⟩
     have d10:((bt t j1:Int)==(45:Int))=true:=by rw [h45];rfl
     rw [if_pos h45]at hmn;(conv=>whnf);rw [d10];(conv=>whnf);rw [w64 (x:=(j1:Int)+1) (by omega) (by omega)];refine Am (EN (i:=j1+1) (inner:=true) ht (by omega)) fun J2 ja2=>?_;have stl2:=stl1.call ja2;unfold L0;simp only [if_true];cases ho2:BA t DD (j1+1)with
     | inl e=>
       rw [ho2]at hmn;rw [hmn]at hrs;refine Ct EA FZ Ea (A0 0#256) rfl (AI (cs:=A0 0#256) stl2 0 (szD _) rfl (by simp [Aq]) (onD _) fun Z1 sz1=>?_);have bz1:Blk Z1 q4 157 (A0 0#256):=by
        have:=sz1.blk 0 rfl;rwa [AD (by simp [Aq])]at this
       refine ldN (cs:=A0 0#256) (agD _) (Ce bz1) trivial ?_;exact⟨sz1.old,by unfold DK;rw [hrs];rfl⟩
     | inr p2=>
       obtain⟨hi2,j2⟩:=p2;have hok2:=Dd ho2;rw [ho2]at hmn;by_cases hlt:hi2<lo
       ·have d11:decide ((hi2:Int)<(lo:Int))=true:=decide_eq_true (by omega);simp only [if_pos hlt]at hmn;rw [hmn]at hrs;(conv=>whnf);rw [d11];refine Ct EA FZ Ea (A0 0#256) rfl (AI (cs:=A0 0#256) stl2 0 (szD _) rfl (by simp [Aq]) (onD _) fun Z1 sz1=>?_);have bz1:Blk Z1 q4 157 (A0 0#256):=by
         have:=sz1.blk 0 rfl;rwa [AD (by simp [Aq])]at this
        refine ldN (cs:=A0 0#256) (agD _) (Ce bz1) trivial ?_;exact⟨sz1.old,by unfold DK;rw [hrs];rfl⟩
       ·have d11:decide ((hi2:Int)<(lo:Int))=false:=decide_eq_false (by omega);simp only [if_neg hlt]at hmn;(conv=>whnf);rw [d11];(conv=>whnf);rw [w64 (x:=(lo:Int)) (by omega) (by omega)];(conv=>whnf);refine AK.mk [20] (fun b:Nat=>[.int .i64 (b:Int)]) (fun b G=>lo≤b∧b≤hi2+1∧St H G (rrF q4 q8 fun a=>x.getLsbD a|| (decide (lo≤a)&&decide (a<b)))) (fun b _=>hi2+1 - b) ?_ ?_
        ·(conv=>whnf);refine⟨lo,rfl,AaV _,by omega,?_⟩;rw [DQ (x:=x) (fun a ha=>by
          by_cases h:lo≤a
          ·rw [decide_eq_false (show¬a<lo by omega),AbV,AaU]
          ·rw [decide_eq_false h,AbW,AaU])]
         exact stl2
        ·rintro b I0 junk5 ⟨hb1,hb2,sti⟩;(conv=>whnf);rw [w64 (x:=(hi2:Int)) (by omega) (by omega)];refine AN.mk (fun hz=>?_) (fun hz=>?_)<;>simp only [decide_eq_true_eq,decide_eq_false_iff_not]at hz
         ·(conv=>whnf);try (refine Av.run ?_)
          refine ixa EA (by omega) (by omega) ?_;refine AZ sti 1 ct4 rfl (by rw [D5];omega) rfl fun I2 sti2=>?_;have e0:0+(b:Int).toNat*1=b:=by omega
          rw [e0]at sti2;have sti3:St H I2 (rrF q4 q8 fun a=>x.getLsbD a|| (decide (lo≤a)&&decide (a<b+1))):=by
           have e2:(Ew fun a=>x.getLsbD a|| (decide (lo≤a)&&decide (a<b))).set b (.bool true)=Ew fun a=>x.getLsbD a|| (decide (lo≤a)&&decide (a<b+1)):=by
            rw [F7 _ (by omega)];refine DR fun a ha=>?_;by_cases h:a=b
            ·subst h;rw [if_pos rfl,decide_eq_true (show lo≤a by omega),decide_eq_true (show a<a+1 by omega),Ab8,Ac3]
            ·rw [if_neg h]
             congr 2
             exact decide_eq_decide.2 (by omega)
           have:=sti2;unfold rrF at this ⊢;simp only [AaS,AaT]at this;rwa [e2]at this
          (conv=>whnf);rw [w64 (x:=(b:Int)+1) (by omega) (by omega)];exact⟨rfl,b+1,rfl,⟨by omega,by omega,sti3⟩,by omega⟩
         ·obtain rfl:b=hi2+1:=by omega
          rw [DQ (x:=x ||| A8 lo hi2) (fun a ha=>by
           rw [KA,CB _ _ _ ha]
           congr 2
           exact decide_eq_decide.2 (by omega))]at sti
          (conv=>whnf);exact⟨rfl,(j2,n,x ||| A8 lo hi2),rfl,⟨by simp only;omega,by simp only;omega,hmn.symm,sti⟩,by simp only;omega⟩
abbrev scL(t:ByteArray)(i:Nat)(ov:Value):List Value:=[.string t,.int .i64 (i:Int),ov]
abbrev pSc(s:Nat)(t:ByteArray)(i:Nat)(ov:Value):Pc:=pB 139 s (scL t i ov)
theorem ET{H:Aa}{s i:Nat}{t:ByteArray}{ov:Value}(hb:Blk H s 139 (scL t i ov)):BX Tryz.prog 73 #[.pointer (some ⟨s,0,none⟩)] H (.bool (decide (t.size≤i))):=by
 refine Al.of_vc Tryz.func73 rfl (Tryz.call73 _) (Ar.lex rfl (by kernel_rfl) (VC.fa AE ?_));refine ld1 (v:=.int .i64 (i:Int)) ct3 (by rw [hb.cell];rfl) trivial ?_;refine VC.fa L9 ?_;refine ld1 (v:=.string t) ct9 (by rw [hb.cell];rfl) trivial ?_;(conv=>whnf);refine⟨?_,Agr.refl _ _⟩
 congr 1
 rw [decide_eq_decide];omega
theorem D9{H:Aa}{s i:Nat}{t:ByteArray}{ov:Value}(hb:Blk H s 139 (scL t i ov))(hi:i<t.size):BX Tryz.prog 129 #[.pointer (some ⟨s,0,none⟩)] H (.int .u8 (bt t i:Int)):=by
 refine Al.of_vc Tryz.func129 rfl (Tryz.call129 _) (Ar.lex rfl (by kernel_rfl) (VC.fa AE ?_));refine ld1 (v:=.int .i64 (i:Int)) ct3 (by rw [hb.cell];rfl) trivial ?_;refine VC.fa L9 ?_;refine ld1 (v:=.string t) ct9 (by rw [hb.cell];rfl) trivial ?_;obtain⟨b,h1,h2,h3⟩:=Di hi;have d1:decide ((i:Int)<(t.size:Int))=true:=decide_eq_true (by omega);(conv=>whnf);rw [d1];refine Ar.lex rfl (by kernel_rfl) (VC.fa L9 ?_);refine ld1 (v:=.string t) ct9 (by rw [hb.cell];rfl) trivial ?_;refine VC.fa AE ?_;refine ld1 (v:=.int .i64 (i:Int)) ct3 (by rw [hb.cell];rfl) trivial ?_;refine DJ Fz rfl h1 ?_;(conv=>whnf);refine⟨?_,Agr.refl _ _⟩;rw [h2]
theorem CR{H:Aa}{s c e:Nat}:BW Tryz.prog 74 #[.pointer (some ⟨s,0,none⟩),.int .i64 (c:Int),.int .i64 (e:Int)] H (fun _ _=>False) (fun x H'=>x=Ee c e∧H'=H):=by
 refine BW.of_vc Tryz.func74 rfl (Tryz.call74 _) (Aw Tryz.underlying68 rfl _ rfl [.int .i64 (c:Int),.int .i64 (e:Int),.string ⟨#[]⟩] rfl ?_);(conv=>whnf);exact⟨rfl,rfl⟩
theorem PB{B:Nat→Prop}{H:Aa}{ps:List Pc}{k s i:Nat}{t:ByteArray}{ov:Value}(ht:t.size≤1152921504606846976)(hi:i≤t.size)(st:StB B H H ps)(hp:ps[k]? =some (pSc s t i ov)):
  BW Tryz.prog 231 #[.pointer (some ⟨s,0,none⟩)] H (fun v H'=>DL t i=true∧v= .int .i64 (((BO t 3 i 0).1:Nat):Int)∧StB B H H' (ps.set k (pSc s t (BO t 3 i 0).2 ov)))
   (fun x H'=>DL t i=false∧x=Ee 20 i∧Agr B H H'):=by
 refine BW.of_vc Tryz.func231 rfl (Tryz.call231 _) (Cw.of (Ar.lex rfl (by kernel_rfl) (VC.fa AE ?_)));refine ld1 (v:=.int .i64 (i:Int)) ct3 (by rw [(st.blk k hp).cell];rfl) trivial ?_;(conv=>whnf);refine EG.mk [3] (fun x:Nat×Nat=>match x with | (_,v)=>[.int .i64 (v:Int)]) (fun x G=>match x with | (n,v)=>n≤3∧v<10 ^ n∧BO t 3 i 0=BO t (3 - n) (i+n) v∧(n=0∨DL t i=true)∧StB B H G (ps.set k (pSc s t (i+n) ov))) (fun x _=>match x with | (n,_)=>3 - n) ?_ ?_
 ·(conv=>whnf);exact⟨(0,0),rfl,by omega,by decide,rfl,.inl rfl,by rw [Nat.add_zero,CE hp];exact st⟩
 ·rintro⟨n,v⟩ G junk ⟨hn,hv,hm,hd,stg⟩;have hpg:(ps.set k (pSc s t (i+n) ov))[k]? =some (pSc s t (i+n) ov):=IF hp;have out:(n=3∨DL t (i+n)=false)→BO t 3 i 0=(v,i+n):=fun h=>by
   rw [hm];rcases h with rfl | h
   ·rfl
   ·cases h3:3 - n with
    | zero=>rfl
    | succ m=>unfold BO;rw [h];rfl
  refine Ah.of (Am (ET (stg.blk k hpg)) fun G1 ha1=>?_);have st1:=stg.call ha1;by_cases h0:i+n<t.size
  ·obtain⟨b0,-,-,hb3⟩:=Di h0;rw [decide_eq_false (show¬t.size≤i+n by omega)];refine VC.fa AE ?_;refine ld1 (v:=.int .i64 ((i+n:Nat):Int)) ct3 (by rw [(st1.blk k hpg).cell];rfl) trivial ?_;(conv=>whnf);rw [w64 (x:=(i:Int)+3) (by omega) (by omega)];by_cases h1:n=3
   ·have d1:decide (((i+n:Nat):Int)<(i:Int)+3)=false:=decide_eq_false (by omega);(conv=>whnf);rw [d1];refine Bb.run (VC.fa AE ?_);refine ld1 (v:=.int .i64 ((i+n:Nat):Int)) ct3 (by rw [(st1.blk k hpg).cell];rfl) trivial ?_;have hr:=out (.inl h1);by_cases hn0:n=0
    ·have d9:(((i+n:Nat):Int)==(i:Int))=true:=by rw [hn0];exact beq_self_eq_true _
     (conv=>whnf);rw [d9];refine VC.fa AE ?_;refine ld1 (v:=.int .i64 ((i+n:Nat):Int)) ct3 (by rw [(st1.blk k hpg).cell];rfl) trivial ?_;refine Ah.mk (CR (c:=20) (e:=i+n)) (fun _ _ h=>h.elim) ?_;rintro _ _ ⟨rfl,rfl⟩;subst hn0
     exact⟨by rcases(.inl h1:0=3∨DL t (i+0)=false)with h | h
              ·omega
              ·exact h,rfl,st1.old⟩
    ·have d9:(((i+n:Nat):Int)==(i:Int))=false:=beq_eq_false_iff_ne.2 (by omega);(conv=>whnf);rw [d9];(conv=>whnf);rw [hr];exact⟨hd.resolve_left hn0,rfl,st1⟩
   ·have d1:decide (((i+n:Nat):Int)<(i:Int)+3)=true:=decide_eq_true (by omega);(conv=>whnf);rw [d1];refine Ah.of (Am (D9 (st1.blk k hpg) h0) fun G2 ha2=>?_);have st2:=st1.call ha2;by_cases h2:48≤bt t (i+n)
    ·have d2:decide (((bt t (i+n):Nat):Int)≥48)=true:=decide_eq_true (by omega);have d2':decide (48≤((bt t (i+n):Nat):Int))=true:=d2;(conv=>whnf);rw [d2'];refine Ah.of (Am (D9 (st2.blk k hpg) h0) fun G3 ha3=>?_);have st3:=st2.call ha3;by_cases h3:bt t (i+n)≤57
     ·have d3:decide (((bt t (i+n):Nat):Int)≤57)=true:=decide_eq_true (by omega);have hdg:DL t (i+n)=true:=decide_eq_true ⟨h2,h3⟩;(conv=>whnf);rw [d3];refine Ah.of (Am (D9 (st3.blk k hpg) h0) fun G4 ha4=>?_);have st4:=st3.call ha4;(conv=>whnf);rw [w64 (x:=10*(v:Int)) (by have:v<1000:=AbK hv (AbH (by omega) hn);omega) (by have:v<1000:=AbK hv (AbH (by omega) hn);omega)];(conv=>whnf);rw [w8 (x:=((bt t (i+n):Nat):Int) - 48) (by omega) (by omega)];(conv=>whnf);rw [w64 (x:=((bt t (i+n):Nat):Int) - 48) (by omega) (by omega)];(conv=>whnf);rw [w64 (x:=10*(v:Int)+(((bt t (i+n):Nat):Int) - 48)) (by omega) (by have:v<1000:=AbK hv (AbH (by omega) hn);omega)];refine VC.fa AE ?_;refine ld1 (v:=.int .i64 ((i+n:Nat):Int)) ct3 (by rw [(st4.blk k hpg).cell];rfl) trivial ?_;(conv=>whnf);rw [w64 (x:=((i+n:Nat):Int)+1) (by omega) (by omega)];refine VC.fa AE (AZ st4 k ct3 hpg (by simp) rfl fun G5 st5=>?_);refine⟨rfl,(n+1,10*v+(bt t (i+n) - 48)),?_,⟨by omega,?_,?_,.inr ?_,?_⟩,by show 3 - (n+1)<3 - n;omega⟩
      ·show [Value.int .i64 (10*(v:Int)+(((bt t (i+n):Nat):Int) - 48))]=[.int .i64 ((10*v+(bt t (i+n) - 48):Nat):Int)]
       congr 2;omega
      ·rw [AcN];omega
      ·rw [hm,show 3 - n=(3 - (n+1))+1 by omega,BO,hdg];rfl
      ·rcases hd with rfl | hd
       ·exact hdg
       ·exact hd
      ·rw [List.set_set]at st5;exact st5
     ·have d3:decide (((bt t (i+n):Nat):Int)≤57)=false:=decide_eq_false (by omega);(conv=>whnf);rw [d3];refine Bb.run (VC.fa AE ?_);refine ld1 (v:=.int .i64 ((i+n:Nat):Int)) ct3 (by rw [(st3.blk k hpg).cell];rfl) trivial ?_;have hr:=out (.inr (decide_eq_false fun h=>h3 h.2));by_cases hn0:n=0
      ·have d9:(((i+n:Nat):Int)==(i:Int))=true:=by rw [hn0];exact beq_self_eq_true _
       (conv=>whnf);rw [d9];refine VC.fa AE ?_;refine ld1 (v:=.int .i64 ((i+n:Nat):Int)) ct3 (by rw [(st3.blk k hpg).cell];rfl) trivial ?_;refine Ah.mk (CR (c:=20) (e:=i+n)) (fun _ _ h=>h.elim) ?_;rintro _ _ ⟨rfl,rfl⟩;subst hn0
       exact⟨by rcases(.inr (decide_eq_false fun h=>h3 h.2):0=3∨DL t (i+0)=false)with h | h
                ·omega
                ·exact h,rfl,st3.old⟩
      ·have d9:(((i+n:Nat):Int)==(i:Int))=false:=beq_eq_false_iff_ne.2 (by omega);(conv=>whnf);rw [d9];(conv=>whnf);rw [hr];exact⟨hd.resolve_left hn0,rfl,st3⟩
    ·have d2':decide (48≤((bt t (i+n):Nat):Int))=false:=decide_eq_false (by omega);(conv=>whnf);rw [d2'];refine Bb.run (VC.fa AE ?_);refine ld1 (v:=.int .i64 ((i+n:Nat):Int)) ct3 (by rw [(st2.blk k hpg).cell];rfl) trivial ?_;have hr:=out (.inr (decide_eq_false fun h=>h2 h.1));by_cases hn0:n=0
     ·have d9:(((i+n:Nat):Int)==(i:Int))=true:=by rw [hn0];exact beq_self_eq_true _
      (conv=>whnf);rw [d9];refine VC.fa AE ?_;refine ld1 (v:=.int .i64 ((i+n:Nat):Int)) ct3 (by rw [(st2.blk k hpg).cell];rfl) trivial ?_;refine Ah.mk (CR (c:=20) (e:=i+n)) (fun _ _ h=>h.elim) ?_;rintro _ _ ⟨rfl,rfl⟩;subst hn0
      exact⟨by rcases(.inr (decide_eq_false fun h=>h2 h.1):0=3∨DL t (i+0)=false)with h | h
               ·omega
               ·exact h,rfl,st2.old⟩
     ·have d9:(((i+n:Nat):Int)==(i:Int))=false:=beq_eq_false_iff_ne.2 (by omega);(conv=>whnf);rw [d9];(conv=>whnf);rw [hr];exact⟨hd.resolve_left hn0,rfl,st2⟩
  ·rw [decide_eq_true (show t.size≤i+n by omega)];refine Bb.run (VC.fa AE ?_);refine ld1 (v:=.int .i64 ((i+n:Nat):Int)) ct3 (by rw [(st1.blk k hpg).cell];rfl) trivial ?_;have hr:=out (.inr (decide_eq_false fun h=>by have:=Cy h0;omega));by_cases hn0:n=0
   ·have d9:(((i+n:Nat):Int)==(i:Int))=true:=by rw [hn0];exact beq_self_eq_true _
    (conv=>whnf);rw [d9];refine VC.fa AE ?_;refine ld1 (v:=.int .i64 ((i+n:Nat):Int)) ct3 (by rw [(st1.blk k hpg).cell];rfl) trivial ?_;refine Ah.mk (CR (c:=20) (e:=i+n)) (fun _ _ h=>h.elim) ?_;rintro _ _ ⟨rfl,rfl⟩;subst hn0
    exact⟨by rcases(.inr (decide_eq_false fun h=>by have:=Cy h0;omega):0=3∨DL t (i+0)=false)with h | h
             ·omega
             ·exact h,rfl,st1.old⟩
   ·have d9:(((i+n:Nat):Int)==(i:Int))=false:=beq_eq_false_iff_ne.2 (by omega);(conv=>whnf);rw [d9];(conv=>whnf);rw [hr];exact⟨hd.resolve_left hn0,rfl,st1⟩
theorem PE{ps l:List Pc}{k:Nat}{p q r:Pc}(hp:ps[k]? =some p):(ps.set k q++l).set k r=ps.set k r++l:=by
 rw [lsL (IF hp),List.set_set]
theorem Ga{ps l:List Pc}{k:Nat}{p q:Pc}(hp:ps[k]? =some p):(ps.set k q++l)[k]? =some q:=lgL (IF hp)
structure Ve(B:Nat→Prop)(H:Aa)(ps:List Pc)(k s:Nat)(t:ByteArray)(j:Nat)(ov:Value)(r:ReM)(v:Value)(H':Aa):Prop where
 ex:∃(B':Nat→Prop) (fn:Value),v= .agg (Ab r fn).toArray∧(∀k,B k→B' k)∧Agr B H H'∧StB B' H' H' (ps.set k (pSc s t j ov))∧C9 B' H' fn r
theorem EM{c d:Nat}(h:c≠d):((c:Int)==(d:Int))=false:=beq_eq_false_iff_ne.2 (by omega)
theorem Vw{B:Nat→Prop}{H:Aa}{ps:List Pc}{k s i:Nat}{t:ByteArray}{ov:Value}{a:ReM}{va:Value}(ht:t.size≤1152921504606846)(hc:bt t i=123)(st:StB B H H ps)(hp:ps[k]? =some (pSc s t i ov))(ga:C9 B H va a):
  BW Tryz.prog 217 #[.pointer (some ⟨s,0,none⟩),.agg (Ab a va).toArray] H (fun v H'=>∃m n j,BZ t i= .inr (m,n,j)∧Ve B H ps k s t j ov (Ca a m n) v H')
   (fun x H'=>∃c p:Nat,BZ t i= .inl (c,p)∧x=Ee c p∧Agr B H H'):=by
 have hi:i<t.size:=D2 (by omega);obtain⟨g1,c1,rfl⟩:=ga.fn;refine BW.of_vc Tryz.func217 rfl (Tryz.call217 _) (Cq (Ab a (.func (.func g1) #[] c1)) rfl ?_);intro q1 H1 hq1 hs1 hb1 ha1;have st1:=st.box hq1 hs1 hb1 ha1;refine An (.agg Ak.toArray) Ak De rfl ?_;intro q2 H2 hq2 hs2 hb2 ha2;have st2:=st1.box hq2 hs2 hb2 ha2;rw [AbM]at st2;replace st2:StB B H H2 (ps++[pB 142 q1 (Ab a (.func (.func g1) #[] c1)),pB 142 q2 Ak]):=st2;have hp2:(ps++[pB 142 q1 (Ab a (.func (.func g1) #[] c1)),pB 142 q2 Ak])[k]? =some (pSc s t i ov):=lgL hp;refine VC.fa AE ?_;refine ld1 (v:=.int .i64 ((i:Nat):Int)) ct3 (by rw [(st2.blk k hp2).cell];rfl) trivial ?_;refine VC.fa AE ?_;refine ld1 (v:=.int .i64 ((i:Nat):Int)) ct3 (by rw [(st2.blk k hp2).cell];rfl) trivial ?_;(conv=>whnf);rw [w64 (x:=((i:Nat):Int)+1) (by omega) (by omega)];refine VC.fa AE (AZ st2 k ct3 hp2 (by simp) rfl fun H3 st3=>?_);rw [lsL hp]at st3;replace st3:StB B H H3 (ps.set k (pSc s t (i+1) ov)++[pB 142 q1 (Ab a (.func (.func g1) #[] c1)),pB 142 q2 Ak]):=st3;have a3:=st3.old;refine Ah.mk (PB (by omega) (by omega) st3.rebase (Ga hp)) ?_ ?_
 rotate_left
 ·rintro _ H4 ⟨hd,rfl,a4⟩;exact⟨20,i+1,by unfold BZ;rw [hd];rfl,rfl,a3.trans a4⟩
 rintro _ H4 ⟨hd,rfl,st4⟩;have a4:=a3.trans st4.old;rw [PE hp]at st4;replace st4:=st4.rebase;obtain⟨-,-,hj⟩:=Gm (t:=t) 3 (i+1) 0;replace hj:=hj (by omega);have hm:=LN (t:=t) 3 (i+1) 0;have hbr:BZ t i=(match upM t (BO t 3 (i+1) 0).1 (BO t 3 (i+1) 0).2 with
  | .inl e=>.inl e
  | .inr (n,j)=>Fp t i (BO t 3 (i+1) 0).1 n j):=by unfold BZ;rw [if_pos hd];cases upM t (BO t 3 (i+1) 0).1 (BO t 3 (i+1) 0).2<;>rfl
 generalize BO t 3 (i+1) 0=q at*;obtain⟨m,j⟩:=q;replace hm:m<1000:=hm;replace hj:j≤t.size:=hj;replace hbr:BZ t i=(match upM t m j with
  | .inl e=>.inl e
  | .inr (n,j)=>Fp t i m n j):=hbr
 replace st4:StB B H4 H4 (ps.set k (pSc s t j ov)++[pB 142 q1 (Ab a (.func (.func g1) #[] c1)),pB 142 q2 Ak]):=st4;(conv=>whnf);refine Bb.cut [7] (fun x:Int×Nat=>match x with | (n,_)=>[.int .i64 n]) (fun x G=>match x with | (n,e)=>upM t m j= .inr (n,e)∧e≤t.size∧ -1≤n∧n<1000∧Agr B H G∧StB B G G (ps.set k (pSc s t e ov)++[pB 142 q1 (Ab a (.func (.func g1) #[] c1)),pB 142 q2 Ak])) ?_ ?_
 ·refine Ah.of (Am (ET (st4.blk k (Ga hp))) fun H5 ha5=>?_);have st5:=st4.call ha5;by_cases h0:j<t.size
  ·rw [decide_eq_false (show¬t.size≤j by omega)];refine Ah.of (Am (D9 (st5.blk k (Ga hp)) h0) fun H6 ha6=>?_);have st6:=st5.call ha6;by_cases h1:bt t j=44
   ·have d1:(((bt t j:Nat):Int)==44)=true:=by rw [h1];rfl
    have hu:upM t m j=(if bt t (j+1)=125 then .inr (-1,j+1)else if DL t (j+1)then .inr (((BO t 3 (j+1) 0).1:Int),(BO t 3 (j+1) 0).2)else .inl (20,j+1)):=by unfold upM;rw [if_pos h1]
    (conv=>whnf);rw [d1];refine VC.fa AE ?_;refine ld1 (v:=.int .i64 ((j:Nat):Int)) ct3 (by rw [(st6.blk k (Ga hp)).cell];rfl) trivial ?_;(conv=>whnf);rw [w64 (x:=((j:Nat):Int)+1) (by omega) (by omega)];refine VC.fa AE (AZ st6 k ct3 (Ga hp) (by simp) rfl fun H7 st7=>?_);rw [PE hp]at st7;replace st7:StB B H4 H7 (ps.set k (pSc s t (j+1) ov)++[pB 142 q1 (Ab a (.func (.func g1) #[] c1)),pB 142 q2 Ak]):=st7;refine Ah.of (Am (ET (st7.blk k (Ga hp))) fun H8 ha8=>?_);have st8:=st7.call ha8;by_cases h2:j+1<t.size
    ·rw [decide_eq_false (show¬t.size≤j+1 by omega)];refine Ah.of (Am (D9 (st8.blk k (Ga hp)) h2) fun H9 ha9=>?_);have st9:=st8.call ha9;by_cases h3:bt t (j+1)=125
     ·have d1:(((bt t (j+1):Nat):Int) != 125)=false:=by rw [h3];rfl
      (conv=>whnf);rw [d1];(conv=>whnf);exact⟨rfl,(-1,j+1),rfl,by rw [hu,if_pos h3],by omega,by omega,by omega,a4.trans st9.old,st9.rebase⟩
     ·have d1:(((bt t (j+1):Nat):Int) != 125)=true:=bne_iff_ne.2 (by omega);rw [if_neg h3]at hu;(conv=>whnf);rw [d1];refine Ah.mk (PB (by omega) (by omega) st9.rebase (Ga hp)) ?_ ?_
      ·rintro _ H10 ⟨hd2,rfl,st10⟩;rw [if_pos hd2]at hu;rw [PE hp]at st10;obtain⟨-,-,hj2⟩:=Gm (t:=t) 3 (j+1) 0;have hm2:=LN (t:=t) 3 (j+1) 0;(conv=>whnf);exact⟨rfl,(_,_),rfl,hu,hj2 (by omega),by omega,by omega,(a4.trans st9.old).trans st10.old,st10.rebase⟩
      ·rintro _ H10 ⟨hd2,rfl,a10⟩;rw [if_neg (by rw [hd2];decide)]at hu;exact⟨20,j+1,by rw [hbr,hu],rfl,(a4.trans st9.old).trans a10⟩
    ·rw [decide_eq_true (show t.size≤j+1 by omega)];rw [if_neg (by rw [Cy h2];omega)]at hu;refine Ah.mk (PB (by omega) (by omega) st8.rebase (Ga hp)) ?_ ?_
     ·rintro _ H10 ⟨hd2,rfl,st10⟩;rw [if_pos hd2]at hu;rw [PE hp]at st10;obtain⟨-,-,hj2⟩:=Gm (t:=t) 3 (j+1) 0;have hm2:=LN (t:=t) 3 (j+1) 0;(conv=>whnf);exact⟨rfl,(_,_),rfl,hu,hj2 (by omega),by omega,by omega,(a4.trans st8.old).trans st10.old,st10.rebase⟩
     ·rintro _ H10 ⟨hd2,rfl,a10⟩;rw [if_neg (by rw [hd2];decide)]at hu;exact⟨20,j+1,by rw [hbr,hu],rfl,(a4.trans st8.old).trans a10⟩
   ·have d1:(((bt t j:Nat):Int)==44)=false:=EM h1;(conv=>whnf);rw [d1];(conv=>whnf);exact⟨rfl,((m:Int),j),rfl,by unfold upM;rw [if_neg h1],hj,by omega,by omega,a4.trans st6.old,st6.rebase⟩
  ·rw [decide_eq_true (show t.size≤j by omega)];(conv=>whnf);exact⟨rfl,((m:Int),j),rfl,by unfold upM;rw [if_neg (by rw [Cy h0];omega)],hj,by omega,by omega,a4.trans st5.old,st5.rebase⟩
 ·rintro⟨n,e⟩ G junk ⟨hu,he,hn1,hn2,ag,stg⟩;rw [hu]at hbr;replace hbr:BZ t i=Fp t i m n e:=hbr;refine Bb.run (Ah.of (Am (ET (stg.blk k (Ga hp))) fun H5 ha5=>?_));have st5:=stg.call ha5;by_cases h0:e<t.size
  ·rw [decide_eq_false (show¬t.size≤e by omega)];refine Ah.of (Am (D9 (st5.blk k (Ga hp)) h0) fun H6 ha6=>?_);have st6:=st5.call ha6;by_cases h1:bt t e=125
   ·have d1:(((bt t e:Nat):Int) != 125)=false:=by rw [h1];rfl
    have hen:Fp t i m n e=(if 255<m∨255<n∨(0≤n∧n<(m:Int))then .inl (22,i)else .inr (m,n,e+1)):=by unfold Fp;rw [if_pos h1]
    (conv=>whnf);rw [d1];refine VC.fa AE ?_;refine ld1 (v:=.int .i64 ((e:Nat):Int)) ct3 (by rw [(st6.blk k (Ga hp)).cell];rfl) trivial ?_;(conv=>whnf);rw [w64 (x:=((e:Nat):Int)+1) (by omega) (by omega)];refine VC.fa AE (AZ st6 k ct3 (Ga hp) (by simp) rfl fun H7 st7=>?_);rw [PE hp]at st7;replace st7:StB B G H7 (ps.set k (pSc s t (e+1) ov)++[pB 142 q1 (Ab a (.func (.func g1) #[] c1)),pB 142 q2 Ak]):=st7;refine Bb.run ?_;(conv=>whnf);by_cases w1:255<m
    ·have e1:decide (255<(m:Int))=true:=decide_eq_true (by omega);(conv=>whnf);rw [e1];rw [if_pos (.inl w1)]at hen;refine Ah.mk (CR (c:=22) (e:=i)) (fun _ _ h=>h.elim) ?_;rintro _ _ ⟨rfl,rfl⟩;exact⟨22,i,by rw [hbr,hen],rfl,ag.trans st7.old⟩
    ·have e1:decide (255<(m:Int))=false:=decide_eq_false (by omega);(conv=>whnf);rw [e1];by_cases c2:255<n
     ·have e2:decide (255<n)=true:=decide_eq_true c2;(conv=>whnf);rw [e2];rw [if_pos (.inr (.inl c2))]at hen;refine Ah.mk (CR (c:=22) (e:=i)) (fun _ _ h=>h.elim) ?_;rintro _ _ ⟨rfl,rfl⟩;exact⟨22,i,by rw [hbr,hen],rfl,ag.trans st7.old⟩
     ·have e2:decide (255<n)=false:=decide_eq_false c2;(conv=>whnf);rw [e2];by_cases c3:0≤n
      ·have e3:decide (0≤n)=true:=decide_eq_true c3;(conv=>whnf);rw [e3];by_cases c4:n<(m:Int)
       ·have e4:decide (n<(m:Int))=true:=decide_eq_true c4;(conv=>whnf);rw [e4];rw [if_pos (.inr (.inr ⟨c3,c4⟩))]at hen;refine Ah.mk (CR (c:=22) (e:=i)) (fun _ _ h=>h.elim) ?_;rintro _ _ ⟨rfl,rfl⟩;exact⟨22,i,by rw [hbr,hen],rfl,ag.trans st7.old⟩
       ·have e4:decide (n<(m:Int))=false:=decide_eq_false c4;(conv=>whnf);rw [e4];rw [if_neg (by omega)]at hen;refine ldN (cs:=Ab a (.func (.func g1) #[] c1)) AO (As (st7.blk _ (Es _ _))) trivial (Ah.of (Ad.mk (TL st7 (ga.frame (ag.trans st7.old) fun k hk=>hk) (by omega) hn1 (by omega) (by omega)) ?_));rintro _ H8 ⟨B1,f1,rfl,s1,a8,st8,gs⟩;obtain⟨g2,c2,rfl⟩:=gs.fn;refine Br (cs:=Ab (Ca a m n) (.func (.func g2) #[] c2)) st8 _ rfl (lgR _ _ 1) (by simp [Ab,Ak]) rfl fun H9 st9 ha9 hs9=>?_;rw [lsR,Cu rfl]at st9;refine ldN (cs:=Ab (Ca a m n) (.func (.func g2) #[] c2)) AO (As (st9.blk _ (lgR _ _ 1))) trivial ?_;exact⟨m,n,e+1,by rw [hbr,hen],B1,_,rfl,s1,((ag.trans st7.old).trans (a8.mono fun k hk=>st7.up hk)).trans fun k hk=>st9.old k (s1 k hk),st9.lft.rebase,gs.frame st9.old fun k hk=>hk⟩
      ·have e3:decide (0≤n)=false:=decide_eq_false c3;(conv=>whnf);rw [e3];rw [if_neg (by omega)]at hen;refine ldN (cs:=Ab a (.func (.func g1) #[] c1)) AO (As (st7.blk _ (Es _ _))) trivial (Ah.of (Ad.mk (TL st7 (ga.frame (ag.trans st7.old) fun k hk=>hk) (by omega) hn1 (by omega) (by omega)) ?_));rintro _ H8 ⟨B1,f1,rfl,s1,a8,st8,gs⟩;obtain⟨g2,c2,rfl⟩:=gs.fn;refine Br (cs:=Ab (Ca a m n) (.func (.func g2) #[] c2)) st8 _ rfl (lgR _ _ 1) (by simp [Ab,Ak]) rfl fun H9 st9 ha9 hs9=>?_;rw [lsR,Cu rfl]at st9;refine ldN (cs:=Ab (Ca a m n) (.func (.func g2) #[] c2)) AO (As (st9.blk _ (lgR _ _ 1))) trivial ?_;exact⟨m,n,e+1,by rw [hbr,hen],B1,_,rfl,s1,((ag.trans st7.old).trans (a8.mono fun k hk=>st7.up hk)).trans fun k hk=>st9.old k (s1 k hk),st9.lft.rebase,gs.frame st9.old fun k hk=>hk⟩
   ·have d1:(((bt t e:Nat):Int) != 125)=true:=bne_iff_ne.2 (by omega);(conv=>whnf);rw [d1];refine VC.fa AE ?_;refine ld1 (v:=.int .i64 ((e:Nat):Int)) ct3 (by rw [(st6.blk k (Ga hp)).cell];rfl) trivial ?_;refine Ah.mk (CR (c:=20) (e:=e)) (fun _ _ h=>h.elim) ?_;rintro _ _ ⟨rfl,rfl⟩;exact⟨20,e,by rw [hbr];unfold Fp;rw [if_neg h1],rfl,ag.trans st6.old⟩
  ·rw [decide_eq_true (show t.size≤e by omega)];refine VC.fa AE ?_;refine ld1 (v:=.int .i64 ((e:Nat):Int)) ct3 (by rw [(st5.blk k (Ga hp)).cell];rfl) trivial ?_;refine Ah.mk (CR (c:=20) (e:=e)) (fun _ _ h=>h.elim) ?_;rintro _ _ ⟨rfl,rfl⟩;exact⟨20,e,by rw [hbr];unfold Fp;rw [if_neg (by rw [Cy h0];omega)],rfl,ag.trans st5.old⟩
theorem FR{t:ByteArray}{i m k:Nat}{n:Int}{f:AF}{fs:List AF}{a:ReM}(hf:f.factor=some a)(hc:Fy (bt t i)=true)(hp:ED t i= .inr (m,n,k)):
  Ci t ⟨i,f,fs⟩= .inr ⟨k,{f with factor:=some (Ca a m n)},fs⟩:=by
 unfold Ci;show(if Fy (bt t i)then _ else _)=_;rw [if_pos hc,hf];show(match ED t i with | .inl e=>_ | .inr (m,n,k)=>_)=_;rw [hp]
theorem Lf{t:ByteArray}{i:Nat}{e:Nat×Nat}{f:AF}{fs:List AF}{a:ReM}(hf:f.factor=some a)(hc:Fy (bt t i)=true)(hp:ED t i= .inl e):
  Ci t ⟨i,f,fs⟩= .inl e:=by
 unfold Ci;show(if Fy (bt t i)then _ else _)=_;rw [if_pos hc,hf];show(match ED t i with | .inl e=>_ | .inr (m,n,k)=>_)=_;rw [hp]
theorem QO{c:Nat}(h:c=42∨c=43∨c=63∨c=123):Fy c=true:=by rcases h with rfl | rfl | rfl | rfl<;>rfl
theorem Ke{c:Nat}(h1:c≠42)(h2:c≠43)(h3:c≠63)(h4:c≠123):Fy c=false:=by
 unfold Fy;rw [beq_eq_false_iff_ne.2 h1,beq_eq_false_iff_ne.2 h2,beq_eq_false_iff_ne.2 h3,beq_eq_false_iff_ne.2 h4];rfl
structure RepI(B:Nat→Prop)(H:Aa)(ps:List Pc)(k s q1 q2 i:Nat)(t:ByteArray)(ov:Value)(f:AF)(fs:List AF)(j:Nat)(G:Aa):Prop where
 ex:∃(a:ReM) (B':Nat→Prop) (fn:Value),BY t ⟨i,f,fs⟩=BY t ⟨j,{f with factor:=some a},fs⟩∧i≤j∧j≤t.size∧(∀k,B k→B' k)∧Agr B H G∧
  StB B' G G (ps.set k (pSc s t j ov)++[pB 142 q1 (Ab a fn),pB 142 q2 Ak])∧C9 B' G fn a
theorem UC{B:Nat→Prop}{H:Aa}{ps:List Pc}{k s i:Nat}{t:ByteArray}{ov:Value}{a:ReM}{va:Value}{f:AF}{fs:List AF}(ht:t.size≤1152921504606846)(hi:i≤t.size)(hf:f.factor=some a)(st:StB B H H ps)(hp:ps[k]? =some (pSc s t i ov))(ga:C9 B H va a):
  BW Tryz.prog 192 #[.pointer (some ⟨s,0,none⟩),.agg (Ab a va).toArray] H
   (fun v H'=>∃j r,i≤j∧j≤t.size∧Fy (bt t j)=false∧BY t ⟨i,f,fs⟩=BY t ⟨j,{f with factor:=some r},fs⟩∧Ve B H ps k s t j ov r v H')
   (fun x H'=>∃c p:Nat,BY t ⟨i,f,fs⟩= .inl (c,(p:Int))∧x=Ee c p∧Agr B H H'):=by
 obtain⟨g1,c1,rfl⟩:=ga.fn;refine BW.of_vc Tryz.func192 rfl (Tryz.call192 _) (Cq (Ab a (.func (.func g1) #[] c1)) rfl ?_);intro q1 H1 hq1 hs1 hb1 ha1;have st1:=st.box hq1 hs1 hb1 ha1;refine An (.agg Ak.toArray) Ak De rfl ?_;intro q2 H2 hq2 hs2 hb2 ha2;have st2:=st1.box hq2 hs2 hb2 ha2;rw [AbM]at st2;replace st2:StB B H H2 (ps++[pB 142 q1 (Ab a (.func (.func g1) #[] c1)),pB 142 q2 Ak]):=st2;rw [←CE hp]at st2;(conv=>whnf);refine EG.mk [] (fun _:Nat=>[]) (fun j G=>RepI B H ps k s q1 q2 i t ov f fs j G) (fun j _=>t.size - j) ?_ ?_
 ·(conv=>whnf);refine⟨i,rfl,⟨a,B,.func (.func g1) #[] c1,?_,AaV _,hi,fun k hk=>hk,st2.old,st2.rebase,ga.frame st2.old fun k hk=>hk⟩⟩;rw [←hf]
 ·rintro j G junk ⟨a',B1,f1,hpr,hij,hj,s1,ag,stg,gv⟩;obtain⟨gg,cc,rfl⟩:=gv.fn;clear st st1 st2 ga hb1 hb2 ha1 ha2;have hpg:(ps.set k (pSc s t j ov)++[pB 142 q1 (Ab a' (.func (.func gg) #[] cc)),pB 142 q2 Ak])[k]? =some (pSc s t j ov):=Ga hp;refine Ah.of (Am (ET (stg.blk k hpg)) fun G1 hg1=>?_);have sg1:=stg.call hg1;by_cases h0:j<t.size
  ·rw [decide_eq_false (show¬t.size≤j by omega)];refine Bb.run (Ah.of (Am (D9 (sg1.blk k hpg) h0) fun G2 hg2=>?_));have sg2:=sg1.call hg2;have pst:∀{m k2:Nat} {n:Int},(bt t j=42∨bt t j=43∨bt t j=63∨bt t j=123)→ED t j= .inr (m,n,k2)→BY t ⟨i,f,fs⟩=BY t ⟨k2,{f with factor:=some (Ca a' m n)},fs⟩:=fun hc hp=>by
    rw [hpr];exact Ej (s:=⟨j,{f with factor:=some a'},fs⟩) h0 (FR rfl (QO hc) hp)
   by_cases h1:bt t j=42
   ·have d1:(((bt t j:Nat):Int)==42)=true:=by rw [h1];rfl
    (conv=>whnf);rw [d1];refine ldN (cs:=Ab a' (.func (.func gg) #[] cc)) AO (As (sg2.blk _ (Es _ _))) trivial (Ah.of (Ad.mk (Nk sg2 (gv.frame sg2.old fun k hk=>hk)) ?_));rintro _ G3 ⟨B2,f2,rfl,s2,a3,sg3,gs⟩;have ag3:Agr B H G3:=(ag.trans fun k hk=>sg2.old k (s1 k hk)).trans (a3.mono fun k hk=>sg2.up (s1 k hk));obtain⟨g2,c2,rfl⟩:=gs.fn;refine Br (cs:=Ab (.star a') (.func (.func g2) #[] c2)) sg3 _ rfl (Es _ _) (by simp [Ab]) rfl fun G4 sg4 ja js=>?_;rw [QA]at sg4;have e9:Ai (Ab a' (.func (.func gg) #[] cc)) 0 (Ab (.star a') (.func (.func g2) #[] c2))=Ab (.star a') (.func (.func g2) #[] c2):=Cu rfl;replace sg4:StB B2 G3 G4 (ps.set k (pSc s t j ov)++[pB 142 q1 (Ai (Ab a' (.func (.func gg) #[] cc)) 0 (Ab (.star a') (.func (.func g2) #[] c2))),pB 142 q2 Ak]):=sg4;rw [e9]at sg4;refine VC.fa AE ?_;refine ld1 (v:=.int .i64 ((j:Nat):Int)) ct3 (by rw [(sg4.blk k (Ga hp)).cell];rfl) trivial ?_;(conv=>whnf);rw [w64 (x:=((j:Nat):Int)+1) (by omega) (by omega)];refine VC.fa AE (AZ sg4 k ct3 (Ga hp) (by simp) rfl fun G5 sg5=>?_);rw [PE hp]at sg5;have ag5:Agr B G3 G5:=fun k hk=>sg5.old k (s2 k (s1 k hk));exact⟨rfl,j+1,rfl,⟨.star a',B2,.func (.func g2) #[] c2,pst (m:=0) (n:= -1) (.inl h1) (by unfold ED;rw [if_pos h1]),by omega,by omega,fun k hk=>s2 k (s1 k hk),ag3.trans ag5,sg5.rebase,gs.frame sg5.old fun k hk=>hk⟩,by omega⟩
   ·have d1:(((bt t j:Nat):Int)==42)=false:=EM h1;(conv=>whnf);rw [d1];by_cases h2:bt t j=43
    ·have d2:(((bt t j:Nat):Int)==43)=true:=by rw [h2];rfl
     (conv=>whnf);rw [d2];refine Cw.of (Ar.heldZ (Old G2) [4] (sq [0,1] (.f 2 (.f 3 (.f 4 .e)))) rfl (by kernel_rfl) (ldN (cs:=Ab a' (.func (.func gg) #[] cc)) AO (As (sg2.blk _ (Es _ _))) ((sg2.in_ _ (Es _ _) (k:=q1) rfl).2) (ldN (cs:=Ab a' (.func (.func gg) #[] cc)) AO (As (sg2.blk _ (Es _ _))) ((sg2.in_ _ (Es _ _) (k:=q1) rfl).2) (Ad.mk (Nk sg2 (gv.frame sg2.old fun k hk=>hk)) ?_))));rintro _ G6 ⟨B6,f6,rfl,s6,a6,sg6,gs6⟩;refine⟨a6,?_⟩;refine Ad.mk (Fq .cat sg6 ((gv.frame sg2.old fun k hk=>hk).frame (a6.mono fun k hk=>sg2.up hk) s6) gs6) ?_;rintro _ G3 ⟨B7,f7,rfl,s7,a7,sg3,gs⟩;have a67:=a6.trans (a7.mono fun k hk=>Aj a6 hk);refine⟨a67,?_⟩;have ag3:Agr B H G3:=(ag.trans fun k hk=>sg2.old k (s1 k hk)).trans (a67.mono fun k hk=>sg2.up (s1 k hk));obtain⟨B2,hB2⟩:∃B2,B2=B7:=⟨_,rfl⟩;rw [←hB2]at sg3 gs;have s2:∀k,B1 k→B2 k:=fun k hk=>by rw [hB2];exact s7 k (s6 k hk)
     obtain⟨g2,c2,rfl⟩:=gs.fn;refine Br (cs:=Ab (opR .cat a' (.star a')) (.func (.func g2) #[] c2)) sg3 _ rfl (Es _ _) (by simp [Ab]) rfl fun G4 sg4 ja js=>?_;rw [QA]at sg4;have e9:Ai (Ab a' (.func (.func gg) #[] cc)) 0 (Ab (opR .cat a' (.star a')) (.func (.func g2) #[] c2))=Ab (opR .cat a' (.star a')) (.func (.func g2) #[] c2):=Cu rfl;replace sg4:StB B2 G3 G4 (ps.set k (pSc s t j ov)++[pB 142 q1 (Ai (Ab a' (.func (.func gg) #[] cc)) 0 (Ab (opR .cat a' (.star a')) (.func (.func g2) #[] c2))),pB 142 q2 Ak]):=sg4;rw [e9]at sg4;refine VC.fa AE ?_;refine ld1 (v:=.int .i64 ((j:Nat):Int)) ct3 (by rw [(sg4.blk k (Ga hp)).cell];rfl) trivial ?_;(conv=>whnf);rw [w64 (x:=((j:Nat):Int)+1) (by omega) (by omega)];refine VC.fa AE (AZ sg4 k ct3 (Ga hp) (by simp) rfl fun G5 sg5=>?_);rw [PE hp]at sg5;have ag5:Agr B G3 G5:=fun k hk=>sg5.old k (s2 k (s1 k hk));exact⟨rfl,j+1,rfl,⟨opR .cat a' (.star a'),B2,.func (.func g2) #[] c2,pst (m:=1) (n:= -1) (.inr (.inl h2)) (by unfold ED;rw [if_neg h1,if_pos h2]),by omega,by omega,fun k hk=>s2 k (s1 k hk),ag3.trans ag5,sg5.rebase,gs.frame sg5.old fun k hk=>hk⟩,by omega⟩
    ·have d2:(((bt t j:Nat):Int)==43)=false:=EM h2;(conv=>whnf);rw [d2];by_cases h3:bt t j=63
     ·have d3:(((bt t j:Nat):Int)==63)=true:=by rw [h3];rfl
      (conv=>whnf);rw [d3];refine ldN (cs:=Ab a' (.func (.func gg) #[] cc)) AO (As (sg2.blk _ (Es _ _))) trivial (Ah.of (Ad.mk (LK sg2 (gv.frame sg2.old fun k hk=>hk)) ?_));rintro _ G3 ⟨B2,f2,rfl,s2,a3,sg3,gs⟩;have ag3:Agr B H G3:=(ag.trans fun k hk=>sg2.old k (s1 k hk)).trans (a3.mono fun k hk=>sg2.up (s1 k hk));obtain⟨g2,c2,rfl⟩:=gs.fn;refine Br (cs:=Ab (Bj a') (.func (.func g2) #[] c2)) sg3 _ rfl (Es _ _) (by simp [Ab]) rfl fun G4 sg4 ja js=>?_;rw [QA]at sg4;have e9:Ai (Ab a' (.func (.func gg) #[] cc)) 0 (Ab (Bj a') (.func (.func g2) #[] c2))=Ab (Bj a') (.func (.func g2) #[] c2):=Cu rfl;replace sg4:StB B2 G3 G4 (ps.set k (pSc s t j ov)++[pB 142 q1 (Ai (Ab a' (.func (.func gg) #[] cc)) 0 (Ab (Bj a') (.func (.func g2) #[] c2))),pB 142 q2 Ak]):=sg4;rw [e9]at sg4;refine VC.fa AE ?_;refine ld1 (v:=.int .i64 ((j:Nat):Int)) ct3 (by rw [(sg4.blk k (Ga hp)).cell];rfl) trivial ?_;(conv=>whnf);rw [w64 (x:=((j:Nat):Int)+1) (by omega) (by omega)];refine VC.fa AE (AZ sg4 k ct3 (Ga hp) (by simp) rfl fun G5 sg5=>?_);rw [PE hp]at sg5;have ag5:Agr B G3 G5:=fun k hk=>sg5.old k (s2 k (s1 k hk));exact⟨rfl,j+1,rfl,⟨Bj a',B2,.func (.func g2) #[] c2,pst (m:=0) (n:=1) (.inr (.inr (.inl h3))) (by unfold ED;rw [if_neg h1,if_neg h2,if_pos h3]),by omega,by omega,fun k hk=>s2 k (s1 k hk),ag3.trans ag5,sg5.rebase,gs.frame sg5.old fun k hk=>hk⟩,by omega⟩
     ·have d3:(((bt t j:Nat):Int)==63)=false:=EM h3;(conv=>whnf);rw [d3];by_cases h4:bt t j=123
      ·have d4:(((bt t j:Nat):Int)==123)=true:=by rw [h4];rfl
       (conv=>whnf);rw [d4];refine ldN (cs:=Ab a' (.func (.func gg) #[] cc)) AO (As (sg2.blk _ (Es _ _))) trivial (Ah.mk (Vw ht h4 sg2.rebase hpg (gv.frame sg2.old fun k hk=>hk)) ?_ ?_)
       ·rintro _ G3 ⟨m,n,j2,hbm,⟨B2,f2,rfl,s2,a3,sg3,gs⟩⟩;have hok:=IX hbm;rw [PE hp]at sg3;obtain⟨g2,c2,rfl⟩:=gs.fn;refine Br (cs:=Ab (Ca a' m n) (.func (.func g2) #[] c2)) sg3 _ rfl (Es _ _) (by simp [Ab]) rfl fun G4 sg4 ja js=>?_;rw [QA]at sg4;have e9:Ai (Ab a' (.func (.func gg) #[] cc)) 0 (Ab (Ca a' m n) (.func (.func g2) #[] c2))=Ab (Ca a' m n) (.func (.func g2) #[] c2):=Cu rfl;replace sg4:StB B2 G3 G4 (ps.set k (pSc s t j2 ov)++[pB 142 q1 (Ai (Ab a' (.func (.func gg) #[] cc)) 0 (Ab (Ca a' m n) (.func (.func g2) #[] c2))),pB 142 q2 Ak]):=sg4;rw [e9]at sg4;(conv=>whnf);have ag3:Agr B H G3:=(ag.trans fun k hk=>sg2.old k (s1 k hk)).trans (a3.mono fun k hk=>s1 k hk);have ag5:Agr B G3 G4:=fun k hk=>sg4.old k (s2 k (s1 k hk));exact⟨rfl,j2,rfl,⟨Ca a' m n,B2,.func (.func g2) #[] c2,pst (m:=m) (n:=n) (.inr (.inr (.inr h4))) (by unfold ED;rw [if_neg h1,if_neg h2,if_neg h3];exact hbm),by omega,by omega,fun k hk=>s2 k (s1 k hk),ag3.trans ag5,sg4.rebase,gs.frame sg4.old fun k hk=>hk⟩,by omega⟩
       ·rintro _ G3 ⟨c,p,hbm,rfl,a3⟩;refine⟨c,p,?_,rfl,(ag.trans fun k hk=>sg2.old k (s1 k hk)).trans (a3.mono fun k hk=>s1 k hk)⟩;rw [hpr];exact E3 (s:=⟨j,{f with factor:=some a'},fs⟩) h0 (Lf rfl (QO (.inr (.inr (.inr h4)))) (by unfold ED;rw [if_neg h1,if_neg h2,if_neg h3];exact hbm))
      ·have d4:(((bt t j:Nat):Int)==123)=false:=EM h4;(conv=>whnf);rw [d4];refine ldN (cs:=Ab a' (.func (.func gg) #[] cc)) AO (As (sg2.blk _ (Es _ _))) trivial (Br (cs:=Ab a' (.func (.func gg) #[] cc)) sg2 _ rfl (lgR _ _ 1) (by simp [Ab,Ak]) rfl fun G9 sg9 ja js=>?_);rw [lsR,Cu rfl]at sg9;refine ldN (cs:=Ab a' (.func (.func gg) #[] cc)) AO (As (sg9.blk _ (lgR _ _ 1))) trivial ?_;exact⟨j,a',hij,hj,Ke h1 h2 h3 h4,hpr,B1,_,rfl,s1,ag.trans fun k hk=>sg9.old k (s1 k hk),sg9.lft.rebase,gv.frame sg9.old fun k hk=>hk⟩
  ·rw [decide_eq_true (show t.size≤j by omega)];refine ldN (cs:=Ab a' (.func (.func gg) #[] cc)) AO (As (sg1.blk _ (Es _ _))) trivial (Br (cs:=Ab a' (.func (.func gg) #[] cc)) sg1 _ rfl (lgR _ _ 1) (by simp [Ab,Ak]) rfl fun G9 sg9 ja js=>?_);rw [lsR,Cu rfl]at sg9;refine ldN (cs:=Ab a' (.func (.func gg) #[] cc)) AO (As (sg9.blk _ (lgR _ _ 1))) trivial ?_;exact⟨j,a',hij,hj,by rw [Cy h0];rfl,hpr,B1,_,rfl,s1,ag.trans fun k hk=>sg9.old k (s1 k hk),sg9.lft.rebase,gv.frame sg9.old fun k hk=>hk⟩
theorem vbt{kk:IntKind}{i:Nat}{t:ByteArray}{S:Nat→Prop}{H:Aa}{K:Value→Prop}(hi:i<t.size)(k:K (.int .u8 (bt t i:Int))):AJ Tryz.prog (Instr.index 9 (.string t) (.int kk (i:Int))) S H K:=by
 obtain⟨b,h1,h2,h3⟩:=Di hi;refine DJ Fz rfl h1 ?_;rw [←h2];exact k
theorem U7(c:Nat)(H:Aa):BX Tryz.prog 76 #[.int .u8 (c:Int)] H (.bool (Fy c)):=by
 refine Al.of_vc Tryz.func76 rfl (Tryz.call76 _) ?_;(conv=>whnf);by_cases h42:c=42
 ·have d:((c:Int)==42)=true:=by rw [h42];rfl
  (conv=>whnf);rw [d];(conv=>whnf);refine⟨?_,Agr.refl _ _⟩;rw [h42];rfl
 ·have d:((c:Int)==42)=false:=EM h42;(conv=>whnf);rw [d];clear d;by_cases h43:c=43
  ·have d:((c:Int)==43)=true:=by rw [h43];rfl
   (conv=>whnf);rw [d];(conv=>whnf);refine⟨?_,Agr.refl _ _⟩;rw [h43];rfl
  ·have d:((c:Int)==43)=false:=EM h43;(conv=>whnf);rw [d];clear d;by_cases h63:c=63
   ·have d:((c:Int)==63)=true:=by rw [h63];rfl
    (conv=>whnf);rw [d];(conv=>whnf);refine⟨?_,Agr.refl _ _⟩;rw [h63];rfl
   ·have d:((c:Int)==63)=false:=EM h63;(conv=>whnf);rw [d];clear d;by_cases h123:c=123
    ·have d:((c:Int)==123)=true:=by rw [h123];rfl
     (conv=>whnf);rw [d];(conv=>whnf);refine⟨?_,Agr.refl _ _⟩;rw [h123];rfl
    ·have d:((c:Int)==123)=false:=EM h123;(conv=>whnf);rw [d];clear d;(conv=>whnf);refine⟨?_,Agr.refl _ _⟩;rw [Ke h42 h43 h63 h123]
theorem L6{i:Nat}{t:ByteArray}(H:Aa):BX Tryz.prog 132 #[.string t,.int .i64 (i:Int)] H (.bool (DL t i)):=by
 refine Al.of_vc Tryz.func132 rfl (Tryz.call132 _) ?_;by_cases hi:i<t.size
 ·have d1:decide ((i:Int)<(t.size:Int))=true:=decide_eq_true (by omega);(conv=>whnf);rw [d1];refine vbt hi ?_;by_cases h2:48≤bt t i
  ·have d2:decide (48≤((bt t i:Nat):Int))=true:=decide_eq_true (by omega);(conv=>whnf);rw [d2];refine vbt hi ?_;(conv=>whnf);refine⟨?_,Agr.refl _ _⟩
   congr 1
   unfold DL;rw [decide_eq_decide];omega
  ·have d2:decide (48≤((bt t i:Nat):Int))=false:=decide_eq_false (by omega);(conv=>whnf);rw [d2];(conv=>whnf);refine⟨?_,Agr.refl _ _⟩
   congr 1
   exact(decide_eq_false fun h=>h2 h.1).symm
 ·have d1:decide ((i:Int)<(t.size:Int))=false:=decide_eq_false (by omega);(conv=>whnf);rw [d1];(conv=>whnf);refine⟨?_,Agr.refl _ _⟩
  congr 1
  exact(decide_eq_false fun h=>by have:=Cy hi;omega).symm
def frZ:List Value:=[.int .i64 0,.int .i64 0,.int .i64 0,.int .u8 0,.int .i64 0,.int .i64 0]
theorem fr_z:(Tryz.prog.info? 150).bind (·.zero)=some (.agg frZ.toArray):=by kernel_rfl
def frO(p:Int):List Value:=[.int .i64 p,.int .i64 (-1),.int .i64 (-1),.int .u8 0,.int .i64 (-1),.int .i64 (-1)]
theorem Wm(p:Int)(H:Aa):Al Tryz.prog 75 #[.int .i64 p] H fun v H'=>v= .agg (frO p).toArray∧Agr (Old H) H H':=by
 refine Al.of_vc Tryz.func75 rfl (Tryz.call75 _) (An (.agg frZ.toArray) frZ fr_z rfl ?_);intro q H1 hq hs1 hb1 ha1;refine Aw Tryz.underlying150 rfl (.agg frZ.toArray) fr_z (frO p) rfl (VC.stN (cs:=frO p) rfl hb1 (AaV _) rfl ?_);intro H2 hb2 ha2 hs2;rw [AD (show(frO p).length=frZ.length from rfl)]at hb2;refine ldN (cs:=frO p) AaX (hb2.cells fun j v hv=>by rw [AcL];exact hv) trivial ?_;exact⟨rfl,(ha1.mono fun k hk=>by have:k<H.size:=hk;have:q=H.size:=hq;omega).trans (ha2.mono fun k hk=>by have:k<H.size:=hk;have:q=H.size:=hq;omega)⟩
def BrD(t:ByteArray)(i:Nat)(v:Value):Prop:=match BZ t i with
 | .inl (c,p)=>v= .tuple #[.int .i64 0,.int .i64 0,.int .i64 0,.int .i64 (c:Int),.int .i64 (p:Int)]
 | .inr (m,n,j)=>v= .tuple #[.int .i64 (m:Int),.int .i64 n,.int .i64 (j:Int),.int .i64 0,.int .i64 0]
abbrev pA2(q:Nat)(x y:Int):Pc:=pB 129 q [.int .i64 x,.int .i64 y]
theorem a2_z:(Tryz.prog.info? 129).bind (·.zero)=some (.agg #[.int .i64 0,.int .i64 0]):=by kernel_rfl
theorem T4{t:ByteArray}{e w:Nat}(h:DL t e=false):∀k,BO t k e w=(w,e)
 | 0=>rfl
 | k+1=>by unfold BO;rw [h];rfl
structure BrI(t:ByteArray)(i k e:Nat)(x0 x1:Int):Prop where
 le:e≤t.size
 z:k=0→e=i+1∧x0=0∧x1=0
 one:k=1→DL t (i+1)=true∧x0=((BO t 3 (i+1) 0).1:Int)∧x1=0∧e=(BO t 3 (i+1) 0).2+1∧bt t (BO t 3 (i+1) 0).2=44∧bt t e≠125
 two:k=2→DL t (i+1)=true∧x0=((BO t 3 (i+1) 0).1:Int)∧x1= -1∧upM t (BO t 3 (i+1) 0).1 (BO t 3 (i+1) 0).2= .inr (-1,e)
 le2:k≤2
theorem Ab4{t:ByteArray}{i:Nat}(hd:DL t (i+1)=true){n:Int}{e:Nat}(hu:upM t (BO t 3 (i+1) 0).1 (BO t 3 (i+1) 0).2= .inr (n,e)):BZ t i=Fp t i (BO t 3 (i+1) 0).1 n e:=by
 unfold BZ;rw [if_pos hd,hu]
theorem Ab5{t:ByteArray}{i:Nat}(hd:DL t (i+1)=false):BZ t i= .inl (20,i+1):=by
 unfold BZ;rw [hd];rfl
theorem Ud{t:ByteArray}{i:Nat}{H:Aa}(ht:t.size≤1048576)(hi:i<t.size):
  Al Tryz.prog 77 #[.string t,.int .i64 (i:Int)] H fun v H'=>Agr (Old H) H H'∧BrD t i v:=by
 refine Al.of_vcL Tryz.func77 rfl (Tryz.call77 _) ?_;(conv=>whnf);rw [w64 (x:=(i:Int)+1) (by omega) (by omega)];refine An (.agg #[.int .i64 0,.int .i64 0]) [.int .i64 0,.int .i64 0] a2_z rfl ?_;intro q H1 hq1 hs1 hb1 ha1;have st1:=(St.nil H).box hq1 hs1 hb1 ha1;(conv=>whnf);refine Av.cut [11,9] (fun x:Nat×Nat×Int×Int=>match x with | (k,e,_,_)=>[.int .i64 (k:Int),.int .i64 (e:Int)]) (fun x G=>match x with | (k,e,x0,x1)=>((k=1∨k=2)∧e≤t.size∧DL t (i+1)=true∧x0=((BO t 3 (i+1) 0).1:Int)∧(∃n:Int,upM t (BO t 3 (i+1) 0).1 (BO t 3 (i+1) 0).2= .inr (n,e)∧ -1≤n∧n<1000∧(k=1→n=x0)∧(k=2→n=x1)))∧St H G [pA2 q x0 x1]) ?_ ?_
 ·(conv=>whnf);refine AK.mk [11,9] (fun x:Nat×Nat×Int×Int=>match x with | (k,e,_,_)=>[.int .i64 (k:Int),.int .i64 (e:Int)]) (fun x G=>match x with | (k,e,x0,x1)=>BrI t i k e x0 x1∧St H G [pA2 q x0 x1]) (fun x _=>match x with | (k,_,_,_)=>2 - k) ?_ ?_
  ·(conv=>whnf);exact⟨(0,i+1,0,0),rfl,⟨hi,fun _=>⟨rfl,rfl,rfl⟩,fun h=>absurd h (by decide),fun h=>absurd h (by decide),by omega⟩,st1⟩
  ·rintro⟨k,e,x0,x1⟩ G junk ⟨hI,stg⟩;have hle:=hI.le;refine AN.mk (fun hz=>?_) (fun hz=>?_)<;>simp only [decide_eq_true_eq,decide_eq_false_iff_not]at hz
   ·have hk2:k<2:=by omega
    rcases(show k=0∨k=1 by omega)with rfl | rfl
    ·(conv=>whnf);try (refine Av.run ?_)
     obtain⟨rfl,rfl,rfl⟩:=hI.z rfl;refine Am (L6 (i:=(i+1)) G) fun G1 hg1=>?_;have sg1:=stg.call hg1;cases hd:DL t (i+1)with
     | false=>
       (conv=>whnf);refine⟨sg1.old,?_⟩;unfold BrD;rw [Ab5 hd];rfl
     | true=>
       (conv=>whnf);have hdi:=hd;(conv=>whnf);refine AK.mk [12,9] (fun x:Nat×Nat=>match x with | (jn,_)=>[.int .i64 (jn:Int),.int .i64 (((i+1)+jn:Nat):Int)]) (fun x G=>match x with | (jn,v)=>jn≤3∧v<10 ^ jn∧(i+1)+jn≤t.size∧BO t 3 (i+1) 0=BO t (3 - jn) ((i+1)+jn) v∧St H G [pA2 q (v:Int) 0]) (fun x _=>match x with | (jn,_)=>3 - jn) ?_ ?_
       ·(conv=>whnf);exact⟨(0,0),rfl,by omega,by decide,hle,rfl,sg1⟩
       ·rintro⟨jn,v⟩ G2 junk2 ⟨hjn,hv,hje,hvn,stj⟩;have hv1:v<1000:=AbK hv (AbH (by omega) hjn);have hout:(jn=3∨DL t ((i+1)+jn)=false)→BO t 3 (i+1) 0=(v,(i+1)+jn):=fun h=>by
         rw [hvn];rcases h with rfl | h
         ·rfl
         ·exact T4 h _
        clear hI;by_cases hj3:jn<3
        ·have d2:decide ((jn:Int)<3)=true:=decide_eq_true (by omega);(conv=>whnf);rw [d2];refine Am (L6 (i:=(i+1)+jn) G2) fun G3 hg3=>?_;replace stj:=stj.call hg3;cases hdj:DL t ((i+1)+jn)with
         | true=>
           have hlt:(i+1)+jn<t.size:=by
            unfold DL at hdj;have:=of_decide_eq_true hdj;exact D2 (by omega)
           have hdr:48≤bt t ((i+1)+jn)∧bt t ((i+1)+jn)≤57:=by unfold DL at hdj;exact of_decide_eq_true hdj
           (conv=>whnf);try (refine Av.run ?_)
           refine Ar.heldZ (fun k=>k=q) [12] (sq [0,1,2,3,4,5,6,7,8,9,10,11] (.f 12 .e)) rfl (by kernel_rfl) (ixa CZ (by decide) (by decide) ?_);refine ld1 (v:=.int .i64 (v:Int)) ct3 (by rw [(stj.blk 0 rfl).cell];rfl) rfl ?_;(conv=>whnf);rw [w64 (x:=10*(v:Int)) (by omega) (by omega)];refine vbt hlt ?_;(conv=>whnf);rw [w8 (x:=((bt t ((i+1)+jn):Nat):Int) - 48) (by omega) (by omega)];(conv=>whnf);rw [w64 (x:=((bt t ((i+1)+jn):Nat):Int) - 48) (by omega) (by omega)];(conv=>whnf);rw [w64 (x:=10*(v:Int)+(((bt t ((i+1)+jn):Nat):Int) - 48)) (by omega) (by omega)];refine ixa CZ (by decide) (by decide) ?_;refine AZ stj 0 ct3 rfl (by show _<(2:Nat);decide) rfl fun G5 sg5=>?_;(conv=>whnf);rw [w64 (x:=(((i+1)+jn:Nat):Int)+1) (by omega) (by omega)];(conv=>whnf);rw [w64 (x:=(jn:Int)+1) (by omega) (by omega)];have ev:10*(v:Int)+(((bt t ((i+1)+jn):Nat):Int) - 48)=((10*v+(bt t ((i+1)+jn) - 48):Nat):Int):=by omega
           rw [ev]at sg5;refine⟨rfl,(jn+1,10*v+(bt t ((i+1)+jn) - 48)),rfl,⟨by omega,by rw [AcN];omega,by omega,?_,sg5⟩,by show 3 - (jn+1)<3 - jn;omega⟩;rw [hvn,show 3 - jn=(3 - (jn+1))+1 by omega,BO,hdj];rfl
         | false=>
           (conv=>whnf);try (refine Av.run ?_)
           (conv=>whnf);have hv3:BO t 3 (i+1) 0=(v,(i+1)+jn):=hout (.inr hdj);have hnm:BO t 3 (i+1) 0=(v,(i+1)+jn):=hv3;by_cases h0:(i+1)+jn<t.size
           ·have d5:decide ((t.size:Int)≤(((i+1)+jn:Nat):Int))=false:=decide_eq_false (by omega);(conv=>whnf);rw [d5];refine vbt h0 ?_;by_cases h44:bt t ((i+1)+jn)=44
            ·have d6:(((bt t ((i+1)+jn):Nat):Int) != 44)=false:=by rw [h44];rfl
             (conv=>whnf);rw [d6];(conv=>whnf);rw [w64 (x:=(((i+1)+jn:Nat):Int)+1) (by omega) (by omega)];(conv=>whnf);try (refine Av.run ?_)
             (conv=>whnf);by_cases h1:(i+1)+jn+1<t.size
             ·have d7:decide ((((i+1)+jn:Nat):Int)+1<(t.size:Int))=true:=decide_eq_true (by omega);(conv=>whnf);rw [d7];refine vbt (i:=(i+1)+jn+1) h1 ?_;by_cases h125:bt t ((i+1)+jn+1)=125
              ·have d8:(((bt t ((i+1)+jn+1):Nat):Int)==125)=true:=by rw [h125];rfl
               (conv=>whnf);rw [d8];refine ixa CZ (by decide) (by decide) ?_;refine AZ stj 0 ct3 rfl (by show _<(2:Nat);decide) rfl fun G7 sg7=>?_;replace sg7:St H G7 [pA2 q (v:Int) (-1)]:=sg7;(conv=>whnf);exact⟨rfl,(2,(i+1)+jn+1,(v:Int),-1),rfl,⟨⟨by omega,fun h=>absurd h (by decide),fun h=>absurd h (by decide),fun _=>⟨hdi,by rw [hnm],rfl,by rw [hnm];unfold upM;rw [if_pos h44,if_pos h125]⟩,by omega⟩,sg7⟩,by show 2 - 2<2 - 0;omega⟩
              ·have d8:(((bt t ((i+1)+jn+1):Nat):Int)==125)=false:=EM h125;(conv=>whnf);rw [d8];(conv=>whnf);exact⟨rfl,(1,(i+1)+jn+1,(v:Int),0),rfl,⟨⟨by omega,fun h=>absurd h (by decide),fun _=>⟨hdi,by rw [hnm],rfl,by rw [hnm],by rw [hnm];exact h44,h125⟩,fun h=>absurd h (by decide),by omega⟩,stj⟩,by show 2 - 1<2 - 0;omega⟩
             ·have d7:decide ((((i+1)+jn:Nat):Int)+1<(t.size:Int))=false:=decide_eq_false (by omega);(conv=>whnf);rw [d7];(conv=>whnf);exact⟨rfl,(1,(i+1)+jn+1,(v:Int),0),rfl,⟨⟨by omega,fun h=>absurd h (by decide),fun _=>⟨hdi,by rw [hnm],rfl,by rw [hnm],by rw [hnm];exact h44,by rw [Cy h1];decide⟩,fun h=>absurd h (by decide),by omega⟩,stj⟩,by show 2 - 1<2 - 0;omega⟩
            ·have d6:(((bt t ((i+1)+jn):Nat):Int) != 44)=true:=bne_iff_ne.2 (by omega);(conv=>whnf);rw [d6];(conv=>whnf);exact⟨rfl,(1,(i+1)+jn,(v:Int),0),rfl,⟨⟨.inl rfl,hje,(by first | exact hdi | rfl),by rw [hnm],(v:Int),by rw [hnm];unfold upM;rw [if_neg h44],by omega,by omega,fun _=>rfl,fun h=>absurd h (by decide)⟩,stj⟩⟩
           ·have d5:decide ((t.size:Int)≤(((i+1)+jn:Nat):Int))=true:=decide_eq_true (by omega);(conv=>whnf);rw [d5];(conv=>whnf);exact⟨rfl,(1,(i+1)+jn,(v:Int),0),rfl,⟨⟨.inl rfl,hje,(by first | exact hdi | rfl),by rw [hnm],(v:Int),by rw [hnm];unfold upM;rw [if_neg (by rw [Cy h0];omega)],by omega,by omega,fun _=>rfl,fun h=>absurd h (by decide)⟩,stj⟩⟩
        ·have d2:decide ((jn:Int)<3)=false:=decide_eq_false (by omega);(conv=>whnf);rw [d2];(conv=>whnf);try (refine Av.run ?_)
         (conv=>whnf);have hv3:BO t 3 (i+1) 0=(v,(i+1)+jn):=hout (.inl (by omega));have hnm:BO t 3 (i+1) 0=(v,(i+1)+jn):=hv3;by_cases h0:(i+1)+jn<t.size
         ·have d5:decide ((t.size:Int)≤(((i+1)+jn:Nat):Int))=false:=decide_eq_false (by omega);(conv=>whnf);rw [d5];refine vbt h0 ?_;by_cases h44:bt t ((i+1)+jn)=44
          ·have d6:(((bt t ((i+1)+jn):Nat):Int) != 44)=false:=by rw [h44];rfl
           (conv=>whnf);rw [d6];(conv=>whnf);rw [w64 (x:=(((i+1)+jn:Nat):Int)+1) (by omega) (by omega)];(conv=>whnf);try (refine Av.run ?_)
           (conv=>whnf);by_cases h1:(i+1)+jn+1<t.size
           ·have d7:decide ((((i+1)+jn:Nat):Int)+1<(t.size:Int))=true:=decide_eq_true (by omega);(conv=>whnf);rw [d7];refine vbt (i:=(i+1)+jn+1) h1 ?_;by_cases h125:bt t ((i+1)+jn+1)=125
            ·have d8:(((bt t ((i+1)+jn+1):Nat):Int)==125)=true:=by rw [h125];rfl
             (conv=>whnf);rw [d8];refine ixa CZ (by decide) (by decide) ?_;refine AZ stj 0 ct3 rfl (by show _<(2:Nat);decide) rfl fun G7 sg7=>?_;replace sg7:St H G7 [pA2 q (v:Int) (-1)]:=sg7;(conv=>whnf);exact⟨rfl,(2,(i+1)+jn+1,(v:Int),-1),rfl,⟨⟨by omega,fun h=>absurd h (by decide),fun h=>absurd h (by decide),fun _=>⟨hdi,by rw [hnm],rfl,by rw [hnm];unfold upM;rw [if_pos h44,if_pos h125]⟩,by omega⟩,sg7⟩,by show 2 - 2<2 - 0;omega⟩
            ·have d8:(((bt t ((i+1)+jn+1):Nat):Int)==125)=false:=EM h125;(conv=>whnf);rw [d8];(conv=>whnf);exact⟨rfl,(1,(i+1)+jn+1,(v:Int),0),rfl,⟨⟨by omega,fun h=>absurd h (by decide),fun _=>⟨hdi,by rw [hnm],rfl,by rw [hnm],by rw [hnm];exact h44,h125⟩,fun h=>absurd h (by decide),by omega⟩,stj⟩,by show 2 - 1<2 - 0;omega⟩
           ·have d7:decide ((((i+1)+jn:Nat):Int)+1<(t.size:Int))=false:=decide_eq_false (by omega);(conv=>whnf);rw [d7];(conv=>whnf);exact⟨rfl,(1,(i+1)+jn+1,(v:Int),0),rfl,⟨⟨by omega,fun h=>absurd h (by decide),fun _=>⟨hdi,by rw [hnm],rfl,by rw [hnm],by rw [hnm];exact h44,by rw [Cy h1];decide⟩,fun h=>absurd h (by decide),by omega⟩,stj⟩,by show 2 - 1<2 - 0;omega⟩
          ·have d6:(((bt t ((i+1)+jn):Nat):Int) != 44)=true:=bne_iff_ne.2 (by omega);(conv=>whnf);rw [d6];(conv=>whnf);exact⟨rfl,(1,(i+1)+jn,(v:Int),0),rfl,⟨⟨.inl rfl,hje,(by first | exact hdi | rfl),by rw [hnm],(v:Int),by rw [hnm];unfold upM;rw [if_neg h44],by omega,by omega,fun _=>rfl,fun h=>absurd h (by decide)⟩,stj⟩⟩
         ·have d5:decide ((t.size:Int)≤(((i+1)+jn:Nat):Int))=true:=decide_eq_true (by omega);(conv=>whnf);rw [d5];(conv=>whnf);exact⟨rfl,(1,(i+1)+jn,(v:Int),0),rfl,⟨⟨.inl rfl,hje,(by first | exact hdi | rfl),by rw [hnm],(v:Int),by rw [hnm];unfold upM;rw [if_neg (by rw [Cy h0];omega)],by omega,by omega,fun _=>rfl,fun h=>absurd h (by decide)⟩,stj⟩⟩
    ·(conv=>whnf);try (refine Av.run ?_)
     obtain⟨hdi,hx0,rfl,hej,h44,h125⟩:=hI.one rfl;refine Am (L6 (i:=e) G) fun G1 hg1=>?_;have sg1:=stg.call hg1;cases hd:DL t e with
     | false=>
       (conv=>whnf);refine⟨sg1.old,?_⟩;unfold BrD;have hu:upM t (BO t 3 (i+1) 0).1 (BO t 3 (i+1) 0).2= .inl (20,e):=by
        unfold upM;rw [if_pos h44,←hej,if_neg h125,hd];rfl
       have hb:BZ t i= .inl (20,e):=by unfold BZ;rw [if_pos hdi,hu]
       rw [hb];rfl
     | true=>
       (conv=>whnf);(conv=>whnf);refine AK.mk [12,9] (fun x:Nat×Nat=>match x with | (jn,_)=>[.int .i64 (jn:Int),.int .i64 ((e+jn:Nat):Int)]) (fun x G=>match x with | (jn,v)=>jn≤3∧v<10 ^ jn∧e+jn≤t.size∧BO t 3 e 0=BO t (3 - jn) (e+jn) v∧St H G [pA2 q x0 (v:Int)]) (fun x _=>match x with | (jn,_)=>3 - jn) ?_ ?_
       ·(conv=>whnf);exact⟨(0,0),rfl,by omega,by decide,hle,rfl,sg1⟩
       ·rintro⟨jn,v⟩ G2 junk2 ⟨hjn,hv,hje,hvn,stj⟩;have hv1:v<1000:=AbK hv (AbH (by omega) hjn);have hout:(jn=3∨DL t (e+jn)=false)→BO t 3 e 0=(v,e+jn):=fun h=>by
         rw [hvn];rcases h with rfl | h
         ·rfl
         ·exact T4 h _
        clear hI;by_cases hj3:jn<3
        ·have d2:decide ((jn:Int)<3)=true:=decide_eq_true (by omega);(conv=>whnf);rw [d2];refine Am (L6 (i:=e+jn) G2) fun G3 hg3=>?_;replace stj:=stj.call hg3;cases hdj:DL t (e+jn)with
         | true=>
           have hlt:e+jn<t.size:=by
            unfold DL at hdj;have:=of_decide_eq_true hdj;exact D2 (by omega)
           have hdr:48≤bt t (e+jn)∧bt t (e+jn)≤57:=by unfold DL at hdj;exact of_decide_eq_true hdj
           (conv=>whnf);try (refine Av.run ?_)
           refine Ar.heldZ (fun k=>k=q) [12] (sq [0,1,2,3,4,5,6,7,8,9,10,11] (.f 12 .e)) rfl (by kernel_rfl) (ixa CZ (by decide) (by decide) ?_);refine ld1 (v:=.int .i64 (v:Int)) ct3 (by rw [(stj.blk 0 rfl).cell];rfl) rfl ?_;(conv=>whnf);rw [w64 (x:=10*(v:Int)) (by omega) (by omega)];refine vbt hlt ?_;(conv=>whnf);rw [w8 (x:=((bt t (e+jn):Nat):Int) - 48) (by omega) (by omega)];(conv=>whnf);rw [w64 (x:=((bt t (e+jn):Nat):Int) - 48) (by omega) (by omega)];(conv=>whnf);rw [w64 (x:=10*(v:Int)+(((bt t (e+jn):Nat):Int) - 48)) (by omega) (by omega)];refine ixa CZ (by decide) (by decide) ?_;refine AZ stj 0 ct3 rfl (by show _<(2:Nat);decide) rfl fun G5 sg5=>?_;(conv=>whnf);rw [w64 (x:=((e+jn:Nat):Int)+1) (by omega) (by omega)];(conv=>whnf);rw [w64 (x:=(jn:Int)+1) (by omega) (by omega)];have ev:10*(v:Int)+(((bt t (e+jn):Nat):Int) - 48)=((10*v+(bt t (e+jn) - 48):Nat):Int):=by omega
           rw [ev]at sg5;refine⟨rfl,(jn+1,10*v+(bt t (e+jn) - 48)),rfl,⟨by omega,by rw [AcN];omega,by omega,?_,sg5⟩,by show 3 - (jn+1)<3 - jn;omega⟩;rw [hvn,show 3 - jn=(3 - (jn+1))+1 by omega,BO,hdj];rfl
         | false=>
           (conv=>whnf);try (refine Av.run ?_)
           (conv=>whnf);have hv3:BO t 3 e 0=(v,e+jn):=hout (.inr hdj);exact⟨rfl,(2,e+jn,x0,(v:Int)),rfl,⟨⟨.inr rfl,hje,hdi,hx0,(v:Int),by unfold upM;rw [if_pos h44,←hej,if_neg h125,hd];show(if true=true then _ else _)=_;rw [if_pos rfl,hv3],by omega,by omega,fun h=>absurd h (by decide),fun _=>rfl⟩,stj⟩⟩
        ·have d2:decide ((jn:Int)<3)=false:=decide_eq_false (by omega);(conv=>whnf);rw [d2];(conv=>whnf);try (refine Av.run ?_)
         (conv=>whnf);have hv3:BO t 3 e 0=(v,e+jn):=hout (.inl (by omega));exact⟨rfl,(2,e+jn,x0,(v:Int)),rfl,⟨⟨.inr rfl,hje,hdi,hx0,(v:Int),by unfold upM;rw [if_pos h44,←hej,if_neg h125,hd];show(if true=true then _ else _)=_;rw [if_pos rfl,hv3],by omega,by omega,fun h=>absurd h (by decide),fun _=>rfl⟩,stj⟩⟩
   ·have hk:k=2:=by have:=hI.le2;omega
    subst hk;obtain⟨h1,h2,h3,h4⟩:=hI.two rfl;(conv=>whnf);exact⟨rfl,(2,e,x0,x1),rfl,⟨⟨.inr rfl,hle,h1,h2,-1,h4,by omega,by omega,fun h=>absurd h (by decide),fun _=>h3.symm⟩,stg⟩⟩
 ·rintro⟨k,e,x0,x1⟩ G junk ⟨⟨hk,he,hd,hx0,n,hu,hn1,hn2,h1n,h2n⟩,stg⟩;have hbr:=Ab4 hd hu;obtain⟨m,hm⟩:∃m,m=(BO t 3 (i+1) 0).1:=⟨_,rfl⟩;rw [←hm]at hbr hx0;clear hu hm st1;rcases hk with rfl | rfl
  ·have hnx:=h1n rfl;refine Av.run (ixa CZ (by decide) (by decide) ?_);refine ld1 (v:=.int .i64 (x0)) ct3 (by rw [(stg.blk 0 rfl).cell];rfl) trivial ?_;refine ixa CZ (by decide) (by decide) ?_;refine AZ stg 0 ct3 rfl (by show _<(2:Nat);decide) rfl fun G2 sg2=>?_;replace sg2:St H G2 [pA2 q x0 x0]:=sg2;(conv=>whnf);try (refine Av.run ?_)
   (conv=>whnf);by_cases he2:e<t.size
   ·have d1:decide ((t.size:Int)≤(e:Int))=false:=decide_eq_false (by omega);(conv=>whnf);rw [d1];refine vbt he2 ?_;by_cases h125:bt t e=125
    ·have d2:(((bt t e:Nat):Int) != 125)=false:=by rw [h125];rfl
     have hen:Fp t i m n e=(if 255<m∨255<n∨(0≤n∧n<(m:Int))then .inl (22,i)else .inr (m,n,e+1)):=by unfold Fp;rw [if_pos h125]
     (conv=>whnf);rw [d2];refine ixa CZ (by decide) (by decide) ?_;refine ld1 (v:=.int .i64 (x0)) ct3 (by rw [(sg2.blk 0 rfl).cell];rfl) trivial ?_;by_cases c1:255<x0
     ·have d3:decide (255<x0)=true:=decide_eq_true c1;(conv=>whnf);rw [d3];(conv=>whnf);refine⟨sg2.old,?_⟩;unfold BrD;rw [hbr,hen,if_pos (.inl (by omega))];rfl
     ·have d3:decide (255<x0)=false:=decide_eq_false c1;(conv=>whnf);rw [d3];refine ixa CZ (by decide) (by decide) ?_;refine ld1 (v:=.int .i64 (x0)) ct3 (by rw [(sg2.blk 0 rfl).cell];rfl) trivial ?_;by_cases c2:255<n
      ·have d4:decide (255<x0)=true:=decide_eq_true (by omega);(conv=>whnf);rw [d4];(conv=>whnf);refine⟨sg2.old,?_⟩;unfold BrD;rw [hbr,hen,if_pos (.inr (.inl c2))];rfl
      ·have d4:decide (255<x0)=false:=decide_eq_false (by omega);(conv=>whnf);rw [d4];refine ixa CZ (by decide) (by decide) ?_;refine ld1 (v:=.int .i64 (x0)) ct3 (by rw [(sg2.blk 0 rfl).cell];rfl) trivial ?_;by_cases c3:0≤n
       ·have d5:decide (0≤x0)=true:=decide_eq_true (by omega);(conv=>whnf);rw [d5];refine ixa CZ (by decide) (by decide) ?_;refine ld1 (v:=.int .i64 (x0)) ct3 (by rw [(sg2.blk 0 rfl).cell];rfl) trivial ?_;refine ixa CZ (by decide) (by decide) ?_;refine ld1 (v:=.int .i64 (x0)) ct3 (by rw [(sg2.blk 0 rfl).cell];rfl) trivial ?_;by_cases c4:n<(m:Int)
        ·have d6:decide (x0<x0)=true:=decide_eq_true (by omega);(conv=>whnf);rw [d6];(conv=>whnf);refine⟨sg2.old,?_⟩;unfold BrD;rw [hbr,hen,if_pos (.inr (.inr ⟨c3,c4⟩))];rfl
        ·have d6:decide (x0<x0)=false:=decide_eq_false (by omega);(conv=>whnf);rw [d6];refine Ar.lex rfl (by kernel_rfl) (ixa CZ (by decide) (by decide) ?_);refine ld1 (v:=.int .i64 (x0)) ct3 (by rw [(sg2.blk 0 rfl).cell];rfl) trivial ?_;refine ixa CZ (by decide) (by decide) ?_;refine ld1 (v:=.int .i64 (x0)) ct3 (by rw [(sg2.blk 0 rfl).cell];rfl) trivial ?_;(conv=>whnf);rw [w64 (x:=(e:Int)+1) (by omega) (by omega)];(conv=>whnf);refine⟨sg2.old,?_⟩;unfold BrD;rw [hbr,hen,if_neg (by omega),hnx,hx0];rfl
       ·have d5:decide (0≤x0)=false:=decide_eq_false (by omega);(conv=>whnf);rw [d5];refine Ar.lex rfl (by kernel_rfl) (ixa CZ (by decide) (by decide) ?_);refine ld1 (v:=.int .i64 (x0)) ct3 (by rw [(sg2.blk 0 rfl).cell];rfl) trivial ?_;refine ixa CZ (by decide) (by decide) ?_;refine ld1 (v:=.int .i64 (x0)) ct3 (by rw [(sg2.blk 0 rfl).cell];rfl) trivial ?_;(conv=>whnf);rw [w64 (x:=(e:Int)+1) (by omega) (by omega)];(conv=>whnf);refine⟨sg2.old,?_⟩;unfold BrD;rw [hbr,hen,if_neg (by omega),hnx,hx0];rfl
    ·have d2:(((bt t e:Nat):Int) != 125)=true:=bne_iff_ne.2 (by omega);have hen:Fp t i m n e= .inl (20,e):=by unfold Fp;rw [if_neg h125]
     (conv=>whnf);rw [d2];(conv=>whnf);refine⟨sg2.old,?_⟩;unfold BrD;rw [hbr,hen];rfl
   ·have d1:decide ((t.size:Int)≤(e:Int))=true:=decide_eq_true (by omega);have hen:Fp t i m n e= .inl (20,e):=by unfold Fp;rw [if_neg (by rw [Cy he2];omega)]
    (conv=>whnf);rw [d1];(conv=>whnf);refine⟨sg2.old,?_⟩;unfold BrD;rw [hbr,hen];rfl
  ·have hnx:=h2n rfl;refine Av.run ?_;(conv=>whnf);try (refine Av.run ?_)
   (conv=>whnf);by_cases he2:e<t.size
   ·have d1:decide ((t.size:Int)≤(e:Int))=false:=decide_eq_false (by omega);(conv=>whnf);rw [d1];refine vbt he2 ?_;by_cases h125:bt t e=125
    ·have d2:(((bt t e:Nat):Int) != 125)=false:=by rw [h125];rfl
     have hen:Fp t i m n e=(if 255<m∨255<n∨(0≤n∧n<(m:Int))then .inl (22,i)else .inr (m,n,e+1)):=by unfold Fp;rw [if_pos h125]
     (conv=>whnf);rw [d2];refine ixa CZ (by decide) (by decide) ?_;refine ld1 (v:=.int .i64 (x0)) ct3 (by rw [(stg.blk 0 rfl).cell];rfl) trivial ?_;by_cases c1:255<x0
     ·have d3:decide (255<x0)=true:=decide_eq_true c1;(conv=>whnf);rw [d3];(conv=>whnf);refine⟨stg.old,?_⟩;unfold BrD;rw [hbr,hen,if_pos (.inl (by omega))];rfl
     ·have d3:decide (255<x0)=false:=decide_eq_false c1;(conv=>whnf);rw [d3];refine ixa CZ (by decide) (by decide) ?_;refine ld1 (v:=.int .i64 (x1)) ct3 (by rw [(stg.blk 0 rfl).cell];rfl) trivial ?_;by_cases c2:255<n
      ·have d4:decide (255<x1)=true:=decide_eq_true (by omega);(conv=>whnf);rw [d4];(conv=>whnf);refine⟨stg.old,?_⟩;unfold BrD;rw [hbr,hen,if_pos (.inr (.inl c2))];rfl
      ·have d4:decide (255<x1)=false:=decide_eq_false (by omega);(conv=>whnf);rw [d4];refine ixa CZ (by decide) (by decide) ?_;refine ld1 (v:=.int .i64 (x1)) ct3 (by rw [(stg.blk 0 rfl).cell];rfl) trivial ?_;by_cases c3:0≤n
       ·have d5:decide (0≤x1)=true:=decide_eq_true (by omega);(conv=>whnf);rw [d5];refine ixa CZ (by decide) (by decide) ?_;refine ld1 (v:=.int .i64 (x1)) ct3 (by rw [(stg.blk 0 rfl).cell];rfl) trivial ?_;refine ixa CZ (by decide) (by decide) ?_;refine ld1 (v:=.int .i64 (x0)) ct3 (by rw [(stg.blk 0 rfl).cell];rfl) trivial ?_;by_cases c4:n<(m:Int)
        ·have d6:decide (x1<x0)=true:=decide_eq_true (by omega);(conv=>whnf);rw [d6];(conv=>whnf);refine⟨stg.old,?_⟩;unfold BrD;rw [hbr,hen,if_pos (.inr (.inr ⟨c3,c4⟩))];rfl
        ·have d6:decide (x1<x0)=false:=decide_eq_false (by omega);(conv=>whnf);rw [d6];refine Ar.lex rfl (by kernel_rfl) (ixa CZ (by decide) (by decide) ?_);refine ld1 (v:=.int .i64 (x0)) ct3 (by rw [(stg.blk 0 rfl).cell];rfl) trivial ?_;refine ixa CZ (by decide) (by decide) ?_;refine ld1 (v:=.int .i64 (x1)) ct3 (by rw [(stg.blk 0 rfl).cell];rfl) trivial ?_;(conv=>whnf);rw [w64 (x:=(e:Int)+1) (by omega) (by omega)];(conv=>whnf);refine⟨stg.old,?_⟩;unfold BrD;rw [hbr,hen,if_neg (by omega),hnx,hx0];rfl
       ·have d5:decide (0≤x1)=false:=decide_eq_false (by omega);(conv=>whnf);rw [d5];refine Ar.lex rfl (by kernel_rfl) (ixa CZ (by decide) (by decide) ?_);refine ld1 (v:=.int .i64 (x0)) ct3 (by rw [(stg.blk 0 rfl).cell];rfl) trivial ?_;refine ixa CZ (by decide) (by decide) ?_;refine ld1 (v:=.int .i64 (x1)) ct3 (by rw [(stg.blk 0 rfl).cell];rfl) trivial ?_;(conv=>whnf);rw [w64 (x:=(e:Int)+1) (by omega) (by omega)];(conv=>whnf);refine⟨stg.old,?_⟩;unfold BrD;rw [hbr,hen,if_neg (by omega),hnx,hx0];rfl
    ·have d2:(((bt t e:Nat):Int) != 125)=true:=bne_iff_ne.2 (by omega);have hen:Fp t i m n e= .inl (20,e):=by unfold Fp;rw [if_neg h125]
     (conv=>whnf);rw [d2];(conv=>whnf);refine⟨stg.old,?_⟩;unfold BrD;rw [hbr,hen];rfl
   ·have d1:decide ((t.size:Int)≤(e:Int))=true:=decide_eq_true (by omega);have hen:Fp t i m n e= .inl (20,e):=by unfold Fp;rw [if_neg (by rw [Cy he2];omega)]
    (conv=>whnf);rw [d1];(conv=>whnf);refine⟨stg.old,?_⟩;unfold BrD;rw [hbr,hen];rfl
def FA(c m:Nat)(n:Int):Nat:=
 if n<0 then(if m=0 then c+1 else m*c+m+c+1)else if n=0 then 1 else if m=0 then n.toNat*(c+2)+n.toNat - 1 else m*c+m - 1+(n.toNat - m)*(c+3)
theorem Jv(a:ReM)(m:Nat):∀k,1≤k→((BS a m k).getD .eps).nodes+1=min k m*(a.nodes+1)+(k - m)*(a.nodes+3)
 | 0,h=>absurd h (by decide)
 | 1,_=>by
   rw [Ij];by_cases hm:0<m
   ·rw [if_pos hm,show min 1 m=1 by omega,show 1 - m=0 by omega];simp
   ·rw [if_neg hm,show min 1 m=0 by omega,show 1 - m=1 by omega];show 1+a.nodes+1+1=_;omega
 | k+2,_=>by
   have ih:=Jv a m (k+1) (by omega);rw [Ds a m (k+1) (by omega)];show 1+_+(if k+1<m then a else Bj a).nodes+1=_;by_cases hm:k+1<m
   ·rw [if_pos hm];rw [show min (k+1) m=k+1 by omega,show k+1 - m=0 by omega]at ih;rw [show min (k+2) m=k+1+1 by omega,show k+2 - m=0 by omega,Nat.add_mul (k+1) 1];omega
   ·rw [if_neg hm];rw [show min (k+1) m=m by omega]at ih;rw [show min (k+2) m=m by omega,show k+2 - m=(k+1 - m)+1 by omega,Nat.add_mul (k+1 - m) 1];show 1+_+(1+a.nodes+1)+1=_;omega
theorem Su(a:ReM)(m:Nat)(n:Int)(hmn:0≤n→(m:Int)≤n):(Ca a m n).nodes=FA a.nodes m n:=by
 unfold Ca FA;by_cases hn:n<0
 ·rw [if_pos hn,if_pos hn];by_cases hm:m=0
  ·rw [if_pos hm,if_pos hm];show 1+a.nodes=_;omega
  ·rw [if_neg hm,if_neg hm];have h:=Jv a m m (by omega);rw [Nat.min_self,Nat.sub_self,Nat.zero_mul,AcO]at h;show 1+((BS a m m).getD .eps).nodes+(1+a.nodes)=_;omega
 ·rw [if_neg hn,if_neg hn];by_cases h0:n=0
  ·rw [if_pos h0,if_pos h0];rfl
  ·rw [if_neg h0,if_neg h0];obtain⟨k,rfl⟩:=AbD (show 0≤n by omega);have hmk:m≤k:=by have:=hmn (by omega);omega
   have h:=Jv a m k (by omega);rw [Ac4];rw [show min k m=m by omega]at h;by_cases hm:m=0
   ·rw [if_pos hm];subst hm;have e1:k*(a.nodes+3)=k*(a.nodes+2)+k:=by rw [show a.nodes+3=a.nodes+2+1 by omega,AcO (k) (a.nodes+2) 1,Nat.mul_one]
    simp only [Nat.zero_mul,AcL,Nat.sub_zero]at h;omega
   ·rw [if_neg hm];rw [AcO,Nat.mul_one]at h;have:1≤m*a.nodes+m:=by omega
    omega
theorem W1(c m:Nat)(n:Int)(hmn:0≤n→(m:Int)≤n):min (FA (min c 2001) m n) 2001=min (FA c m n) 2001:=by
 by_cases hc:c≤2001
 ·rw [Nat.min_eq_left hc]
 ·have h1:FA 2001 m n≤FA c m n:=by
   unfold FA;split
   ·split
    ·omega
    ·have:=AbX m (show 2001≤c by omega);omega
   ·split
    ·omega
    ·split
     ·have:=AbX n.toNat (show 2001+2≤c+2 by omega);omega
     ·have h1:=AbX m (show 2001≤c by omega);have h2:=AbX (n.toNat - m) (show 2001+3≤c+3 by omega);omega
  have h2:n≠0→2001≤FA 2001 m n:=by
   intro hn;unfold FA;split
   ·split
    ·omega
    ·have:=Ac5 2001 (show 1≤m by omega);omega
   ·have hk:1≤n.toNat:=by omega
    split
    ·have:=Ac5 (2001+2) hk;omega
    ·have:=Ac5 2001 (show 1≤m by omega);have:=Nat.zero_le ((n.toNat - m)*(2001+3));omega
  rw [Nat.min_eq_right (show 2001≤c by omega)];by_cases hn:n=0
  ·subst hn;rfl
  ·have:=h2 hn;omega
theorem YA(a:ReM)(m:Nat)(n:Int)(hmn:0≤n→(m:Int)≤n):szR (Ca a m n)=min (FA (szR a) m n) 2001:=by
 unfold szR;rw [Su a m n hmn,W1 _ _ _ hmn]
theorem LT(op:ROp)(a b:ReM):szR (opR op a b)=min (1+szR a+szR b) 2001:=by unfold szR;rw [Oa];omega
theorem YF{c:Nat}{m n:Int}(hc:c≤2001)(h:SI m n)(H:Aa):BX Tryz.prog 135 #[.int .i64 (c:Int),.int .i64 m,.int .i64 n] H (.int .i64 ((FA c (AL m) n:Nat):Int)):=by
 refine Al.of_vc Tryz.func135 rfl (Tryz.call135 _) ?_;by_cases h2:m= -2
 ·have hn:n= -1:=by rcases h with h | h;exact h.2;omega
  subst h2 hn;(conv=>whnf);refine⟨?_,Agr.refl _ _⟩
  congr 1
  rw [w64 (x:=(c:Int)+1) (by omega) (by omega)];rw [w64 (x:=(c:Int)+1+(c:Int)) (by omega) (by omega)];rw [w64 (x:=(c:Int)+1+(c:Int)+1) (by omega) (by omega)];show _=((1*c+1+c+1:Nat):Int);omega
 ·obtain⟨hm0,hm1,hn0,hn1,hmn⟩:0≤m∧m≤255∧ -1≤n∧n≤255∧(0≤n→m≤n):=by rcases h with h | h;exact absurd h.1 h2;exact h
  obtain⟨k,rfl⟩:=AbD hm0;have hlow:AL (k:Int)=k:=by unfold AL;rw [if_neg h2];rfl
  have d1:((k:Int)== -2)=false:=beq_eq_false_iff_ne.2 h2;have hp:k*c≤255*2001:=AcF (by omega) hc;rw [hlow];unfold FA;(conv=>whnf);try rw [d1]
  (conv=>whnf);try (refine Av.run ?_)
  (conv=>whnf);by_cases hneg:n<0
  ·have d2:decide (n<0)=true:=decide_eq_true hneg;rw [if_pos hneg];rw [d2];by_cases hk:k=0
   ·subst hk;(conv=>whnf);refine⟨?_,Agr.refl _ _⟩
    congr 1
    rw [w64 (x:=(c:Int)+1) (by omega) (by omega)];rfl
   ·have d3:((k:Int)==0)=false:=beq_eq_false_iff_ne.2 (by omega);rw [if_neg hk];(conv=>whnf);try rw [d3]
    (conv=>whnf);try (refine Av.run ?_)
    (conv=>whnf);try rw [d2]
    (conv=>whnf);refine⟨?_,Agr.refl _ _⟩
    congr 1
    have ep:(k:Int)*(c:Int)=((k*c:Nat):Int):=(Ac8 k c).symm;rw [ep];generalize k*c=p at*;rw [w64 (x:=(p:Int)) (by omega) (by omega)];rw [w64 (x:=(p:Int)+k) (by omega) (by omega)];rw [w64 (x:=(p:Int)+k - 1) (by omega) (by omega)];rw [w64 (x:=(p:Int)+k - 1+1) (by omega) (by omega)];rw [w64 (x:=(p:Int)+k - 1+1+c) (by omega) (by omega)];rw [w64 (x:=(p:Int)+k - 1+1+c+1) (by omega) (by omega)];omega
  ·have d2:decide (n<0)=false:=decide_eq_false hneg;rw [if_neg hneg]
   try rw [d2]
   (conv=>whnf);try (refine Av.run ?_)
   (conv=>whnf);try rw [d2]
   (conv=>whnf);try (refine Av.run ?_)
   (conv=>whnf);obtain⟨j,rfl⟩:=AbD (show 0≤n by omega);have hq:j*(c+2)≤255*2003:=AcF (by omega) (by omega);have hr:(j - k)*(c+3)≤255*2004:=AcF (by omega) (by omega);rw [Ac4];by_cases h0:j=0
   ·subst h0;(conv=>whnf);exact⟨by rw [if_pos (show((0:Nat):Int)=0 from rfl)];rfl,Agr.refl _ _⟩
   ·have d3:((j:Int)==0)=false:=beq_eq_false_iff_ne.2 (by omega);rw [if_neg (show¬(j:Int)=0 by omega)]
    try rw [d3]
    (conv=>whnf);try (refine Av.run ?_)
    (conv=>whnf);by_cases hk:k=0
    ·subst hk;(conv=>whnf);refine⟨?_,Agr.refl _ _⟩
     congr 1
     rw [if_pos (show(0:Nat)=0 from rfl)];rw [w64 (x:=(c:Int)+2) (by omega) (by omega)];have ep:(j:Int)*((c:Int)+2)=((j*(c+2):Nat):Int):=by rw [Ac8];rfl
     rw [ep];have hj1:1≤j*(c+2):=Nat.le_trans (by omega) (AcF (show 1≤j by omega) (show 2≤c+2 by omega));generalize j*(c+2)=p at*;rw [w64 (x:=(p:Int)) (by omega) (by omega)];rw [w64 (x:=(p:Int)+j) (by omega) (by omega)];rw [w64 (x:=(p:Int)+j - 1) (by omega) (by omega)];omega
    ·have d4:((k:Int)==0)=false:=beq_eq_false_iff_ne.2 (by omega);rw [if_neg hk]
     try rw [d4]
     (conv=>whnf);refine⟨?_,Agr.refl _ _⟩
     congr 1
     rw [w64 (x:=(c:Int)+2) (by omega) (by omega)];rw [w64 (x:=(c:Int)+2+1) (by omega) (by omega)];rw [w64 (x:=(j:Int) - (k:Int)) (by omega) (by omega)];have ep:(k:Int)*(c:Int)=((k*c:Nat):Int):=(Ac8 k c).symm;have eq:((j:Int) - (k:Int))*((c:Int)+2+1)=(((j - k)*(c+3):Nat):Int):=by
      rw [Ac8,show((j - k:Nat):Int)=(j:Int) - k by have:=hmn (by omega);omega,show(c:Int)+2+1=((c+3:Nat):Int) by omega]
     rw [ep,eq];have hmn':=hmn (by omega);generalize k*c=p at*;generalize (j - k)*(c+3)=r at*;rw [w64 (x:=(p:Int)) (by omega) (by omega)];rw [w64 (x:=(p:Int)+k) (by omega) (by omega)];rw [w64 (x:=(p:Int)+k - 1) (by omega) (by omega)];rw [w64 (x:=(r:Int)) (by omega) (by omega)];rw [w64 (x:=(p:Int)+k - 1+r) (by omega) (by omega)];omega
end Go.Proofs.YtfbghcpdinlmcaaGreatDoor
