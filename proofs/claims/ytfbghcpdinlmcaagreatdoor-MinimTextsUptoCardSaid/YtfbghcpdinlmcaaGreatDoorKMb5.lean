import Derived.Test.YtfbghcpdinlmcaaGreatDoorKMb4
set_option maxHeartbeats 0
open BitVec renaming allOnes → Ak8
open Int renaming ofNat → AlJ
open List renaming range → AjN, replicate → AkK, length → Al0
open Nat renaming cast → AlE
open Option renaming some → AjW
set_option maxRecDepth 100000
open Go.Proofs.Tryz
open Go renaming Value → v_, TypeId → x_, Program → w_
namespace Go.Proofs.YtfbghcpdinlmcaaGreatDoor
open Go.VC
def Ck(cv:v_)(cell:List Nat)(nv fv av:v_):List v_:=
 cv::(cell.map (fun n:Nat=>Value.int .u8 (n:Int))++AkK (256-cell.length) (.int .u8 0))++[nv,fv,av]
section
variable{cv nv fv av x:v_}{cell:List Nat}
theorem JH(h:cell.length≤256):(Ck cv cell nv fv av).length=260:=by simp[Ck];omega
theorem MK:(Ck cv cell nv fv av)[0]?=some cv:=by simp[Ck]
theorem Uf:(Ck cv cell nv fv av).set 0 x=Ck x cell nv fv av:=by simp[Ck]
theorem L5(h:cell.length≤256)(j:Nat):(Ck cv cell nv fv av)[257+j]?=[nv,fv,av][j]? :=by
 unfold Ck;rw[YcY,show 257+j=(256+j)+1 by omega,Yba,YaE (by simp;omega)]
 congr 1
 simp;omega
theorem Ga(h:cell.length≤256):(Ck cv cell nv fv av)[257]?=some nv:=L5 h 0
theorem L3(h:cell.length≤256):(Ck cv cell nv fv av)[258]?=some fv:=L5 h 1
theorem L4(h:cell.length≤256):(Ck cv cell nv fv av)[259]?=some av:=L5 h 2
theorem ND(h:cell.length≤256)(j:Nat):(Ck cv cell nv fv av).set (257+j) x=cv::(cell.map (fun n:Nat=>Value.int .u8 (n:Int))++AkK (256-cell.length) (.int .u8 0))++[nv,fv,av].set j x:=by
 unfold Ck;rw[YcY,show 257+j=(256+j)+1 by omega,Ycu,Ycf (h:=by simp;omega)];have e:256+j-(List.map (fun n:Nat=>Value.int .u8 (n:Int)) cell++AkK (256-cell.length) (Value.int .u8 0)).length=j:=by simp;omega
 rw[e];rfl
theorem QG(h:cell.length≤256):(Ck cv cell nv fv av).set 257 x=Ck cv cell x fv av:=ND h 0
theorem QH(h:cell.length≤256):(Ck cv cell nv fv av).set 259 x=Ck cv cell nv fv x:=ND h 2
theorem Ue(h:cell.length<256)(p:Nat):(Ck cv cell nv fv av).set (1+cell.length) (.int .u8 (p:Int))=Ck cv (cell++[p]) nv fv av:=by
 unfold Ck;rw[YcY,show 1+cell.length=cell.length+1 by omega,Ycu,YaN,Ycf (h:=by simp)];have e:cell.length-(List.map (fun n:Nat=>Value.int .u8 (n:Int)) cell).length=0:=by simp
 rw[e,show 256-cell.length=(256-(cell.length+1))+1 by omega,List.replicate_succ];simp
end
def Gu(cols:List Nat)(row:List Int):List Int:=cols.map fun c=>row.getD c 0
theorem AdK(pb:Nat)(fv av:v_)(ca na:Option Addr)(cc nc:Nat)(cells:List (BitVec 256))(next:List (List Int))(fl:Nat)(S:Nat→Prop)(H:Aa)(hS:∀k,S k→k<H.size∧k≠pb)
  (hb:Q_ H pb 109 (Ck (.slice none 0 0) [] (.slice none 0 0) fv av)) (hc:g_ Cp S H ca cc cells) (hn:g_ J9 S H na nc next) (hs:Bk cells next fl=true):
  Ak prog 116 #[U_ pb,.slice ca cells.length cc,.slice na next.length nc] H fun v H'=>
   let st:=Bj next cells (fun b=>AC b b) 256
   C_ (fun k=>k<H.size∧k≠pb) H H'∧H.size≤H'.size∧∃ac L an bp,Q_ H' pb 109 (Ck (.slice ac st.sets.length L) st.cell (.slice an next.length bp) fv av)∧
    g_ Cp (fun k=>H.size≤k∧k<H'.size) H' ac L st.sets∧g_ J9 (fun k=>H.size≤k∧k<H'.size) H' an bp (next.map (Gu st.cols)):=by
 have lc:=hc.le;have ln:=hn.le;unfold maxLen at lc ln;have⟨n1,n2,n3,ai⟩:=E1 hs;refine Ak.of_vc func116 rfl (call116 _) ?_;have ey:=hb.lt;generalize df:(fun b=>AC b b)=sp;have aj:∀b,b<256→Ba cells b<cells.length:=fun b hb=>(BK hs hb).1;refine D3 EY rfl (by omega) (by omega) (by omega) (by omega) ?_;intro nb H1 ez f0 bg cq;refine fa GK ?_;refine st1 M9 (hb.agr cq (show pb<nb by omega)) (by rw[JH (by simp)];omega) rfl ?_;intro H2 cr ct f1;rw[K_,QG (by simp)]at cr;replace bg:=bg.agr ct (show nb≠pb by omega);rw[U']at bg;have dg:C_ (fun k=>k<H.size∧k≠pb) H H2:=(cq.mono fun k a=>by omega).trans (ct.mono fun k a=>a.2);(conv=>whnf);refine A0.mk [6,22] (fun x:Nat×v_=>[x.2,A_ x.1]) (fun x H3=>x.1≤256∧C_ (fun k=>k<H.size∧k≠pb) H H3∧H2.size≤H3.size∧
  l_ tI (fun _=>False) H3 (nb+1) 3 x.2 ((Bj next cells sp x.1).cols.map AlE)∧Q_ H3 nb 41 (AkK next.length (.slice none 0 0))∧
  ∃cv,l_ Cp (fun _=>False) H3 (nb+1) 101 cv (Bj next cells sp x.1).sets∧(∀k,a_ x.2 k→¬a_ cv k)∧
   Q_ H3 pb 109 (Ck cv (Bj next cells sp x.1).cell (.slice (T_ nb) next.length next.length) fv av)) (fun x _=>256-x.1) ?_ ?_
 ·(conv=>whnf);exact⟨(0,_),rfl,by omega,dg,I_ _,l_.nil,bg,_,l_.nil,(by rintro k ⟨o,n,c,h⟩;cases h),cr⟩
 ·rintro⟨b,v6⟩ H3 ec ⟨c4,bh,dh,d,a6,cv,A,a7,ae⟩;dsimp only at c4 d A a7 ae;obtain⟨ac,L,rfl,-,-⟩:=d.view (S':=fun k=>a_ v6 k) (fun k a=>a) (fun k a=>a.elim);refine AG.m2 (fun h=>?_) (fun h=>?_)
  ·have s:=FS (next:=next) (sp:=sp) aj b (by omega);generalize cu:Bj next cells sp b=st at*
   have⟨cw,c5⟩:=BK hs (b:=b) (by omega);(conv=>whnf);refine A0.mk [8] (fun f:Nat=>[A_ f]) (fun f H4=>C_ (H_ H3) H3 H4∧f≤Ba cells b) (fun f _=>cells.length-f) ?_ ?_
   ·(conv=>whnf);exact⟨0,rfl,C_.refl _ _,by omega⟩
   ·rintro f H4 c6 ⟨V,hf⟩;have bi:C_ (fun k=>k<H.size∧k≠pb) H H4:=bh.trans (V.mono fun k a=>by unfold H_;omega);have⟨c,c7⟩:=Ac (l:=cells) (k:=f) (by omega);refine ixr C0 (hc.frame (bi.mono fun k a=>hS k a)) c7 rfl ?_;rintro b' o cs f2 bj rfl;refine lN (cs:=Ad c) AT bj ?_;(conv=>whnf);rw[w8 (x:=(b:Int)) (by omega) (by omega)];refine Ah (SM c b (by omega) H4) ?_;intro H5 ag;have ed:=Bv V;have W:C_ (H_ H3) H3 H5:=V.trans (ag.mono fun k a=>by unfold H_ at*;omega);by_cases br:f=Ba cells b
    ·have ak:c.getLsbD b=true:=c5 c (br ▸ c7);rw[ak];(conv=>whnf);subst br;generalize di:Ba cells b=fr at*;have D:=d.agr W (fun k a=>(d.lt a).2) (fun k a=>a.elim);have ee:=Bv W;refine An.cut [9] (fun pl:Option Nat=>[A_ (match pl with | none=> -1 | some i=>(i:Int))]) (fun pl H6=>pl=Lc next st.cols fr∧C_ (H_ H5) H5 H6) ?_ ?_
     ·have⟨f3,dj,he,a1,cx⟩:=D.view (S':=H_ H5) (fun k a=>(D.lt a).2) (fun k a=>a.elim);cases he;have cy:∀row∈next,row.length=cells.length:=fun row hr=>(ai row hr).1
      (conv=>whnf);refine A0.mk [9,37] (fun k:Nat=>[A_ (-1),A_ k]) (fun k H6=>C_ (H_ H5) H5 H6∧k≤st.cols.length∧(st.cols.take k).findIdx? (fun c=>EO next c fr)=none) (fun k _=>st.cols.length-k) ?_ ?_
      ·(conv=>whnf);exact⟨0,rfl,C_.refl _ _,by omega,rfl⟩
      ·rintro k H6 am ⟨B,a,P⟩;have dk:=s.le;(conv=>whnf);rw[Z_];refine AG.m2 (fun h=>?_) (fun h=>?_)
       ·have⟨c0,F⟩:=Ac (l:=st.cols) (k:=k) (by omega);have bu:=s.cols c0 (c_ F);refine IB (x:=(c0:Int)) AU (a1.frame B) (by simp) (by simp[F]) rfl ?_;rintro b2 o2 dl cz G ⟨rfl,-⟩;refine lT E_ G.one ?_;have dm:g_ J9 S H6 na nc next:=hn.frame ((bh.trans ((W.trans (B.mono fun k a=>by unfold H_ at*;omega)).mono fun k a=>by unfold H_;omega)).mono fun k a=>hS k a)
        refine Ah (AbP na nc c0 fr cells.length next S H6 dm cy bu cw (by omega)) ?_;intro H7 X;have ef:=Bv B;have bv:C_ (H_ H5) H5 H7:=B.trans (X.mono fun k a=>by unfold H_ at*;omega);refine AG.mk (fun h7=>?_) (fun h7=>?_)
        ·(conv=>whnf);refine⟨rfl,some k,rfl,?_,bv⟩;unfold Lc;rw[←YcC k st.cols,YcZ,P];have:st.cols.drop k=c0::st.cols.drop (k+1):=by
          rw[O_]at F;have⟨h1,h2⟩:=F;rw[List.drop_eq_getElem_cons h1,h2]
         rw[this,YcQ,h7];simp;omega
        ·(conv=>whnf);rw[P_ k (by omega)];refine⟨rfl,k+1,by simp,⟨bv,by omega,?_⟩,by omega⟩;rw[Af F,YcZ,P];simp[h7]
       ·(conv=>whnf);refine⟨rfl,none,rfl,?_,B⟩;have:k=st.cols.length:=by omega
        subst this;rw[Yc0]at P;exact P.symm
     ·rintro pl H6 am ⟨d0,B⟩;have M:C_ (H_ H3) H3 H6:=W.trans (B.mono fun k a=>by unfold H_ at*;omega);have eg:=Bv M;have E:=d.agr M (fun k a=>(d.lt a).2) (fun k a=>a.elim);have y:=A.agr M (fun k a=>(A.lt a).2) (fun k a=>a.elim);have ao:=a6.agr M a6.lt;have ap:=ae.agr M ae.lt;have d1:C_ (fun k=>k<H.size∧k≠pb) H H6:=bh.trans (M.mono fun k a=>by unfold H_;omega);have d2:st.cell.length≤256:=by rw[s.cell];omega
      (conv=>whnf);refine An.cut [6,9] (fun x:v_×Nat=>[x.1,A_ x.2]) (fun x H7=>C_ (fun k=>k<H.size∧k≠pb) H H7∧H2.size≤H7.size∧x.2=(Hg next st.cols st.sets fr).2.2∧
       l_ tI (fun _=>False) H7 (nb+1) 3 x.1 ((Hg next st.cols st.sets fr).1.map AlE)∧Q_ H7 nb 41 (AkK next.length (.slice none 0 0))∧
       ∃cv,l_ Cp (fun _=>False) H7 (nb+1) 101 cv (Hg next st.cols st.sets fr).2.1∧(∀k,a_ x.1 k→¬a_ cv k)∧
        Q_ H7 pb 109 (Ck cv st.cell (.slice (T_ nb) next.length next.length) fv av)) ?_ ?_
      ·cases hf:Lc next st.cols fr with
       | some i=>
         rw[d0,hf];have hm:Hg next st.cols st.sets fr=(st.cols,st.sets,i):=by unfold Hg;rw[hf]
         rw[hm];(conv=>whnf);exact⟨rfl,(_,i),rfl,d1,by omega,rfl,E,ao,cv,y,a7,ap⟩
       | none=>
         rw[d0,hf];have hm:Hg next st.cols st.sets fr=(st.cols++[fr],st.sets++[0#256],st.cols.length):=by unfold Hg;rw[hf]
         rw[hm];(conv=>whnf);rw[Z_];refine Ay AU [A_ fr] rfl rfl (by decide) (by decide) ?_;intro q H7 hq d3 bm X;have dk:=s.le;have g:=E.agr X (fun k a=>by have:=(E.lt a).2;omega) (fun k a=>a.elim);refine Di (T:=tI) (S:=fun _=>False) (ys:=[(fr:Int)]) (ds:=[A_ fr]) (lo:=nb+1) (xs:=st.cols.map AlE) AU (by simpa using g) (by omega) (fun k a=>a.elim)
          (bm.cells (fun j v hv=>by simpa using hv)) (Ty.reps_one ⟨rfl,BX (by omega)⟩) rfl (by intro u hu;cases Y_.1 hu;rfl) (by simp only[maxLen,Z_,h_];omega) (by simp only[Z_,h_];omega) ?_
         intro v8 H8 Q K d4 aq;have R:∀k,k<H6.size→¬a_ (.slice ac (st.cols.map (AlE:Nat→Int)).length L) k→H8[k]?=H6[k]? :=fun k h1 h2=>by
          rw[K k ⟨by omega,by simpa using h2⟩,X k (by omega)]
         have a8:l_ Cp (fun _=>False) H8 (nb+1) 101 cv st.sets:=y.agr (S':=fun k=>k<H6.size∧¬a_ (.slice ac (st.cols.map (AlE:Nat→Int)).length L) k) (fun k a=>R k a.1 a.2)
          (fun k a=>⟨(y.lt a).2,fun h=>a7 k h a⟩) (fun k a=>a.elim)
         have ar:∀k,k≤nb→¬a_ (.slice ac (st.cols.map (AlE:Nat→Int)).length L) k:=fun k a h=>by have:=(E.lt h).1;omega
         have bw:=ao.eq (R nb ao.lt (ar nb (by omega)));have I:=ap.eq (R pb ap.lt (ar pb (by omega)));refine fa KT ?_;refine G_ (v:=cv) S5 (by rw[I.cell];exact MK) trivial ?_;refine Cz Ch (Bt 0) rfl (Ad 0) rfl (Ay C0 (Ad 0) rfl rfl (by decide) (by decide) ?_);intro q2 H9 f4 f5 dn U;have eh:=I.lt;have dp:=bw.lt;refine Di (T:=Cp) (S:=fun _=>False) (ys:=[0#256]) (ds:=Ad 0) (lo:=nb+1) (xs:=st.sets) C0 (a8.agr U (fun k a=>by have:=(a8.lt a).2;omega) (fun k a=>a.elim)) (by omega) (fun k a=>a.elim)
          (dn.cells (fun j v hv=>by simpa using hv)) (Ty.reps_one rfl) rfl (by intro u hu;simp only[Ad,YaP,List.not_mem_nil,or_false]at hu;rcases hu with rfl | rfl | rfl | rfl<;>rfl)
          (by have:=s.len;simp only[maxLen,h_];omega) (by have:=s.len;simp only[h_];omega) ?_
         intro v9 H10 J N ei ah;have au:∀k,k≤nb→¬a_ cv k:=fun k a h=>by have:=(y.lt h).1;omega
         have d5:=(I.agr U (by omega)).agr N ⟨by omega,au pb (by omega)⟩;refine fa KT ?_;refine st1 S5 d5 (by rw[JH d2];omega) J.one ?_;intro H11 Y z d6;(conv=>whnf);have m:∀k,a_ v8 k→k<H8.size∧nb+1≤k:=fun k a=>⟨(Q.lt a).2,(Q.lt a).1⟩;have aw:∀k,a_ v8 k→¬a_ cv k:=fun k a hc=>by
          rcases aq k a with h | h
          ·exact a7 k (by simpa using h) hc
          ·have:=(y.lt hc).2;omega
         have ax:=(Q.agr U (fun k a=>by have:=m k a;omega) (fun k a=>a.elim)).agr N (fun k a=>⟨by have:=m k a;omega,aw k a⟩) (fun k a=>a.elim);have c8:=(bw.agr U (by omega)).agr N ⟨by omega,au nb (by omega)⟩;refine⟨rfl,(v8,st.cols.length),rfl,?_,by omega,rfl,?_,c8.agr z (by omega),v9,J.agr z (fun k a=>by have:=(J.lt a).1;omega) (fun k a=>a.elim),?_,?_⟩
         ·intro k a;rw[z k a.2,N k ⟨by omega,au k (by omega)⟩,U k (by omega),R k (by omega) (ar k (by omega)),d1 k a]
         ·have:=ax.agr z (fun k a=>by have:=m k a;omega) (fun k a=>a.elim);simpa using this
         ·intro k a dq;rcases ah k dq with h | h
          ·exact aw k a h
          ·have:=m k a;omega
         ·rw[Nat.add_zero,Uf]at Y;exact Y
      ·rintro⟨v7,p⟩ H7 dr ⟨dt,d3,hp,g,a9,f6,ab,a2,bm⟩;dsimp only at hp g a2;have bx:=Rv (next:=next) s.len s.le s.cols cw;have du:Bj next cells sp (b+1)=Oj next cells st b (sp b):=by rw[←cu];rfl
       generalize hr:Hg next st.cols st.sets fr=r at*
       have⟨c9,t,p'⟩:=r;dsimp only at hp g ab bx;subst hp;have⟨f7,f8,f9,fe,ff⟩:=bx;have ay:Bj next cells sp (b+1)=⟨c9,t.set p (t.getD p 0#256 ||| sp b),st.cell++[p]⟩:=by
        rw[du];unfold Oj;rw[di,hr]
       obtain⟨bq,az,lq,fg,rfl,ej,a3,cd,ce,de,cg⟩:=ab.place (i:=p) (by omega);have ek:=bm.lt;refine fa VR (M' Af0 (by omega) (by omega) ?_);rw[w8 (x:=(p:Int)) (by omega) (by omega)];refine st1 ct5 bm (by rw[JH d2];omega) rfl ?_;intro H8 I K d4;rw[show 0+1+(b:Int).toNat*1=1+st.cell.length by rw[s.cell];omega,Ue (by rw[s.cell];omega)]at I;(conv=>whnf);refine Aq.held (H_ H8) 19 (sq [0,1,2,3,4,5,6,7,8,9,10,11,12,13,14,15] (.f 16 (.f 17 (sq [18] (.f 19 .e))))) rfl (by kernel_rfl) (fa KT ?_);refine G_ (v:=.slice (T_ bq) t.length az) S5 (by rw[I.cell];exact MK) (show pb<H8.size by omega) ?_;refine fa KT ?_;refine G_ (v:=.slice (T_ bq) t.length az) S5 (by rw[I.cell];exact MK) (show pb<H8.size by omega) ?_;refine ix C0 (by omega) (by omega) ?_;have⟨x0,b0⟩:=Ac (l:=t) (k:=p) (by omega);obtain⟨c0,F,rfl⟩:=ce x0 b0;have b5:bq≠pb:=by omega
       refine L_ (cs:=Ad x0) AT (by rw[K_,U'];exact F.eq (K bq b5)) (show bq<H8.size by have:=a3.lt;omega) ?_;(conv=>whnf);rw[w8 (x:=(b:Int)) (by omega) (by omega)];refine Ah (F5 b b (by omega) (by omega) H8) ?_;intro H9 U;refine⟨U,?_⟩;refine Ah (FY x0 (AC b b) H9) ?_;intro H10 N;have el:=Bv U;have w:C_ (H_ H8) H8 H10:=U.trans (N.mono fun k a=>by unfold H_ at*;omega);refine⟨w,?_⟩;refine ix C0 (by omega) (by omega) ?_;have dv:=Bv w;have bn:=(a3.agr K b5).agr w (show bq<H8.size by have:=a3.lt;omega);refine stN rfl bn (by rw[K_,U'];exact cd) rfl ?_;intro H11 Y z d6;(conv=>whnf);rw[P_ b (by omega)];have bz:∀k,a_ v7 k→nb+1≤k∧k<H7.size:=fun k a=>g.lt a;have b6:=((g.agr K (fun k a=>by have:=bz k a;omega) (fun k a=>a.elim)).agr w (fun k a=>by have:=bz k a;unfold H_;omega) (fun k a=>a.elim)).agr z
        (fun k a dw=>by subst dw;exact a2 _ a ⟨0,_,_,rfl⟩) (fun k a=>a.elim)
       have ch:=(((a9.agr K (show nb≠pb by omega)).agr w (show nb<H8.size by have:=a9.lt;omega)).agr z (show nb≠bq by omega));have cj:=(I.agr w (show pb<H8.size by omega)).agr z (show pb≠bq from Ne.symm b5);refine⟨rfl,(b+1,v7),by simp,⟨by omega,?_,by omega,?_,ch,.slice (T_ bq) t.length az,?_,a2,?_⟩,by omega⟩
       ·intro k a;rw[z k (by omega),w k (by unfold H_;omega),K k a.2,dt k a]
       ·rw[ay];exact b6
       ·rw[ay];have hg:t.getD p 0#256=x0:=by rw[YaD,b0];rfl
        rw[hg,←df];rw[K_,U']at Y;have:=cg H11 (Ad (x0 ||| AC b b)) (x0 ||| AC b b) Y (fun k a=>a.elim) rfl;exact this
       ·rw[ay];exact cj
    ·have ak:c.getLsbD b=false:=Pe (by omega) c7;rw[ak];(conv=>whnf);rw[P_ f (by omega)];exact⟨rfl,f+1,by simp,⟨W,by omega⟩,by omega⟩
  ·have dx:b=256:=by omega
   subst dx;have s:=FS (next:=next) (sp:=sp) aj 256 (by omega);generalize cu:Bj next cells sp 256=st at*
   have en:=s.le;have eo:=s.len;(conv=>whnf);refine A0.mk [95] (fun q:Nat=>[A_ q]) (fun q H4=>q≤next.length∧C_ (fun k=>k<H3.size∧k≠nb) H3 H4∧H3.size≤H4.size∧∃vs:List v_,vs.length=next.length∧Q_ H4 nb 41 vs∧
    (∀i,q≤i→i<next.length→vs[i]?=some (.slice none 0 0))∧∀i v row,i<q→vs[i]?=some v→next[i]?=some row→l_ tI (fun _=>False) H4 H3.size 3 v (Gu st.cols row)) (fun q _=>next.length-q) ?_ ?_
   ·(conv=>whnf);refine⟨0,rfl,by omega,C_.refl _ _,I_ _,_,by simp,a6,fun i _ hi=>by simp[hi],fun i v row hi=>by omega⟩
   ·rintro q H4 c6 ⟨hq,V,fh,vs,d7,c1,c2,b7⟩;have ep:=a6.lt;have c3:=ae.lt;have bi:C_ (fun k=>k<H.size∧k≠pb) H H4:=bh.trans (V.mono fun k a=>by omega);refine AG.m2 (fun h=>?_) (fun h=>?_)
    ·have⟨row,O⟩:=Ac (l:=next) (k:=q) (by omega);have⟨cy,fj⟩:=ai row (c_ O);have dy:=hn.frame (bi.mono fun k a=>hS k a);refine ixr EY dy O rfl ?_;rintro b2 o2 dl cz G ⟨ra,rc,rfl,hr⟩;refine lT FK G.one ?_;(conv=>whnf);rw[Z_];refine A0.mk [102] (fun j:Nat=>[A_ j]) (fun j H5=>j≤st.cols.length∧C_ (fun k=>k<H4.size∧k≠nb) H4 H5∧H4.size≤H5.size∧∃Z,Q_ H5 nb 41 (vs.set q Z)∧
      l_ tI (fun _=>False) H5 H4.size 3 Z (Gu (st.cols.take j) row)) (fun j _=>st.cols.length-j) ?_ ?_
     ·(conv=>whnf);refine⟨0,rfl,by omega,C_.refl _ _,I_ _,.slice none 0 0,?_,l_.nil⟩;have:vs.set q (.slice none 0 0)=vs:=by
       have h1:=c2 q (I_ _) (by omega);rw[O_]at h1;have⟨h2,h3⟩:=h1;rw[←h3];exact List.set_getElem_self h2
      rw[this];exact c1
     ·rintro j H5 am ⟨hj,ag,fk,Z,b8,C⟩;have b9:C_ (fun k=>k<H3.size∧k≠nb) H3 H5:=V.trans (ag.mono fun k a=>by omega);have dz:=ae.agr b9 ⟨c3,by omega⟩;have D:=d.agr b9 (fun k a=>by have:=d.lt a;omega) (fun k a=>a.elim);have⟨fm,e0,e3,a1,cx⟩:=D.view (S':=fun k=>k<H3.size) (fun k a=>(d.lt a).2) (fun k a=>a.elim);cases e3;refine AG.m2 (fun h=>?_) (fun h=>?_)
      ·have⟨c0,F⟩:=Ac (l:=st.cols) (k:=j) (by omega);have bu:=s.cols c0 (c_ F);refine IB (x:=(c0:Int)) AU a1 (by simp) (by simp[F]) rfl ?_;rintro b3 o3 fo eu bd ⟨rfl,-⟩;refine lT E_ bd.one ?_;obtain⟨e4,ck,rfl,-,-⟩:=C.view (S':=fun k=>a_ Z k) (fun k a=>a) (fun k a=>a.elim);(conv=>whnf);refine Aq.held (fun k=>k<H4.size) 19 (sq [0,1,2,3,4,5,6,7,8,9,10,11,12,13,14,15] (.f 16 (.f 17 (sq [18] (.f 19 .e))))) rfl (by kernel_rfl) ?_;have cm:cell H5 nb (0+(q:Int).toNat*1)=some (.slice e4 (Gu (st.cols.take j) row).length ck):=by
        rw[b8.cell,show 0+(q:Int).toNat*1=q by omega,YaA (by omega)]
       have e5:=hr.frame (ag.mono fun k a=>by have:=hS k a;omega);have be:cell H5 pb (0+257)=some (.slice (T_ nb) next.length next.length):=by
        rw[dz.cell,K_];exact Ga (by rw[s.cell];omega)
       refine fa GK (G_ M9 be (show pb<H4.size by omega) (fa GK (G_ M9 be (show pb<H4.size by omega) (ix EY (by omega) (by omega) (G_ FK cm (show nb<H4.size by omega) ?_)))));have⟨x0,b0⟩:=Ac (l:=row) (k:=c0) (by omega);refine ixr AU e5 b0 rfl ?_;rintro b4 o4 fp d8 bf ⟨rfl,d9⟩;refine G_ E_ bf.one (show b4<H4.size by have:=hS b4 d8;omega) ?_;refine Ay AU [A_ x0] rfl rfl (by decide) (by decide) ?_;intro q6 H6 fq fu ap B;refine⟨B.mono fun k a=>by omega,?_⟩;have co:=C.agr B (fun k a=>by have:=(C.lt a).2;omega) (fun k a=>a.elim);have ev:(Gu (st.cols.take j) row).length≤256:=by simp[Gu];omega
       refine Di (T:=tI) (S:=fun _=>False) (ys:=[x0]) (ds:=[A_ x0]) (lo:=H4.size) (xs:=Gu (st.cols.take j) row) AU co (by omega) (fun k a=>a.elim)
         (ap.cells (fun j v hv=>by simpa using hv)) (Ty.reps_one ⟨rfl,d9⟩) rfl (by intro u hu;cases Y_.1 hu;rfl) (by simp only[maxLen,h_];omega) (by simp only[h_];omega) ?_
       intro v7 H7 a4 X d3 da;refine⟨fun k a=>?_,?_⟩
       ·rw[X k ⟨by omega,fun h=>by have:=(C.lt h).1;omega⟩,B k (by omega)]
       have a9:=(b8.agr B (by omega)).agr X ⟨by omega,fun h=>by have:=(C.lt h).1;omega⟩;refine ix EY (by omega) (by omega) ?_;refine st1 FK a9 (by simp;omega) a4.one ?_;intro H8 I K d4;(conv=>whnf);rw[P_ j (by omega)];refine⟨rfl,j+1,by simp,⟨by omega,?_,by omega,v7,?_,?_⟩,by omega⟩
       ·intro k a;rw[K k a.2,X k ⟨by omega,fun h=>by have:=(C.lt h).1;omega⟩,B k (by omega),ag k a]
       ·rw[show 0+(q:Int).toNat*1=q by omega,List.set_set]at I;exact I
       ·have:=a4.agr K (fun k a=>by have:=(a4.lt a).1;omega) (fun k a=>a.elim);have e1:Gu (st.cols.take (j+1)) row=Gu (st.cols.take j) row++[x0]:=by
         unfold Gu;rw[Af F,YcB];simp[b0]
        rw[e1];exact this
      ·have e6:j=st.cols.length:=by omega
       subst e6;rw[Yc0]at C;(conv=>whnf);rw[P_ q (by omega)];refine⟨rfl,q+1,by simp,⟨by omega,b9,by omega,vs.set q Z,by simp[d7],b8,?_,?_⟩,by omega⟩
       ·intro i h1 h2;rw[YaC (by omega)];exact c2 i (by omega) h2
       ·intro i v db hi hv a5;by_cases e7:i=q
        ·subst e7;rw[YaA (by omega)]at hv;rw[O]at a5;cases hv;cases a5;exact C.lower (by omega)
        ·rw[YaC (by omega)]at hv;have hd:=b7 i v db (by omega) hv a5;exact hd.agr ag (fun k a=>by have:=hd.lt a;omega) (fun k a=>a.elim)
    ·have e8:q=next.length:=by omega
     subst e8;(conv=>whnf);have ew:H2.size≤H3.size:=dh;obtain⟨e9,cp,ea,bo,-⟩:=(A.agr V (fun k a=>by have:=A.lt a;omega) (fun k a=>a.elim)).view (S':=fun k=>H.size≤k∧k<H4.size)
      (fun k a=>by have:=A.lt a;omega) (fun k a=>a.elim)
     subst ea;refine⟨bi,by omega,e9,cp,some ⟨nb,0,none⟩,next.length,ae.agr V ⟨c3,by omega⟩,bo,g_.intro (show H.size≤nb∧nb<H4.size by omega) (by simp) (by simp[maxLen];omega) (c1.cells (cs:=vs) (fun j v hv=>by simpa using hv)) ?_⟩;refine DJ (by simp[d7]) fun i v x hv hx=>?_;rw[o_]at hx;obtain⟨row,O,rfl⟩:=Option.map_eq_some_iff.1 hx;have hd:=b7 i v row (O_.1 O).1 hv O;obtain⟨a0,dc,rfl,eb,-⟩:=hd.view (S':=fun k=>H.size≤k∧k<H4.size) (fun k a=>by have:=hd.lt a;omega) (fun k a=>a.elim);exact⟨a0,dc,rfl,eb⟩
inductive E5(rows:List (List Int))(fin:List Bool):Nat→Prop
 | fin {q:Nat}:fin[q]?=some true→E5 rows fin q
 | step {q t:Nat} {row:List Int}:rows[q]?=some row→(t:Int)∈row→E5 rows fin t→E5 rows fin q
def N1(rows:List (List Int))(q j t:Nat)(p:Int):Prop:=∃(q':Nat) (row:List Int),p=(q':Int)∧rows[q']?=some row∧(q'<q∧(t:Int)∈row∨q'=q∧(t:Int)∈row.take j)
def nF(al:List Bool):Nat:=al.count false
theorem UN{al:List Bool}{p:Nat}(h:al[p]?=some false):nF (al.set p true)+1=nF al:=by
 unfold nF
 induction al generalizing p with
 | nil=>simp at h
 | cons a al b=>
   cases p with
   | zero=>simp at h;subst h;simp[Ydl]
   | succ p=>simp at h;simp only[Ycu,Ydl];have:=b h;omega
structure WI(rows:List (List Int))(final:List Bool)(bk:List (List Int))(al:List Bool)(td:List Int)(ex:Option (Nat×Nat)):Prop where
 len:al.length=rows.length
 sound:∀q:Nat,al[q]?=some true→E5 rows final q
 fin:∀q:Nat,final[q]?=some true→al[q]?=some true
 tdok:∀x∈td,∃q:Nat,x=(q:Int)∧al[q]?=some true
 cnt:td.length+nF al≤rows.length
 closed:∀(q:Nat) (x:List Int),al[q]?=some true→bk[q]?=some x→(q:Int)∈td∨(∀p∈x,al[p.toNat]?=some true)∨∃j,ex=some (q,j)∧∀p∈x.take j,al[p.toNat]?=some true
def AfQ(rows:List (List Int))(bk:List (List Int)):Prop:=bk.length=rows.length∧∀(t:Nat) (x:List Int),bk[t]?=some x→∀p,p∈x↔∃(q':Nat) (row:List Int),p=(q':Int)∧rows[q']?=some row∧(t:Int)∈row
section
variable{rows:List (List Int)}{final:List Bool}{bk:List (List Int)}{al:List Bool}{td:List Int}
theorem WI.pop{q:Nat}(h:WI rows final bk al (td++[(q:Int)]) none):WI rows final bk al td (some (q,0)):=by
 refine⟨h.len,h.sound,h.fin,fun x b=>h.tdok x (YbV _ b),by have:=h.cnt;simp at this;omega,fun d x c b=>?_⟩;rcases h.closed d x c b with a | a | ⟨j,a,_⟩
 ·rcases q_.1 a with a | a
  ·exact .inl a
  ·rw[Y_]at a;have:d=q:=by omega
   subst this;exact .inr (.inr ⟨0,rfl,by simp⟩)
 ·exact .inr (.inl a)
 ·cases a
theorem WI.skip{q j e:Nat}{x:List Int}(h:WI rows final bk al td (some (q,j)))(f:bk[q]?=some x)(g:x[j]?=some (e:Int))(i:al[e]?=some true):WI rows final bk al td (some (q,j+1)):=by
 refine⟨h.len,h.sound,h.fin,h.tdok,h.cnt,fun k l d b=>?_⟩;rcases h.closed k l d b with c | c | ⟨n,c,m⟩
 ·exact .inl c
 ·exact .inr (.inl c)
 ·cases c;rw[f]at b;cases b;refine .inr (.inr ⟨j+1,rfl,fun p a=>?_⟩);rw[Af g,q_,Y_]at a;rcases a with a | rfl
  ·exact m p a
  ·simpa using i
theorem WI.mark{q j b:Nat}{x:List Int}(r:AfQ rows bk)(h:WI rows final bk al td (some (q,j)))(w:al[q]?=some true)(t:bk[q]?=some x)(u:x[j]?=some (b:Int))(v:al[b]?=some false):
  WI rows final bk (al.set b true) (td++[(b:Int)]) (some (q,j+1)):=by
 have f:b<al.length:=(O_.1 v).1;have a:∀i,al[i]?=some true→(al.set b true)[i]?=some true:=fun i k=>by
  by_cases d:b=i
  ·subst d;rw[YaA f]
  ·rw[YaC d];exact k
 have m:E5 rows final b:=by
  have⟨o,row,d,e,s⟩:=(r.2 q x t (b:Int)).1 (c_ u);have:b=o:=by omega
  subst this;exact .step e s (h.sound q w)
 refine⟨by simp[h.len],fun i k=>?_,fun i k=>a i (h.fin i k),fun y l=>?_,?_,fun o z n g=>?_⟩
 ·by_cases d:b=i
  ·subst d;exact m
  ·rw[YaC d]at k;exact h.sound i k
 ·rcases q_.1 l with l | l
  ·have⟨i,d,e⟩:=h.tdok y l;exact⟨i,d,a i e⟩
  ·rw[Y_]at l;exact⟨b,l,by rw[YaA f]⟩
 ·have d:=UN v;have e:=h.cnt;simp only[J_,h_];omega
 ·by_cases d:b=o
  ·subst d;exact .inl (Ycz _ (Y_.2 rfl))
  ·rw[YaC d]at n;rcases h.closed o z n g with e | e | ⟨A,e,s⟩
   ·exact .inl (YbV _ e)
   ·exact .inr (.inl fun p c=>a _ (e p c))
   ·cases e;rw[t]at g;cases g;refine .inr (.inr ⟨j+1,rfl,fun p c=>?_⟩);rw[Af u,q_,Y_]at c;rcases c with c | rfl
    ·exact a _ (s p c)
    ·rw[U',YaA f]
theorem WI.done{q:Nat}{x:List Int}(h:WI rows final bk al td (some (q,x.length)))(e:bk[q]?=some x):WI rows final bk al td none:=by
 refine⟨h.len,h.sound,h.fin,h.tdok,h.cnt,fun f g c a=>?_⟩;rcases h.closed f g c a with b | b | ⟨i,b,d⟩
 ·exact .inl b
 ·exact .inr (.inl b)
 ·cases b;rw[e]at a;cases a;rw[Yc0]at d;exact .inr (.inl d)
theorem WI.finish(a:AfQ rows bk)(d:∀row∈rows,∀t∈row,0≤t∧t<(rows.length:Int))(h:WI rows final bk al [] none)(q:Nat):al[q]?=some true↔E5 rows final q:=by
 refine⟨h.sound q,fun e=>?_⟩
 induction e with
 | fin f=>exact h.fin _ f
 | @step q t row h1 h2 _ ih=>
   have i:=d row (c_ h1) _ h2;have⟨x,c⟩:=Ac (l:=bk) (k:=t) (by rw[a.1];omega);have g:(q:Int)∈x:=(a.2 t x c (q:Int)).2 ⟨q,row,rfl,h1,h2⟩;rcases h.closed t x ih c with b | b | ⟨_,b,_⟩
   ·cases b
   ·simpa using b _ g
   ·cases b
end
theorem AhT(pb:Nat)(cv av:v_)(cell:List Nat)(an af:Option Addr)(I J:Nat)(rows:List (List Int))(final:List Bool)(S:Nat→Prop)(H:Aa)(hS:∀k,S k→k<H.size∧k≠pb)
  (n:Q_ H pb 109 (Ck cv cell (.slice an rows.length I) (.slice af final.length J) av)) (M:cell.length≤256) (hn:g_ J9 S H an I rows) (hf:g_ AQ S H af J final)
  (du:rows.length≤65536) (cq:final.length=rows.length) (a7:∀row∈rows,row.length≤256∧∀t∈row,0≤t∧t<(rows.length:Int)):
  Ak prog 117 #[U_ pb] H fun v H'=>C_ (fun k=>k<H.size∧k≠pb) H H'∧H.size≤H'.size∧
   ∃(al:List Bool) (aa:Option Addr) (bd:Nat),al.length=rows.length∧(∀q,q<rows.length→(al[q]?=some true↔E5 rows final q))∧
    Q_ H' pb 109 (Ck cv cell (.slice an rows.length I) (.slice af final.length J) (.slice aa al.length bd))∧g_ AQ (fun k=>H.size≤k∧k<H'.size) H' aa bd al:=by
 have dv:=n.lt;refine Ak.of_vc func117 rfl (call117 _) (fa GK ?_);refine G_ M9 (by rw[n.cell,K_];exact Ga M) trivial ?_;refine D3 EY rfl (by omega) (by omega) (by omega) (by omega) ?_;intro nb H1 dw dx be c3;rw[U']at be;have c4:=n.agr c3 (show pb<nb by omega);refine fa GK ?_;refine G_ M9 (by rw[c4.cell,K_];exact Ga M) trivial ?_;(conv=>whnf);refine A0.mk [24] (fun q:Nat=>[A_ q]) (fun q H2=>q≤rows.length∧C_ (fun k=>k<H1.size∧k≠nb) H1 H2∧H1.size≤H2.size∧∃vs bk,Tab tI (fun _=>False) H2 (nb+1) 3 nb 41 vs bk∧bk.length=rows.length∧
  (∀(t:Nat) (x:List Int),bk[t]?=some x→x.length≤q*256∧∀p,p∈x↔N1 rows q 0 t p)) (fun q _=>rows.length-q) ?_ ?_
 ·(conv=>whnf);refine⟨0,rfl,by omega,C_.refl _ _,I_ _,_,_,Tab.new be (by omega),by simp,fun t x N=>?_⟩;rw[YaO]at N;split at N
  ·cases N;refine⟨by simp,fun p=>⟨(fun h=>by cases h),?_⟩⟩;rintro⟨V,row,_,_,⟨h,_⟩ | ⟨_,h⟩⟩
   ·omega
   ·simp at h
  ·cases N
 ·rintro q H2 dc ⟨hq,bj,cr,vs,bk,m,A,O⟩;have bm:C_ (fun k=>k<H.size∧k≠pb) H H2:=(c3.mono fun k a=>by omega).trans (bj.mono fun k a=>by omega);have c5:=c4.agr bj ⟨by omega,by omega⟩;refine AG.m2 (fun h=>?_) (fun h=>?_)
  ·have⟨row,e⟩:=Ac (l:=rows) (k:=q) (by omega);have⟨dy,ct⟩:=a7 row (c_ e);refine ixr EY (hn.frame (bm.mono fun k a=>hS k a)) e rfl ?_;rintro b2 o2 dz de a8 ⟨ra,rc,rfl,hr⟩;refine lT FK a8.one ?_;(conv=>whnf);refine A0.mk [31] (fun j:Nat=>[A_ j]) (fun j H3=>j≤row.length∧C_ (fun k=>k<H1.size∧k≠nb) H2 H3∧H1.size≤H3.size∧∃vs bk,Tab tI (fun _=>False) H3 (nb+1) 3 nb 41 vs bk∧bk.length=rows.length∧
    (∀(t:Nat) (x:List Int),bk[t]?=some x→x.length≤q*256+j∧∀p,p∈x↔N1 rows q j t p)) (fun j _=>row.length-j) ?_ ?_
   ·(conv=>whnf);exact⟨0,rfl,by omega,C_.refl _ _,cr,vs,bk,m,A,O⟩
   ·clear m A O vs bk;rintro j H3 bn ⟨hj,a4,cu,vs,bk,m,A,O⟩;have cw:=hr.frame (a4.mono fun k a=>by have:=hS k a;omega);refine AG.m2 (fun h=>?_) (fun h=>?_)
    ·have⟨ti,a9⟩:=Ac (l:=row) (k:=j) (by omega);have⟨cx,e0⟩:=ct ti (c_ a9);obtain⟨t,rfl⟩:=YbS cx;refine ixr AU cw a9 rfl ?_;rintro b3 o3 c6 bf g ⟨rfl,e1⟩;refine lT E_ g.one ?_;have⟨v,x,P,N,cy⟩:=m.get (i:=t) (by omega);have⟨e3,cz⟩:=O t x N;obtain⟨e4,d0,rfl,-,-⟩:=cy.view (S':=fun k=>a_ v k) (fun k a=>a) (fun k a=>a.elim);have df:t<vs.length:=(O_.1 P).1;refine ix EY (by omega) (by omega) ?_;refine G_ FK (by rw[m.blk.cell,show 0+(t:Int).toNat*1=t by omega];exact P) trivial ?_;refine Ay AU [A_ q] rfl rfl (by decide) (by decide) ?_;intro q4 H4 e5 d1 ae ag;have dg:=m.blk.lt;have B:=m.agr ag (by omega) (fun b _ n=>by omega) (fun k a=>a.elim);refine Di (T:=tI) (S:=fun _=>False) (ys:=[(q:Int)]) (ds:=[A_ q]) (lo:=nb+1) (xs:=x) AU (B.own t _ x P N) (by omega) (fun k a=>a.elim)
      (ae.cells (fun j v P=>by simpa using P)) (Ty.reps_one ⟨rfl,BX (by omega)⟩) rfl (by intro u hu;cases Y_.1 hu;rfl) (by simp only[maxLen,h_];omega) (by simp only[h_];omega) ?_
     intro v5 H5 ah bo c7 ai;have c8:=B.blk.agr bo ⟨by omega,fun a=>by have:=((B.own t _ x P N).lt a).1;omega⟩;refine ix EY (by omega) (by omega) (st1 FK c8 (by omega) ah.one ?_);intro H6 W a5 c9;rw[show 0+(t:Int).toNat*1=t by omega]at W;(conv=>whnf);rw[P_ j (by omega)];refine⟨rfl,j+1,by simp,⟨by omega,?_,by omega,_,_,B.push P ah bo ai W a5 (fun k a=>a.elim),by simp[A],?_⟩,by omega⟩
     ·intro k a;rw[a5 k a.2,bo k ⟨by omega,fun n=>by have:=((B.own t _ x P N).lt n).1;omega⟩,ag k (by omega),a4 k a]
     ·intro t' x' aw;have bg:∀p,N1 rows q (j+1) t' p↔N1 rows q j t' p∨(t'=t∧p=(q:Int)):=by
       intro p;unfold N1;constructor
       ·rintro⟨V,o,z,d,⟨U,r⟩ | ⟨U,r⟩⟩
        ·exact .inl ⟨V,o,z,d,.inl ⟨U,r⟩⟩
        ·subst U;rw[e]at d;cases d;rw[Af a9,q_,Y_]at r;rcases r with r | r
         ·exact .inl ⟨_,_,z,e,.inr ⟨rfl,r⟩⟩
         ·exact .inr ⟨by omega,z⟩
       ·rintro(⟨V,o,z,d,⟨U,r⟩ | ⟨U,r⟩⟩ | ⟨rfl,rfl⟩)
        ·exact⟨V,o,z,d,.inl ⟨U,r⟩⟩
        ·subst U;rw[e]at d;cases d;exact⟨_,_,z,e,.inr ⟨rfl,by rw[Af a9,q_];exact .inl r⟩⟩
        ·exact⟨q,row,rfl,e,.inr ⟨rfl,by rw[Af a9,q_];exact .inr (Y_.2 rfl)⟩⟩
      by_cases bp:t'=t
      ·subst bp;rw[YaA (by omega)]at aw;cases aw;refine⟨by simp only[J_,h_];omega,fun p=>?_⟩;rw[bg p,q_,cz p,Y_];simp
      ·rw[YaC (Ne.symm bp)]at aw;have⟨z,d⟩:=O t' x' aw;refine⟨by omega,fun p=>?_⟩;rw[bg p,d p];simp[bp]
    ·have bq:j=row.length:=by omega
     subst bq;(conv=>whnf);rw[P_ q (by omega)];refine⟨rfl,q+1,by simp,⟨by omega,bj.trans a4,by omega,vs,bk,m,A,fun t x N=>?_⟩,by omega⟩;have⟨g1,g2⟩:=O t x N;refine⟨by rw[Nat.succ_mul];omega,fun p=>?_⟩;rw[g2 p];unfold N1;constructor
     ·rintro⟨V,o,z,d,⟨U,r⟩ | ⟨U,r⟩⟩
      ·exact⟨V,o,z,d,.inl ⟨by omega,r⟩⟩
      ·exact⟨V,o,z,d,.inl ⟨by omega,Ydg r⟩⟩
     ·rintro⟨V,o,z,d,⟨U,r⟩ | ⟨U,r⟩⟩
      ·by_cases br:V=q
       ·rw[br,e]at d;cases d;exact⟨V,_,z,by rw[br];exact e,.inr ⟨br,by rw[Yc0];exact r⟩⟩
       ·exact⟨V,o,z,d,.inl ⟨by omega,r⟩⟩
      ·simp at r
  ·have d2:q=rows.length:=by omega
   subst d2;have aj:AfQ rows bk:=⟨A,fun t x N p=>by
    rw[(O t x N).2 p];unfold N1;constructor
    ·rintro⟨V,row,z,d,⟨U,r⟩ | ⟨_,r⟩⟩
     ·exact⟨V,row,z,d,r⟩
     ·simp at r
    ·rintro⟨V,row,z,d,r⟩;exact⟨V,row,z,d,.inl ⟨(O_.1 d).1,r⟩⟩⟩
   have dh:=m.blk.lt;have bu:=m.view (S':=fun k=>nb≤k∧k<H2.size) A.symm (by simp[maxLen];omega) (fun k z d=>⟨z,d⟩) (fun k a=>a.elim);clear O;refine fa GK ?_;refine G_ M9 (by rw[c5.cell,K_];exact Ga M) trivial ?_;refine D3 CJ rfl (by omega) (by omega) (by omega) (by omega) ?_;intro D H3 e6 cu Z a4;rw[U']at Z;have d3:=c5.agr a4 (show pb<D by omega);refine fa MV ?_;refine st1 Pg d3 (by rw[JH M];omega) rfl ?_;intro H4 ae ag d1;rw[K_,QH M]at ae;replace Z:=Z.agr ag (show D≠pb by omega);have cd:C_ (fun k=>k<H2.size∧k≠pb) H2 H4:=(a4.mono fun k a=>by omega).trans (ag.mono fun k a=>a.2);refine fa Ra ?_;refine G_ Pg (by rw[ae.cell,K_];exact L3 M) trivial ?_;(conv=>whnf);refine A0.mk [7,61] (fun x:Nat×v_=>[x.2,A_ x.1]) (fun x H5=>x.1≤rows.length∧C_ (fun k=>k<H2.size∧k≠pb) H2 H5∧H4.size≤H5.size∧
    Q_ H5 pb 109 (Ck cv cell (.slice an rows.length I) (.slice af final.length J) (.slice (T_ D) (rows.length:Int).toNat (rows.length:Int).toNat))∧
    ∃al td,al.length=rows.length∧Q_ H5 D 4 (al.map .bool)∧l_ tI (fun _=>False) H5 (D+1) 3 x.2 td∧
     (∀q,al[q]?=some true↔q<x.1∧final[q]?=some true)∧(∀q:Nat,al[q]?=some true→(q:Int)∈td)∧(∀y∈td,∃q:Nat,y=(q:Int)∧al[q]?=some true)∧td.length+nF al=rows.length) (fun x _=>rows.length-x.1) ?_ ?_
   ·(conv=>whnf);refine⟨(0,_),rfl,by omega,cd,I_ _,ae,AkK rows.length false,[],by simp,by simpa using Z,l_.nil,fun q=>⟨fun h=>?_,fun h=>by omega⟩,fun q h=>?_,(fun y hy=>by cases hy),by simp[nF,List.count_replicate]⟩
    ·rw[YaO]at h;split at h<;>simp at h
    ·rw[YaO]at h;split at h<;>simp at h
   ·rintro⟨i,v7⟩ H5 bn ⟨hi,ak,c7,a6,al,td,s,Q,c,C,a0,a1,bh⟩;dsimp only at hi c C;refine AG.m2 (fun h=>?_) (fun h=>?_)
    ·have ce:=bm.trans (ak.mono fun k a=>by omega);have⟨f,bv⟩:=Ac (l:=final) (k:=i) (by omega);refine An.run (ixr CJ (hf.frame (ce.mono fun k a=>hS k a)) bv rfl ?_);rintro b3 o3 c6 bf g rfl;refine G_ ct4 g.one trivial (AG.mk (fun d=>?_) (fun d=>?_))
     ·subst d;have cg:al[i]?=some false:=by
       cases N:al[i]? with
       | none=>rw[List.getElem?_eq_none_iff]at N;omega
       | some b=>
         cases b with
         | false=>rfl
         | true=>have:=((C i).1 N).1;omega
      refine fa MV ?_;refine G_ Pg (by rw[a6.cell,K_];exact L4 M) trivial ?_;refine ix CJ (by omega) (by omega) ?_;refine st1 ct4 Q (by simp;omega) rfl ?_;intro H6 w a5 c9;rw[show 0+(i:Int).toNat*1=i by omega]at w;refine Ay AU [A_ i] rfl rfl (by decide) (by decide) ?_;intro q7 H7 e7 ch R ax;have e8:=a6.lt;have di:=Q.lt;have cj:l_ tI (fun _=>False) H7 (D+1) 3 v7 td:=(c.agr a5 (fun b n=>by have:=c.lt n;omega) (fun k a=>a.elim)).agr ax (fun b n=>by have:=c.lt n;omega) (fun k a=>a.elim);have d4:=UN cg;refine Di (T:=tI) (S:=fun _=>False) (ys:=[(i:Int)]) (ds:=[A_ i]) (lo:=D+1) (xs:=td) AU cj (by omega) (fun k a=>a.elim)
       (R.cells (fun j v P=>by simpa using P)) (Ty.reps_one ⟨rfl,BX (by omega)⟩) rfl (by intro u hu;cases Y_.1 hu;rfl) (by simp only[maxLen,h_];omega) (by simp only[h_];omega) ?_
      intro v8 H8 bw X d5 ck;(conv=>whnf);rw[P_ i (by omega)];have Y:∀k,a_ v7 k→D+1≤k:=fun k a=>(c.lt a).1;refine⟨rfl,(i+1,v8),rfl,⟨by dsimp only;omega,?_,by omega,?_,al.set i true,td++[(i:Int)],by simp[s],?_,bw,fun q=>?_,fun q hq=>?_,fun y hy=>?_,?_⟩,by dsimp only;omega⟩
      ·intro k a;rw[X k ⟨by omega,fun n=>by have:=Y k n;omega⟩,ax k (by omega),a5 k (by omega),ak k a]
      ·exact((a6.agr a5 (by omega)).agr ax (by omega)).agr X ⟨by omega,fun n=>by have:=Y _ n;omega⟩
      ·rw[List.map_set];exact(w.agr ax (by omega)).agr X ⟨by omega,fun n=>by have:=Y _ n;omega⟩
      ·dsimp only;by_cases E:i=q
       ·subst E;rw[YaA (by omega)];exact⟨fun _=>⟨by omega,bv⟩,fun _=>rfl⟩
       ·rw[YaC E,C q];constructor
        ·rintro⟨z,d⟩;exact⟨by omega,d⟩
        ·rintro⟨z,d⟩;exact⟨by omega,d⟩
      ·by_cases E:i=q
       ·subst E;exact Ycz _ (Y_.2 rfl)
       ·rw[YaC E]at hq;exact YbV _ (a0 q hq)
      ·rcases q_.1 hy with hy | hy
       ·have⟨q,z,d⟩:=a1 y hy;refine⟨q,z,?_⟩;by_cases E:i=q
        ·subst E;rw[YaA (by omega)]
        ·rw[YaC E];exact d
       ·rw[Y_]at hy;exact⟨i,hy,by rw[YaA (by omega)]⟩
      ·simp only[J_,h_];omega
     ·subst d;(conv=>whnf);rw[P_ i (by omega)];refine⟨rfl,(i+1,v7),rfl,⟨by dsimp only;omega,ak,c7,a6,al,td,s,Q,c,fun q=>?_,a0,a1,bh⟩,by dsimp only;omega⟩;rw[C q];dsimp only;constructor
      ·rintro⟨z,d⟩;exact⟨by omega,d⟩
      ·rintro⟨z,d⟩;refine⟨?_,d⟩;by_cases E:q=i
       ·subst E;rw[bv]at d;cases d
       ·omega
    ·have d6:i=rows.length:=by omega
     subst d6;have F:WI rows final bk al td none:=by
      refine⟨s,fun q hq=>.fin ((C q).1 hq).2,fun q hq=>(C q).2 ⟨?_,hq⟩,a1,by omega,fun q x hq N=>.inl (a0 q hq)⟩;rw[←cq];exact(O_.1 hq).1
     clear C a0 a1 bh;(conv=>whnf);refine A0.mk [7] (fun x:v_×List Bool×List Int=>[x.1]) (fun x H6=>C_ (fun k=>k<H2.size∧k≠pb) H2 H6∧H5.size≤H6.size∧
      Q_ H6 pb 109 (Ck cv cell (.slice an rows.length I) (.slice af final.length J) (.slice (T_ D) (rows.length:Int).toNat (rows.length:Int).toNat))∧
      Q_ H6 D 4 (x.2.1.map .bool)∧l_ tI (fun _=>False) H6 (D+1) 3 x.1 x.2.2∧WI rows final bk x.2.1 x.2.2 none) (fun x _=>2*nF x.2.1+x.2.2.length) ?_ ?_
     ·(conv=>whnf);exact⟨(v7,al,td),rfl,ak,I_ _,a6,Q,c,F⟩
     ·clear c F Q a6 ak s;rintro⟨v7,al,td⟩ H6 d7 ⟨bx,c9,W,w,c,F⟩;dsimp only at c w F;obtain⟨e9,dj,rfl,bz,dk⟩:=c.view (S':=fun k=>D+1≤k∧k<H6.size) (fun k a=>c.lt a) (fun k a=>a.elim);refine AG.m2 (fun h=>?_) (fun h=>?_)
      ·obtain⟨G,y,rfl⟩:∃G y,td=G++[y]:=⟨td.dropLast,td.getLast (by intro d;subst d;simp at h),(Ydb _).symm⟩;obtain⟨q,rfl,cm⟩:=F.tdok y (by simp);have ea:q<rows.length:=by have:=(O_.1 cm).1;have:=F.len;omega
       have eb:(G++[(q:Int)]).length=G.length+1:=by simp
       have dl:=F.cnt;refine ixr (i:=G.length) (x:=(q:Int)) AU bz (by simp) (by rw[w64 (by omega) (by omega)];omega) ?_;rintro b3 o3 c6 bf g ⟨rfl,-⟩;refine lT E_ g.one ?_;(conv=>whnf);rw[w64 (x:=((G++[(q:Int)]).length:Int)-1) (by omega) (by omega)];refine WO AU (by omega) (by have:=bz.le;omega) ?_;rw[show(((G++[(q:Int)]).length:Int)-1).toNat=G.length by omega];have a2:=c.pop;clear c bz;have⟨xb,am⟩:=Ac (l:=bk) (k:=q) (by omega);have ay:=bu.frame (bx.mono fun k a=>by omega);refine IB EY ay (by omega) am rfl ?_;rintro b4 o4 ec dm ao ⟨xa,xc,rfl,ap⟩;refine lT FK ao.one ?_;(conv=>whnf);refine A0.mk [7,97] (fun x:Nat×v_×List Bool×List Int=>[x.2.1,A_ x.1]) (fun x H7=>x.1≤xb.length∧C_ (fun k=>k<H2.size∧k≠pb) H6 H7∧H6.size≤H7.size∧
        Q_ H7 pb 109 (Ck cv cell (.slice an rows.length I) (.slice af final.length J) (.slice (T_ D) (rows.length:Int).toNat (rows.length:Int).toNat))∧
        Q_ H7 D 4 (x.2.2.1.map .bool)∧l_ tI (fun _=>False) H7 (D+1) 3 x.2.1 x.2.2.2∧WI rows final bk x.2.2.1 x.2.2.2 (some (q,x.1))∧x.2.2.1[q]?=some true∧2*nF x.2.2.1+x.2.2.2.length≤2*nF al+G.length)
        (fun x _=>xb.length-x.1) ?_ ?_
       ·(conv=>whnf);exact⟨(0,_,al,G),rfl,by dsimp only;omega,C_.refl _ _,I_ _,W,w,a2,F.pop,cm,I_ _⟩
       ·clear W w a2;rintro⟨j,v7,az,td⟩ H7 d8 ⟨hj,b0,ch,R,K,c,L,a3,aq⟩;dsimp only at hj c K L a3 aq;refine AG.m2 (fun d=>?_) (fun d=>?_)
        ·have⟨p,b6⟩:=Ac (l:=xb) (k:=j) (by omega);obtain⟨pn,dn,rfl,c1,-⟩:=(aj.2 q xb am p).1 (c_ b6);have ed:pn<rows.length:=(O_.1 c1).1;have s:=L.len;have d9:=L.cnt;have⟨f,b7⟩:=Ac (l:=az) (k:=pn) (by omega);have ee:=R.lt;have dp:=K.lt;refine An.run (ixr AU (ap.frame (b0.mono fun k a=>by omega)) b6 rfl ?_);rintro b5 o5 ef dq ar ⟨rfl,-⟩;refine G_ E_ ar.one trivial (fa MV ?_);refine G_ Pg (by rw[R.cell,K_];exact L4 M) trivial ?_;refine ix CJ (by omega) (by omega) ?_;refine G_ (v:=.bool f) ct4 (by rw[K.cell,show 0+(pn:Int).toNat*1=pn by omega,o_,b7];rfl) trivial ?_;refine AG.mk (fun U=>?_) (fun U=>?_)
         ·obtain rfl:f=false:=by simpa using U
          have d4:=UN b7;refine fa MV ?_;refine G_ Pg (by rw[R.cell,K_];exact L4 M) trivial ?_;refine ix CJ (by omega) (by omega) ?_;refine st1 ct4 K (by simp;omega) rfl ?_;intro H8 bi X d5;rw[show 0+(pn:Int).toNat*1=pn by omega]at bi;refine Ay AU [A_ pn] rfl rfl (by decide) (by decide) ?_;intro q9 H9 eg eh da b8;have co:l_ tI (fun _=>False) H9 (D+1) 3 v7 td:=(c.agr X (fun b n=>by have:=c.lt n;omega) (fun k a=>a.elim)).agr b8 (fun b n=>by have:=c.lt n;omega) (fun k a=>a.elim);refine Di (T:=tI) (S:=fun _=>False) (ys:=[(pn:Int)]) (ds:=[A_ pn]) (lo:=D+1) (xs:=td) AU co (by omega) (fun k a=>a.elim)
           (da.cells (fun j v P=>by simpa using P)) (Ty.reps_one ⟨rfl,BX (by omega)⟩) rfl (by intro u hu;cases Y_.1 hu;rfl) (by simp only[maxLen,h_];omega) (by simp only[h_];omega) ?_
          intro db H10 b9 au dr c2;(conv=>whnf);rw[w64 (x:=(j:Int)+1) (by have:=ap.le;simp only[maxLen]at this;omega) (by have:=ap.le;simp only[maxLen]at this;omega)];have Y:∀k,a_ v7 k→D+1≤k:=fun k a=>(c.lt a).1;refine⟨rfl,(j+1,db,az.set pn true,td++[(pn:Int)]),rfl,⟨by dsimp only;omega,?_,by omega,?_,?_,b9,L.mark aj a3 am b6 b7,?_,?_⟩,by dsimp only;omega⟩
          ·intro k a;rw[au k ⟨by omega,fun n=>by have:=Y k n;omega⟩,b8 k (by omega),X k (by omega),b0 k a]
          ·exact((R.agr X (by omega)).agr b8 (by omega)).agr au ⟨by omega,fun n=>by have:=Y _ n;omega⟩
          ·dsimp only;rw[List.map_set];exact(bi.agr b8 (by omega)).agr au ⟨by omega,fun n=>by have:=Y _ n;omega⟩
          ·dsimp only;by_cases cp:pn=q
           ·subst cp;rw[YaA (by omega)]
           ·rw[YaC cp];exact a3
          ·simp only[J_,h_];omega
         ·obtain rfl:f=true:=by simpa using U
          (conv=>whnf);rw[w64 (x:=(j:Int)+1) (by have:=ap.le;simp only[maxLen]at this;omega) (by have:=ap.le;simp only[maxLen]at this;omega)];exact⟨rfl,(j+1,v7,az,td),rfl,⟨by dsimp only;omega,b0,ch,R,K,c,L.skip am b6 b7,a3,aq⟩,by dsimp only;omega⟩
        ·have bq:j=xb.length:=by omega
         subst bq;(conv=>whnf);exact⟨rfl,(v7,az,td),rfl,⟨bx.trans b0,by omega,R,K,c,L.done am⟩,by dsimp only;omega⟩
      ·have a2:td=[]:=Ya8 (by omega);subst a2;(conv=>whnf);have s:=F.len;have ei:=W.lt;refine⟨bm.trans (bx.mono fun k a=>by omega),by omega,al,some ⟨D,0,none⟩,rows.length,s,fun q _=>F.finish aj (fun row e=>(a7 row e).2) q,?_,?_⟩
       ·rw[s];exact W
       ·have dt:=w.lt;refine g_.intro (show H.size≤D∧D<H6.size by omega) (by omega) (by simp only[maxLen];omega) (w.cells (cs:=al.map .bool) (fun j v P=>by rw[K_];exact P)) (DJ (by simp) fun i v x P N=>?_);rw[o_,N]at P;cases P;rfl
section
attribute [local irreducible] Bj
structure AM where
 sets:List (BitVec 256)
 cell:List Nat
 next:List (List Int)
 final:List Bool
def Bi(cells:List (BitVec 256))(next:List (List Int))(final:List Bool):AM:=
 ⟨(Bj next cells (fun b=>AC b b) 256).sets,(Bj next cells (fun b=>AC b b) 256).cell,next.map (Gu (Bj next cells (fun b=>AC b b) 256).cols),final⟩
structure AM.Ok(A:AM):Prop where
 n1:1≤A.next.length
 n2:A.next.length≤65536
 fl:A.final.length=A.next.length
 cell:A.cell.length=256
 places:∀p∈A.cell,p<A.sets.length
 sl:A.sets.length≤256
 rows:∀row∈A.next,row.length=A.sets.length∧∀t∈row,0≤t∧t<(A.next.length:Int)
structure Nx(S:Nat→Prop)(H:Aa)(pb:Nat)(A:AM):Prop where
 own:S pb
 ok:A.Ok
 rep:∃ac cc an cn af cf aa ca al,Q_ H pb 109 (Ck (.slice ac A.sets.length cc) A.cell (.slice an A.next.length cn) (.slice af A.final.length cf) (.slice aa al.length ca))∧
  g_ Cp S H ac cc A.sets∧g_ J9 S H an cn A.next∧g_ AQ S H af cf A.final∧g_ AQ S H aa ca al∧al.length=A.next.length∧∀q:Nat,q<A.next.length→(al[q]?=some true↔E5 A.next A.final q)
theorem Nx.frame{S:Nat→Prop}{H H':Aa}{pb:Nat}{A:AM}(h:Nx S H pb A)(k:C_ S H H'):Nx S H' pb A:=by
 have⟨a,b,c,d,e,f,g,i,j,l,al,m,n,o,p,q,r⟩:=h;exact⟨a,b,c,d,e,f,g,i,j,l,al,m.agr k a,n.frame k,o.frame k,p.frame k,q.frame k,r⟩
theorem Nx.mono{S S':Nat→Prop}{H:Aa}{pb:Nat}{A:AM}(h:Nx S H pb A)(k:∀b,S b→S' b):Nx S' H pb A:=by
 have⟨a,c,d,e,f,g,i,j,l,m,al,n,o,p,q,r,s⟩:=h;exact⟨k _ a,c,d,e,f,g,i,j,l,m,al,n,o.mono k,p.mono k,q.mono k,r.mono k,s⟩
def AZ(S:Nat→Prop)(H:Aa)(v:v_):Option AM→Prop
 | none=>v= .pointer none
 | some A=>∃pb,v= U_ pb∧Nx S H pb A
theorem AZ.frame{S:Nat→Prop}{H H':Aa}{v:v_}{o:Option AM}(h:AZ S H v o)(k:C_ S H H'):AZ S H' v o:=by
 cases o with
 | none=>exact h
 | some A=>have⟨pb,a,b⟩:=h;exact⟨pb,a,b.frame k⟩
theorem AZ.mono{S S':Nat→Prop}{H:Aa}{v:v_}{o:Option AM}(h:AZ S H v o)(k:∀b,S b→S' b):AZ S' H v o:=by
 cases o with
 | none=>exact h
 | some A=>have⟨pb,a,c⟩:=h;exact⟨pb,a,c.mono k⟩
theorem Tc{cells:List (BitVec 256)}{next:List (List Int)}{final:List Bool}(h:Bk cells next final.length=true):(Bi cells next final).Ok:=by
 have⟨i,j,k,d⟩:=E1 h;have e:=FS (next:=next) (sp:=fun b=>AC b b) (fun b l=>(BK h l).1) 256 (I_ _);have g:=e.len;have m:=e.le;have f:=e.cell;refine⟨by simpa [Bi]using i,by simpa [Bi]using j,by simp[Bi,k],?_,?_,?_,?_⟩
 ·exact f
 ·intro p n;have:=e.places p n;simp only[Bi];omega
 ·simp only[Bi];omega
 ·intro row a;simp only[Bi,I']at a;obtain⟨r,o,rfl⟩:=a;refine⟨by simp only[Gu,Bi,Z_];omega,fun t q=>?_⟩;obtain⟨c,s,rfl⟩:=I'.1 q;have u:=e.cols c s;have:=d r o;simp only[Bi,Z_];rw[YaD,N' (by omega),Ydp];exact this.2 _ (Ydc _)
theorem Wv(E na fa:Option Addr)(F nc fc:Nat)(cells:List (BitVec 256))(next:List (List Int))(final:List Bool)(S:Nat→Prop)(H:Aa)(w:∀k,S k→k<H.size)
  (Q:g_ Cp S H E F cells) (R:g_ J9 S H na nc next) (U:g_ AQ S H fa fc final):
  Ak prog 51 #[.slice E cells.length F,.slice na next.length nc,.slice fa final.length fc] H fun v H'=>
   C_ (H_ H) H H'∧H.size≤H'.size∧AZ (fun k=>H.size≤k∧k<H'.size) H' v (if Bk cells next final.length then some (Bi cells next final)else none):=by
 have lf:=U.le;unfold maxLen at lf;refine Ak.of_vc func51 rfl (call51 _) (Ah (AeD E na fa F nc fc final.length cells next S H w Q R (by omega)) fun H1 j=>?_);have G:H.size≤H1.size:=by
  rcases Nat.eq_zero_or_pos H.size with h | h
  ·omega
  ·have:=Ar j (k:=H.size-1) (by unfold H_;omega);omega
 refine AG.mk (fun h=>?_) (fun h=>?_)
 ·(conv=>whnf);have p:Bk cells next final.length=false:=by simpa using h
  rw[p];exact⟨j,G,rfl⟩
 ·have p:Bk cells next final.length=true:=by simpa using h
  rw[p];have⟨n1,Y,Z,I⟩:=E1 p;refine OW (T:=AQ) (S:=S) (lo:=H1.size) (xs:=[]) CJ Vs l_.nil (I_ _) (fun k a=>⟨by have:=w k a;omega,?_⟩) (U.frame (j.mono w)) (by simp only[maxLen,m_];omega) (by simp only[m_];omega) ?_
  ·rintro⟨o,n,c,h⟩;cases h
  intro v2 H2 e J a0 _;rw[Ybo]at e;have l:l_ AQ (fun _=>False) H2 H1.size 4 v2 final:=e.free Vr;obtain⟨x,d,rfl,y,-⟩:=l.view (S':=fun k=>H1.size≤k∧k<H2.size) (fun k a=>e.lt a) (fun k a=>a.elim);refine Ax rfl rfl _ rfl (Ck (.slice none 0 0) [] (.slice none 0 0) (.slice x final.length d) (.slice none 0 0)) (by rfl) (Ct (Ck (.slice none 0 0) [] (.slice none 0 0) (.slice x final.length d) (.slice none 0 0)) rfl ?_);intro pb H3 a1 a2 K z;have V:H2.size=pb:=by omega
  have L:∀k,H_ H k→k<H1.size:=fun k a=>by unfold H_ at a;omega
  have s:C_ (fun k=>k<H.size) H H3:=(j.trans (J.mono fun k a=>⟨L k a,fun p=>by have⟨o,n,c,h⟩:=p;cases h⟩)).trans (z.mono fun k a=>by unfold H_ at a;omega);have M:∀k,S k→k<H3.size∧k≠pb:=fun k a=>by have:=w k a;omega
  refine Ae.mk (AdK pb (.slice x final.length d) (.slice none 0 0) E na F nc cells next final.length S H3 M K (Q.frame (s.mono w)) (R.frame (s.mono w)) p) ?_;rintro v4 H4 ⟨A,a3,W,q,X,r,N,t,f⟩;have i:g_ AQ (fun k=>H1.size≤k∧k<H2.size) H4 x d final:=(y.frame (z.mono fun k a=>by omega)).frame (A.mono fun k a=>by omega);have g:=Tc p;(conv=>whnf);refine Ae.mk (AhT pb (.slice W (Bj next cells (fun b=>AC b b) 256).sets.length q) (.slice none 0 0) (Bj next cells (fun b=>AC b b) 256).cell X x r d (next.map (Gu (Bj next cells (fun b=>AC b b) 256).cols)) final
   (fun k=>H1.size≤k∧k<H4.size∧k≠pb) H4 (fun k a=>by omega) (by rw[Z_];exact N) (Ydm g.cell) (f.mono fun k a=>by omega) (i.mono fun k a=>by omega)
   (by simpa using Y) (by simp[Z]) (fun row B=>?_)) ?_
  ·have:=g.rows row B;have h2:=g.sl;exact⟨by omega,this.2⟩
  rintro v5 H5 ⟨m,a4,al,aa,C,D,u,O,P⟩;(conv=>whnf);refine⟨?_,by omega,pb,rfl,⟨by omega,by omega⟩,g,W,q,X,r,x,d,aa,C,al,O,?_,?_,?_,?_,D,u⟩
  ·exact(s.trans (A.mono fun k a=>by omega)).trans (m.mono fun k a=>by omega)
  ·exact(t.frame (m.mono fun k a=>by omega)).mono fun k a=>by omega
  ·exact(f.frame (m.mono fun k a=>by omega)).mono fun k a=>by omega
  ·exact(i.frame (m.mono fun k a=>by omega)).mono fun k a=>by omega
  ·exact P.mono fun k a=>by omega
def stN:Option AM→Nat
 | none=>1
 | some A=>A.next.length
theorem RA:prog.underlying 23=some (.pointer 109):=rfl
theorem HI{S:Nat→Prop}{H:Aa}{v:v_}{o:Option AM}(h:AZ S H v o):BM prog 16 #[v] H (.int .i64 (stN o:Int)):=by
 cases o with
 | none=>
   obtain rfl:=h;refine Ak.of_vc func16 rfl (call16 _) (Aa2 RA ?_);(conv=>whnf);exact⟨rfl,C_.refl _ _⟩
 | some A=>
   obtain⟨pb,rfl,f,a,l,m,n,p,q,r,s,t,al,j,b,c,g,k,i,d⟩:=h;have e:A.cell.length≤256:=Ydm a.cell;refine Ak.of_vc func16 rfl (call16 _) (AdU RA (fa GK ?_));refine G_ M9 (by rw[j.cell,K_];exact Ga e) trivial ?_;(conv=>whnf);exact⟨rfl,C_.refl _ _⟩
def AY:Option AM→Int→Bool
 | none,_=>false
 | some A,q=>decide (0≤q)&&(A.final[q.toNat]?).getD false
theorem FN{S:Nat→Prop}{H:Aa}{v:v_}{o:Option AM}{q:Int}(h:AZ S H v o):BM prog 50 #[v,A_ q] H (.bool (AY o q)):=by
 cases o with
 | none=>
   obtain rfl:=h;refine Ak.of_vc func50 rfl (call50 _) (Aj3 RA ?_);(conv=>whnf);exact⟨rfl,C_.refl _ _⟩
 | some A=>
   obtain⟨pb,rfl,l,c,y,z,B,C,D,E,F,G,al,m,g,i,d,t,p,j⟩:=h;have e:A.cell.length≤256:=Ydm c.cell;have u:=c.fl;have w:=c.n2;refine Ak.of_vc func50 rfl (call50 _) ?_;cases q with
   | negSucc n=>
     refine AfI RA ?_;(conv=>whnf);exact⟨rfl,C_.refl _ _⟩
   | ofNat n=>
     refine AfI RA (fa Ra ?_);refine G_ Pg (by rw[m.cell,K_];exact L3 e) trivial ?_;by_cases b:n<A.final.length
     ·have⟨f,r⟩:=Ac b;have k:decide (AlJ n<(A.final.length:Int))=true:=n_ (by simpa using b);(conv=>whnf);rw[k];refine fa Ra ?_;refine G_ Pg (by rw[m.cell,K_];exact L3 e) trivial ?_;refine ixr CJ d r rfl ?_;rintro I J x s a rfl;refine lT ct4 a.one ?_;(conv=>whnf);exact⟨by simp[AY,r],C_.refl _ _⟩
     ·have k:decide (AlJ n<(A.final.length:Int))=false:=j_ (by simpa using b);(conv=>whnf);rw[k];(conv=>whnf);exact⟨by simp[AY,YaL (Nat.le_of_not_lt b)],C_.refl _ _⟩
theorem YD{cv nv fv av:v_}{cell:List Nat}{b c:Nat}(h:cell[b]?=some c):(Ck cv cell nv fv av)[1+b]?=some (.int .u8 (c:Int)):=by
 have a:=(O_.1 h).1;unfold Ck;rw[YcY,Nat.add_comm,Yba,YaN,YaG (by simpa using a),o_,h];rfl
def As(o:Option AM)(q:Int)(b:Nat):Int:=
 if q<0∨(stN o:Int)≤q then -1 else match o with
  | none=>0
  | some A=>((A.next[q.toNat]?).getD []).getD (A.cell.getD b 0) 0
section
variable{S:Nat→Prop}{H:Aa}{v:v_}{o:Option AM}
theorem AaU(h:AZ S H v o):1≤stN o∧stN o≤65536:=by
 cases o with
 | none=>simp[stN]
 | some A=>obtain⟨pb,rfl,b,a,_⟩:=h;exact⟨a.n1,a.n2⟩
theorem F6{q:Int}{b:Nat}(J:∀k,S k→k<H.size)(h:AZ S H v o)(r:b<256):
  BM prog 49 #[v,A_ q,.int .u8 (b:Int)] H (.int .i64 (As o q b)):=by
 refine Ak.of_vc func49 rfl (call49 _) ?_;cases q with
 | negSucc n=>
   have j:decide (Int.negSucc n<0)=true:=n_ (YcO n);(conv=>whnf);rw[j];(conv=>whnf);exact⟨by simp[As,YcO],C_.refl _ _⟩
 | ofNat n=>
   refine Ah (HI h) fun H1 f=>?_;have z:=h.frame (f.mono J);by_cases p:stN o≤n
   ·have j:decide ((stN o:Int)≤AlJ n)=true:=n_ (by simpa using p);(conv=>whnf);rw[j];(conv=>whnf);exact⟨by simp[As,p],f⟩
   ·have j:decide ((stN o:Int)≤AlJ n)=false:=j_ (by simpa using p);(conv=>whnf);rw[j];have m:∀x,x=(match o with | none=>(0:Int) | some A=>((A.next[n]?).getD []).getD (A.cell.getD b 0) 0)→As o (AlJ n) b=x:=by
     intro x K;subst K;unfold As;rw[D_ (by simp;omega)];cases o<;>rfl
    cases o with
    | none=>
      obtain rfl:=z;refine Aa2 RA ?_;(conv=>whnf);exact⟨by rw[m 0 rfl],f⟩
    | some A=>
      obtain⟨pb,rfl,B,g,R,T,U,V,W,X,Y,Z,al,C,s,i,D,L,E,u⟩:=z;have w:A.cell.length≤256:=Ydm g.cell;simp only[stN]at p;have⟨row,a⟩:=Ac (l:=A.next) (k:=n) (by omega);have⟨c,y⟩:=Ac (l:=A.cell) (k:=b) (by rw[g.cell];exact r);have M:=(g.rows row (c_ a)).1;have N:=g.places c (c_ y);have⟨t,F⟩:=Ac (l:=row) (k:=c) (by omega);refine AdU RA (Aq.lex rfl (by kernel_rfl) (fa GK ?_));refine G_ M9 (by rw[C.cell,K_];exact Ga w) trivial ?_;refine ixr EY i a rfl ?_;rintro b2 o2 O G d ⟨ra,rc,rfl,P⟩;refine G_ FK d.one trivial (fa VR (M' Af0 (by omega) (by omega) ?_));refine G_ (v:=.int .u8 (c:Int)) ct5 (by rw[C.cell,show 0+1+(b:Int).toNat*1=1+b by omega];exact YD y) trivial ?_;refine ixr AU P F rfl ?_;rintro b3 o3 Q I e ⟨rfl,-⟩;refine lT E_ e.one ?_;(conv=>whnf);exact⟨by rw[m t (by simp[a,y,F,YaD])],f⟩
end
def Ae8(o:Option AM)(s:ByteArray)(k:Nat):Int:=(s.data.toList.take k).foldl (fun q b=>As o q b.toNat) 0
def C4(o:Option AM)(s:ByteArray):Bool:=AY o (Ae8 o s s.size)
open Classical in
noncomputable def QD:Option AM→Int→Bool
 | none,_=>false
 | some A,q=>decide (E5 A.next A.final q.toNat)
theorem TJ{A:AM}(d:A.Ok){q:Int}{b:Nat}(h0:0≤q)(j:q<A.next.length)(h:b<256):0≤As (some A) q b∧As (some A) q b<A.next.length:=by
 obtain⟨n,rfl⟩:=YbS h0;have⟨row,a⟩:=Ac (l:=A.next) (k:=n) (by omega);have⟨c,f⟩:=Ac (l:=A.cell) (k:=b) (by rw[d.cell];exact h);have e:=d.rows row (c_ a);have i:=d.places c (c_ f);have⟨t,g⟩:=Ac (l:=row) (k:=c) (by omega);unfold As;rw[D_ (by simp[stN];omega)];simp only[U',a,YaD,f,Ydp,g];exact e.2 t (c_ g)
theorem Ma:Cp.Ones:=by
 intro S H b x h u a;obtain rfl:=h;simp[Ad]at a;rcases a with rfl | rfl | rfl | rfl<;>rfl
theorem Yg:Cp.Free:=fun S S' H H' a x h=>h
theorem g_.ofBlk{α:Type}{T:Ty α}{S:Nat→Prop}{H:Aa}{b n:Nat}{e:x_}{l:List v_}{xs:List α}(a:Q_ H b e l)(c:S b)(d:T.reps S H l xs)(f:n=xs.length)(g:n≤maxLen):g_ T S H (T_ b) n xs:=
 g_.intro c (Ydm f.symm) g (a.cells (fun j v h=>by rw[K_];exact h)) d
def Ag:Option AM→List (BitVec 256)
 | none=>[Ak8 256]
 | some A=>A.sets
def Yr(H H':Aa)(k:Nat):Prop:=H.size≤k∧k<H'.size
theorem HR{S:Nat→Prop}{H:Aa}{v:v_}{o:Option AM}(u:∀k,S k→k<H.size)(h:AZ S H v o):
  Ak prog 66 #[v] H fun w H'=>C_ (H_ H) H H'∧H.size≤H'.size∧l_ Cp (fun _=>False) H' H.size 101 w (Ag o):=by
 refine Ak.of_vc func66 rfl (call66 _) ?_;cases o with
 | none=>
   obtain rfl:=h;refine Aa2 RA (Ah (F5 0 255 (by decide) (by decide) H) fun H1 f=>?_);rw[It];have x:=Bv f;refine Ay C0 (Ad (Ak8 256)) rfl rfl (by decide) (by decide) ?_;intro b H2 l g m d;(conv=>whnf);exact⟨f.trans (d.mono fun k i=>by unfold H_ at i;omega),by omega,l_.ofBlk (by omega) m (Ty.reps_one rfl) rfl (by decide)⟩
 | some A=>
   obtain⟨pb,rfl,r,j,C,D,E,F,G,I,J,K,al,l,e,p,s,y,t,q⟩:=h;have z:A.cell.length≤256:=Ydm j.cell;have B:=j.sl;refine AdU RA (f_ KT ?_);refine G_ S5 (by rw[l.cell];exact MK) trivial ?_;refine OW (T:=Cp) (S:=S) (lo:=H.size) (xs:=[]) C0 Ma l_.nil (I_ _) (fun k i=>⟨u k i,?_⟩) e (by simp only[maxLen,m_];omega) (by simp only[m_];omega) ?_
   ·rintro⟨o,n,c,h⟩;cases h
   intro L H2 a d g _;rw[Ybo]at a;(conv=>whnf);exact⟨d.mono fun k i=>⟨i,fun l=>by have⟨o,n,c,h⟩:=l;cases h⟩,g,a.free Yg⟩
end
def Kt(s b:BitVec 256):List (BitVec 256):=[b &&& s,b &&& ~~~s].filter fun x=> !decide (x=0)
def Mu(bl:List (BitVec 256))(s:BitVec 256):List (BitVec 256):=bl.flatMap (Kt s)
def Dc(sets:List (BitVec 256)):List (BitVec 256):=sets.foldl Mu [Ak8 256]
def Cw(bl:List (BitVec 256))(b:Nat):List (BitVec 256):=bl.filter fun s=>(AE s 0).1==b
def Bz(sets:List (BitVec 256)):List (BitVec 256):=(AjN 256).flatMap (Cw (Dc sets))
def CG(sets:List (BitVec 256)):List Nat:=(Bz sets).map fun c=>(AE c 0).1
theorem WZ(x:BitVec 256)(h:∀b,b<256→x.getLsbD b=false):x=0:=by
 apply Yap;intro i a;rw[h i a];simp
theorem Gn{x:BitVec 256}(h:x≠0):x.getLsbD (AE x 0).1=true∧∀b,b<(AE x 0).1→x.getLsbD b=false:=by
 unfold AE;cases e:(AjN 256).find? fun b=>decide (0≤b)&&x.getLsbD b with
 | none=>
   exfalso;apply h;apply WZ;intro b f;have:=List.find?_eq_none.1 e b (YaY.2 f);simpa using this
 | some c=>
   have g:=List.find?_some e;simp only[t_,decide_true,Ya0]at g;refine⟨g,fun b f=>?_⟩;have j:c<256:=by simpa using List.mem_of_find?_eq_some e
   obtain⟨_,i,k,a,d⟩:=List.find?_eq_some_iff_getElem.1 e;simp only[List.getElem_range]at a;subst a;have:=d b f;simpa using this
theorem AgA(s b:BitVec 256):∀x∈Kt s b,x≠0:=fun x a=>by
 have:=(Ybn.1 a).2;simpa using this
theorem Ag9(s b:BitVec 256){c:Nat}(h:b.getLsbD c=true):∃x∈Kt s b,x.getLsbD c=true:=by
 have f:c<256:=by
  apply Classical.byContradiction;intro i;rw[BitVec.getLsbD_of_ge _ _ (by omega)]at h;cases h
 have a:∀x:BitVec 256,x.getLsbD c=true→x≠0:=fun x e g=>by rw[g]at e;simp at e
 cases hs:s.getLsbD c with
 | true=>
   have d:(b &&& s).getLsbD c=true:=by rw[YcL,h,hs];rfl
   exact⟨b &&& s,Ybn.2 ⟨by simp,by rw[j_ (a _ d)];rfl⟩,d⟩
 | false=>
   have d:(b &&& ~~~s).getLsbD c=true:=by rw[YcL,YcM,h,hs];simp[f]
   exact⟨b &&& ~~~s,Ybn.2 ⟨by simp,by rw[j_ (a _ d)];rfl⟩,d⟩
theorem VI(s b:BitVec 256){x:BitVec 256}(a:x∈Kt s b){c:Nat}(h:x.getLsbD c=true):b.getLsbD c=true:=by
 have:=(Ybn.1 a).1;rcases YaP.1 this with rfl | this
 ·rw[YcL,r_]at h;exact h.1
 ·rw[Y_]at this;subst this;rw[YcL,r_]at h;exact h.1
theorem YZ(s b:BitVec 256){x:BitVec 256}(f:x∈Kt s b){c d:Nat}(h:x.getLsbD c=true)(k:x.getLsbD d=true):s.getLsbD c=s.getLsbD d:=by
 have:=(Ybn.1 f).1;rcases YaP.1 this with rfl | this
 ·rw[YcL,r_]at h k;rw[h.2,k.2]
 ·rw[Y_]at this;subst this;rw[YcL,r_,YcM]at h k;have a:=h.2;have e:=k.2;simp only[r_,Yax]at a e;rw[a.2,e.2]
theorem Xh{x:BitVec 256}(h:x≠0):1≤BD x:=by
 have b:=(Gn h).1;have c:=BC x 0;unfold BD;exact Yde (a:=(AE x 0).1) (Ybn.2 ⟨YaY.2 c,b⟩)
theorem NT(p q r:Nat→Bool):∀l:List Nat,(∀c∈l,(p c=true∧q c=false∧r c=true)∨(p c=false∧q c=true∧r c=true)∨(p c=false∧q c=false∧r c=false))→(l.filter p).length+(l.filter q).length=(l.filter r).length
 | [],_=>rfl
 | c::l,h=>by
   have g:=NT p q r l fun d f=>h d (YbY _ f);rcases h c Yca with⟨a,b,e⟩ | ⟨a,b,e⟩ | ⟨a,b,e⟩<;>simp only[YcU,a,b,e,if_true,Yaw,if_false,b_]<;>omega
theorem Xg(s b:BitVec 256):BD (b &&& s)+BD (b &&& ~~~s)=BD b:=by
 unfold BD;refine NT _ _ _ _ fun c a=>?_;have a:=YaY.1 a;have d:(b &&& s).getLsbD c=(b.getLsbD c&&s.getLsbD c):=YcL;have e2:(b &&& ~~~s).getLsbD c=(b.getLsbD c&& !s.getLsbD c):=by rw[YcL,YcM];simp[a]
 rw[d,e2];cases b.getLsbD c<;>cases s.getLsbD c<;>simp
theorem Uu:BD 0=0:=by
 unfold BD;simp
theorem Ac7(s b:BitVec 256):((Kt s b).map BD).sum=BD b:=by
 rw[←Xg s b];unfold Kt;have a:∀x:BitVec 256,(([x].filter fun x=> !decide (x=0)).map BD).sum=BD x:=fun x=>by
  by_cases h:x=0
  ·subst h;rw[Uu];rfl
  ·rw[YbT (by rw[j_ h];rfl)];simp
 rw[show [b &&& s,b &&& ~~~s]=[b &&& s]++[b &&& ~~~s]from rfl,Ybg,YcB,Ydd,a,a]
structure IL(bl sets:List (BitVec 256)):Prop where
 ne:∀x∈bl,x≠0
 all:∀c,c<256→∃x∈bl,x.getLsbD c=true
 same:∀x∈bl,∀c d,x.getLsbD c=true→x.getLsbD d=true→∀s∈sets,s.getLsbD c=s.getLsbD d
 sum:(bl.map BD).sum=256
theorem IL.len{a sets:List (BitVec 256)}(h:IL a sets):a.length≤256:=by
 refine YbA ?_ (Ydm h.sum);have b:∀l:List (BitVec 256),(∀x∈l,x≠0)→l.length≤(l.map BD).sum:=by
  intro l
  induction l with
  | nil=>intro _;exact I_ _
  | cons x l c=>
    intro h;have:=c fun y d=>h y (YbY _ d);have:=Xh (h x Yca);simp only[b_,YaV,YcX];omega
 exact b a h.ne
theorem IL.cut{i sets:List (BitVec 256)}(h:IL i sets)(s:BitVec 256):IL (Mu i s) (sets++[s]):=by
 refine⟨fun x a=>?_,fun c l=>?_,fun x a c d e g t f=>?_,?_⟩
 ·have⟨b,j,a⟩:=YcS.1 a;exact AgA s b x a
 ·have⟨b,j,k⟩:=h.all c l;have⟨x,a,e⟩:=Ag9 s b k;exact⟨x,YcS.2 ⟨b,j,a⟩,e⟩
 ·have⟨b,j,a⟩:=YcS.1 a;rcases q_.1 f with f | f
  ·exact h.same b j c d (VI s b a e) (VI s b a g) t f
  ·rw[Y_]at f;subst f;exact YZ t b a e g
 ·refine Eq.trans ?_ h.sum;unfold Mu;clear h
  induction i with
  | nil=>rfl
  | cons b i m=>
    rw[Yc6,YcB,Ydd,m,Ac7,YaV,YcX]
theorem Ii(sets:List (BitVec 256)):IL (Dc sets) sets:=by
 have b:∀(rest done a:List (BitVec 256)),IL a done→IL (rest.foldl Mu a) (done++rest):=by
  intro rest
  induction rest with
  | nil=>intro done a h;simpa using h
  | cons s rest f=>
    intro done a h;have:=f (done++[s]) (Mu a s) (h.cut s);simpa using this
 refine b sets [] [Ak8 256] ⟨fun x e=>?_,fun c g=>⟨_,Y_.2 rfl,by rw[Yar];exact n_ g⟩,fun x e c d _ _ s hs=>(by cases hs),by kernel_rfl⟩;rw[Y_]at e;subst e;decide
theorem WA(sets:List (BitVec 256)):∀r∈CG sets,r<256:=fun r a=>by
 obtain⟨x,-,rfl⟩:=I'.1 a;exact BC x 0
theorem AaF(sets:List (BitVec 256)){c:Nat}(d:c<256):∃r∈CG sets,r≤c∧∀s∈sets,s.getLsbD r=s.getLsbD c:=by
 have h:=Ii sets;have⟨x,b,a⟩:=h.all c d;have⟨e,f⟩:=Gn (h.ne x b);refine⟨(AE x 0).1,I'.2 ⟨x,YcS.2 ⟨(AE x 0).1,YaY.2 (BC x 0),Ybn.2 ⟨b,by simp⟩⟩,rfl⟩,?_,fun s hs=>h.same x b _ _ e a s hs⟩;apply Classical.byContradiction;intro g;have:=f c (by omega);rw[a]at this;cases this
theorem NS(k:Nat):∀n,((AjN n).filter fun b=>k==b).length=if k<n then 1 else 0
 | 0=>rfl
 | n+1=>by
   rw[YcW,Ybg,J_,NS k n,YcU,Yda];cases a:(k==n)with
   | true=>
     have h:=beq_iff_eq.1 a;subst h;simp
   | false=>
     have h:k≠n:=fun h=>by rw[h]at a;simp at a
     rw[D_ (show¬(false=true) by decide)];by_cases c:k<n
     ·rw[F_ c,F_ (show k<n+1 by omega)]<;>rfl
     ·rw[D_ c,D_ (show¬k<n+1 by omega)]<;>rfl
theorem reps_len(sets:List (BitVec 256)):(Bz sets).length≤256:=by
 have h:=(Ii sets).len;have c:∀(a:List (BitVec 256)),((AjN 256).flatMap (Cw a)).length=a.length:=by
  intro a
  induction a with
  | nil=>
    have:∀l:List Nat,l.flatMap (Cw [])=[]:=fun l=>by simp[Cw]
    rw[this]
  | cons x a d=>
    have e:∀l:List Nat,(l.flatMap (Cw (x::a))).length=(l.flatMap (Cw a)).length+(l.filter fun b=>(AE x 0).1==b).length:=by
     intro l
     induction l with
     | nil=>rfl
     | cons b l d=>
       rw[Yc6,Yc6,J_,J_,d,YcU];have:(Cw (x::a) b).length=(Cw a b).length+if((AE x 0).1==b)=true then 1 else 0:=by
        unfold Cw;rw[YcU];split<;>simp
       rw[this];split<;>simp<;>omega
    rw[e,d,b_]
    congr 1
    rw[NS,F_ (BC x 0)]
 unfold Bz;rw[c];exact h
end Go.Proofs.YtfbghcpdinlmcaaGreatDoor
namespace Go.VC
theorem B_.newCap{α:Type}{T:Ty α}{e:x_}{B:Nat→Prop}{H0 H H':Aa}{ps:List Pc}{b cap:Nat}{l:List v_}(st:B_ B H0 H ps)(d:b=H.size)(hs:H'.size=b+1)(a:Q_ H' b e l)(f:C_ (fun k=>k<b) H H')(g:l.length=cap*T.size)(i:cap≤maxLen):B_ B H0 H' (ps++[pS T e (T_ b) 0 cap []]):=by
 subst d;have h:=Sl.made (sz:=T.size) (n:=0) (cap:=cap) (t_ _) a (t_ _) i g;rw[Nat.zero_mul,Ybq]at h;refine st.add (f.mono fun k a=>a) _ ⟨⟨[],h,rfl⟩,fun k a=>a.elim⟩ fun k a=>?_;rcases a with⟨o,n',c,h⟩ | h
 ·cases h;omega
 ·exact h.elim
end Go.VC
namespace Go.Proofs.YtfbghcpdinlmcaaGreatDoor
open Go.VC
theorem YY(s b:BitVec 256):(Kt s b).length≤2:=YbA (Ybd _ _) (I_ 2)
theorem Qb(s:BitVec 256):∀a:List (BitVec 256),(a.flatMap (Kt s)).length≤2*a.length
 | []=>I_ _
 | b::a=>by
   have c:=Qb s a;have d:=YY s b;rw[Yc6,J_,b_];omega
theorem Yj{α β:Type}(f:α→List β){l:List α}{k:Nat}{x:α}(h:l[k]?=some x):(l.take (k+1)).flatMap f=(l.take k).flatMap f++f x:=by
 rw[Af h,YcV];simp
theorem Sq{sets:List (BitVec 256)}{k:Nat}{s:BitVec 256}(h:sets[k]?=some s):Dc (sets.take (k+1))=(Dc (sets.take k)).flatMap (Kt s):=by
 unfold Dc;rw[Af h,Ybh];rfl
theorem AjI:(prog.info? 263).bind (·.zero)=some (.agg #[.int .u64 0,.int .u64 0,.int .u64 0,.int .u64 0,.int .u64 0,.int .u64 0,.int .u64 0,.int .u64 0]):=by kernel_rfl
theorem AiI(x y:BitVec 256):Instr.fill (fun i=>some (i*4,4)) (Value.agg #[.int .u64 0,.int .u64 0,.int .u64 0,.int .u64 0,.int .u64 0,.int .u64 0,.int .u64 0,.int .u64 0]).cells [(0,Bt x),(1,Bt y)]=some (Ad x++Ad y).toArray:=by
 unfold Bt Ad;generalize wd x 0=a;generalize wd x 1=b;generalize wd x 2=c;generalize wd x 3=d;generalize wd y 0=e;generalize wd y 1=f;generalize wd y 2=g;generalize wd y 3=h;simp[Instr.fill,Value.cells]
theorem Nt(s:BitVec 256):Ai (Ad 0) 0 (Ad s)=Ad s:=by simp[Ai,Ad]
theorem Kq{S:Nat→Prop}{H:Aa}{sa:Option Addr}{sc:Nat}{sets:List (BitVec 256)}(hS:∀k,S k→k<H.size)(h:g_ Cp S H sa sc sets)(bw:sets.length≤33554432):
  Ak prog 96 #[.slice sa sets.length sc] H fun v H'=>C_ (H_ H) H H'∧∃a cap,v= .slice a (Bz sets).length cap∧g_ Cp (H_ H') H' a cap (Bz sets):=by
 refine Ak.of_vc func96 rfl (call96 _) (Ah (F5 0 255 (by decide) (by decide) H) fun H1 b0=>?_);rw[It];have st1:=(St.nil H).call b0;refine Ay C0 (Ad (Ak8 256)) rfl rfl (by decide) (by decide) ?_;intro b2 H2 b5 b6 b7 b9;have bd:=st1.new (T:=Cp) (n:=1) (xs:=[Ak8 256]) b5 b6 b7 b9 (Ty.reps_one rfl) rfl (by decide);(conv=>whnf);refine A0.mk [3,21] (fun x:Nat×List (BitVec 256)×Option Addr×Nat=>match x with | (k,g,a,c)=>[.slice a g.length c,A_ k])
  (fun x H3=>x.1≤sets.length∧x.2.1=Dc (sets.take x.1)∧St H H3 [pS Cp 101 x.2.2.1 x.2.1.length x.2.2.2 x.2.1]) (fun x _=>sets.length-x.1) ?_ ?_
 ·(conv=>whnf);exact⟨(0,[Ak8 256],some ⟨b2,0,none⟩,1),rfl,by simp,rfl,bd⟩
 ·rintro⟨k,g,a3,c3⟩ H3 bo ⟨hk,E,J⟩;simp only at hk E J;have M:=Ii (sets.take k);rw[←E]at M;have bp:=M.len;refine AG.m2 (fun hz=>?_) (fun hz=>?_)
  ·have⟨s,hs⟩:=Ac (l:=sets) (k:=k) (by omega);have F:=Sq hs;rw[←E]at F;refine ixr (i:=k) C0 (h.frame (J.old.mono hS)) hs rfl ?_;rintro b4 o4 bx bq G rfl;refine L_ (cs:=Ad s) AT G trivial (Am (Bt 0) (Ad 0) rfl rfl ?_);intro p5 H5 N O K P;have Q:=J.box N O K P;refine AN (cs:=Ad s) Q 1 rfl rfl (show 0+4≤4 by decide) rfl fun H6 B=>?_;rw[Nt]at B;(conv=>whnf);refine A0.mk [6,27] (fun x:Nat×List (BitVec 256)×Option Addr×Nat=>match x with | (j,L,a,c)=>[.slice a L.length c,A_ j])
    (fun x H7=>x.1≤g.length∧x.2.1=(g.take x.1).flatMap (Kt s)∧St H H7 [pS Cp 101 a3 g.length c3 g,pB 101 p5 (Ad s),pS Cp 101 x.2.2.1 x.2.1.length x.2.2.2 x.2.1]) (fun x _=>g.length-x.1) ?_ ?_
   ·(conv=>whnf);exact⟨(0,[],none,0),rfl,by simp,rfl,B_.nils B Cp 101⟩
   ·rintro⟨j,L,a7,c7⟩ H7 R ⟨hj,r,w⟩;simp only at hj r w;refine AG.m2 (fun U=>?_) (fun U=>?_)
    ·have⟨b,hb⟩:=Ac (l:=g) (k:=j) (by omega);have be:=Qb s (g.take j);rw[←r,YaW]at be;refine ixO (j:=j) C0 w 0 rfl hb rfl fun b8 o8 bf bg V W=>?_;obtain rfl:=W;refine L_ (cs:=Ad b) AT V trivial (Am (Bt 0) (Ad 0) rfl rfl ?_);intro p9 H9 X Y Z a0;have a1:=w.box X Y Z a0;refine AN (cs:=Ad b) a1 3 rfl rfl (show 0+4≤4 by decide) rfl fun H10 q=>?_;rw[Nt]at q;refine Aq.held (H_ H10) 99 (sq [0,1,3,4,7] (.f 2 (.f 5 (sq [6] .e)))) rfl (by kernel_rfl) ?_;have q5:=q.blk 1 rfl;have q9:=q.blk 3 rfl;refine L_ (cs:=Ad b) AT (q9.cells fun j v t=>by rw[K_];exact t) q9.lt ?_;refine L_ (cs:=Ad s) AT (q5.cells fun j v t=>by rw[K_];exact t) q5.lt ?_;refine L_ (cs:=Ad b) AT (q9.cells fun j v t=>by rw[K_];exact t) q9.lt ?_;refine L_ (cs:=Ad s) AT (q5.cells fun j v t=>by rw[K_];exact t) q5.lt ?_;refine Ah (UL b s H10) fun H11 u=>?_;have y:=q.call u;refine⟨u,?_⟩;refine Ah (AdL b s H11) fun H12 C=>?_;have I:=y.call C;refine⟨u.trans (C.mono fun k hk=>Ar u hk),?_⟩;refine Cz Af1 _ AjI (Ad (b &&& s)++Ad (b &&& ~~~s)) (AiI _ _) ?_;have a5:Kt s b=[b &&& s,b &&& ~~~s].filter fun x=> !decide (x=0):=rfl;generalize b &&& s=x0 at*;generalize b &&& ~~~s=x1 at*;(conv=>whnf);refine A0.mk [6,38] (fun x:Nat×List (BitVec 256)×Option Addr×Nat=>match x with | (i,L,a,c)=>[.slice a L.length c,A_ i])
      (fun x H13=>x.1≤2∧x.2.1=L++([x0,x1].take x.1).filter (fun x=> !decide (x=0))∧x.2.1.length≤L.length+x.1∧St H H13 [pS Cp 101 a3 g.length c3 g,pB 101 p5 (Ad s),pS Cp 101 x.2.2.1 x.2.1.length x.2.2.2 x.2.1,pB 101 p9 (Ad b)]) (fun x _=>2-x.1) ?_ ?_
     ·(conv=>whnf);exact⟨(0,L,a7,c7),rfl,by simp,by simp,by simp,I⟩
     ·rintro⟨i,ny,a8,a9⟩ H13 az ⟨hi,a2,ab,z⟩;simp only at hi a2 ab z;refine AG.m2 (fun a4=>?_) (fun a4=>?_)
      ·have bh:i=0∨i=1:=by omega
       obtain⟨x,hx⟩:∃x,[x0,x1][i]?=some x:=Ac (by simp;omega);have e:Value.agg (((Ad x0++Ad x1).toArray).extract ((i:Int).toNat*4) ((i:Int).toNat*4+4))=Bt x:=by
        rcases bh with rfl | rfl<;>cases hx<;>rfl
       have m:L++([x0,x1].take (i+1)).filter (fun x=> !decide (x=0))=ny++[x].filter (fun x=> !decide (x=0)):=by
        rw[a2,Af hx,Ybg,YaN]
       refine An.run (AgN (i:=(i:Int)) Af1 AT (by omega) (show(i:Int)<((2:Nat):Int) by omega) ?_);rw[e];refine Am (Bt 0) (Ad 0) rfl rfl ?_;intro bz H14 ae ag ah ai;have aj:=z.box ae ag ah ai;refine AN (cs:=Ad x) aj 4 rfl rfl (show 0+4≤4 by decide) rfl fun H15 D=>?_;rw[Nt]at D;have ak:=D.blk 4 rfl;refine L_ (cs:=Ad x) AT (ak.cells fun j v t=>by rw[K_];exact t) trivial ?_;refine Cz Ch (Bt 0) rfl (Ad 0) rfl (Nr x 0 ?_);by_cases am:x=0
       ·have d:(!decide (x=0))=false:=by rw[n_ am];rfl
        rw[d];have hf:[x].filter (fun x=> !decide (x=0))=[]:=YbU (p:=fun x=> !decide (x=0)) (by rw[d];decide);rw[hf,YaX]at m;(conv=>whnf);rw[P_ i (by omega)];refine⟨rfl,(i+1,ny,a8,a9),by simp,⟨by simp only;omega,m.symm,by simp only;omega,?_⟩,by simp only;omega⟩;exact D.pick [0,1,2,3] (by decide)
       ·have d:(!decide (x=0))=true:=by rw[j_ am];rfl
        rw[d];have hf:[x].filter (fun x=> !decide (x=0))=[x]:=YbT (p:=fun x=> !decide (x=0)) d;rw[hf]at m;refine L_ (cs:=Ad x) AT (ak.cells fun j v t=>by rw[K_];exact t) trivial ?_;refine Ay C0 (Ad x) rfl rfl (by decide) (by decide) ?_;intro c1 H16 ao br ap aq;have ar:=D.skip ao aq;refine QF (ys:=[x]) (ds:=Ad x) ar 2 C0 rfl (ap.cells fun j v t=>by rw[K_];exact t) (Ty.reps_one rfl) rfl (by simp[Ad,Value.oneCell']) (by simp only[h_];omega) (by decide) fun a' c' H17 au _=>?_;(conv=>whnf);rw[P_ i (by omega)];refine⟨rfl,(i+1,ny++[x],a',c'),by simp,⟨by simp only;omega,m.symm,by simp only[J_,h_];omega,?_⟩,by simp only;omega⟩;simp only[J_];exact au.pick [0,1,2,3] (by decide)
      ·obtain rfl:i=2:=by omega
       have bi:ny=(g.take (j+1)).flatMap (Kt s):=by
        rw[Yj (Kt s) hb,←r,a2,a5];rfl
       (conv=>whnf);rw[P_ j (by omega)];refine⟨rfl,(j+1,ny,a8,a9),by simp,⟨by simp only;omega,bi,?_⟩,by simp only;omega⟩;exact z.pick [0,1,2] (by decide)
    ·obtain rfl:j=g.length:=by omega
     rw[Yc0]at r;(conv=>whnf);rw[P_ k (by omega)];refine⟨rfl,(k+1,L,a7,c7),by simp,⟨by simp only;omega,by simp only;rw[F,r],?_⟩,by simp only;omega⟩;exact w.pick [2] (by decide)
  ·obtain rfl:k=sets.length:=by omega
   rw[Yc0]at E M;have bu:∀x:BitVec 256,((AE x 0).1:Int)=((AE x 0).1:Int):=fun _=>rfl;refine AbE C0 (by omega) (by omega) (by omega) (by omega) ?_;intro p5 H5 N O K P;rw[U']at K;rw[U',Int.toNat_zero];have Q:=J.newCap (T:=Cp) (cap:=g.length) N O K P (by simp[Cp]) (by unfold maxLen;omega);have c2:=reps_len sets;(conv=>whnf);refine A0.mk [11,55] (fun x:Nat×List (BitVec 256)×Option Addr×Nat=>match x with | (b,out,a,c)=>[.slice a out.length c,A_ b])
    (fun x H6=>x.1≤256∧x.2.1=(AjN x.1).flatMap (Cw g)∧St H H6 [pS Cp 101 a3 g.length c3 g,pS Cp 101 x.2.2.1 x.2.1.length x.2.2.2 x.2.1]) (fun x _=>256-x.1) ?_ ?_
   ·(conv=>whnf);exact⟨(0,[],some ⟨p5,0,none⟩,g.length),rfl,by simp,rfl,Q⟩
   ·rintro⟨b,out,a6,c6⟩ H6 bj ⟨hb,A,B⟩;simp only at hb A B;have c4:out.length≤b*256:=by
     rw[A];clear A
     induction b with
     | zero=>simp
     | succ b ih=>
       have h1:=ih (by omega);have h2:(Cw g b).length≤g.length:=Ybd _ _;rw[YcW,YcV,J_];simp only[Yc6,List.flatMap_nil,YaX];omega
    refine AG.m2 (fun U=>?_) (fun U=>?_)
    ·have m:(AjN (b+1)).flatMap (Cw g)=out++Cw g b:=by
      rw[A,YcW,YcV];simp
     (conv=>whnf);refine A0.mk [11,60] (fun x:Nat×List (BitVec 256)×Option Addr×Nat=>match x with | (j,o,a,c)=>[.slice a o.length c,A_ j])
      (fun x H7=>x.1≤g.length∧x.2.1=out++(g.take x.1).filter (fun s=>(AE s 0).1==b)∧x.2.1.length≤out.length+x.1∧St H H7 [pS Cp 101 a3 g.length c3 g,pS Cp 101 x.2.2.1 x.2.1.length x.2.2.2 x.2.1]) (fun x _=>g.length-x.1) ?_ ?_
     ·(conv=>whnf);exact⟨(0,out,a6,c6),rfl,by simp,by simp,by simp,B⟩
     ·rintro⟨j,o,a7,c7⟩ H7 R ⟨hj,ho,bm,w⟩;simp only at hj ho bm w;refine AG.m2 (fun a4=>?_) (fun a4=>?_)
      ·have⟨x,hx⟩:=Ac (l:=g) (k:=j) (by omega);have r:out++(g.take (j+1)).filter (fun s=>(AE s 0).1==b)=o++[x].filter (fun s=>(AE s 0).1==b):=by
        rw[ho,Af hx,Ybg,YaN]
       refine An.run (ixO (j:=j) C0 w 0 rfl hx rfl fun b8 o8 bf bg V W=>?_);obtain rfl:=W;refine L_ (cs:=Ad x) AT V trivial (Am (Bt 0) (Ad 0) rfl rfl ?_);intro p9 H9 X Y Z a0;have a1:=w.box X Y Z a0;refine AN (cs:=Ad x) a1 2 rfl rfl (show 0+4≤4 by decide) rfl fun H10 q=>?_;rw[Nt]at q;refine L_ (cs:=Ad x) AT ((q.blk 2 rfl).cells fun j v t=>by rw[K_];exact t) trivial ?_;refine Ah (LM x 0 (by decide) H10) fun H11 u=>?_;have y:=q.call u;have bn:=y.blk 2 rfl;have c5:=BC x 0;(conv=>whnf);rw[W_ (x:=((AE x 0).1:Int)) (by omega)];cases hd:((AE x 0).1==b)with
       | false=>
         have d:(((AE x 0).1:Int)==(b:Int))=false:=by
          rw[beq_eq_false_iff_ne]at hd ⊢;omega
         have hf:[x].filter (fun s=>(AE s 0).1==b)=[]:=YbU (p:=fun s=>(AE s 0).1==b) (by rw[hd];decide);rw[hf,YaX]at r;(conv=>whnf);rw[d];(conv=>whnf);rw[P_ j (by omega)];refine⟨rfl,(j+1,o,a7,c7),by simp,⟨by simp only;omega,r.symm,by simp only;omega,?_⟩,by simp only;omega⟩;exact y.pick [0,1] (by decide)
       | true=>
         have d:(((AE x 0).1:Int)==(b:Int))=true:=by
          rw[beq_iff_eq]at hd ⊢;omega
         have hf:[x].filter (fun s=>(AE s 0).1==b)=[x]:=YbT (p:=fun s=>(AE s 0).1==b) hd;rw[hf]at r;(conv=>whnf);rw[d];refine L_ (cs:=Ad x) AT (bn.cells fun j v t=>by rw[K_];exact t) trivial ?_;refine Ay C0 (Ad x) rfl rfl (by decide) (by decide) ?_;intro c8 H12 aw bv ax C;have I:=y.skip aw C;refine QF (ys:=[x]) (ds:=Ad x) I 1 C0 rfl (ax.cells fun j v t=>by rw[K_];exact t) (Ty.reps_one rfl) rfl (by simp[Ad,Value.oneCell']) (by simp only[h_];omega) (by decide) fun a' c' H13 z _=>?_;(conv=>whnf);rw[P_ j (by omega)];refine⟨rfl,(j+1,o++[x],a',c'),by simp,⟨by simp only;omega,r.symm,by simp only[J_,h_];omega,?_⟩,by simp only;omega⟩;simp only[J_];exact z.pick [0,1] (by decide)
      ·obtain rfl:j=g.length:=by omega
       rw[Yc0]at ho;(conv=>whnf);rw[P_ b (by omega)];exact⟨rfl,(b+1,o,a7,c7),by simp,⟨by simp only;omega,by simp only;rw[m,ho];rfl,w⟩,by simp only;omega⟩
    ·obtain rfl:b=256:=by omega
     have ay:out=Bz sets:=by rw[A,E];rfl
     have t:=B.view 1 rfl;subst ay;(conv=>whnf);exact⟨B.old,_,_,rfl,t⟩
end Go.Proofs.YtfbghcpdinlmcaaGreatDoor
namespace Go.VC
section
variable{α:Type}{T:Ty α}{e:x_}{a:Option Addr}{n cap:Nat}{xs ys:List α}{B S:Nat→Prop}{H0 H:Aa}{ps:List Pc}
theorem Ag4{P:w_}{t ty by_:Nat}{z:v_}{r:Option Addr}{s:Nat}{K:v_→Aa→Prop}(u:T.Free)(f:T.Ones)(st:B_ B H0 H ps)(i:Nat)(v:SlT P t e T.size by_ z)(m:ps[i]?=some (pS T e a n cap xs))(g:∀k,S k→B k)(w:g_ T S H r s ys)
  (o:xs.length+ys.length≤8796093022208) (hby:by_≤16)
  (k:∀a' d H',B_ B H0 H' (ps.set i (pS T e a' (xs.length+ys.length) d (xs++ys)))→K (.slice a' (xs.length+ys.length) d) H'):
  BH P (Builtin.append_ #[t,t] ty [.slice a n cap,.slice r ys.length s].toArray) H K:=by
 refine OW (T:=T) (S:=S) (lo:=0) v f ((st.at_ i m).1.free u) (t_ _) (fun k c=>⟨st.up (g k c),fun p=>(st.in_ i m (.inl p)).1 (g k c)⟩) w (by unfold maxLen;omega) (by have:=YbM o hby;omega) ?_;intro x H' b j q l;have b:l_ T none_ H' 0 e x (xs++ys):=b.free u;obtain⟨a',d,rfl⟩:=b.hull;rw[J_]at b l ⊢;refine k a' d H' (st.upd i m (j.mono fun k c=>⟨c.1,fun p=>c.2 (.inl p)⟩) _ ⟨b,fun k c=>c.elim⟩ (fun k c=>?_) (fun k c=>?_) q)
 ·rcases c with c | c
  ·rcases l k c with h | h
   ·exact .inl (.inl h)
   ·exact .inr h
  ·exact c.elim
 ·rcases c with c | c
  ·exact(b.lt c).2
  ·exact c.elim
theorem B_.capI(st:B_ B H0 H ps)(i:Nat)(d:ps[i]?=some (pS T e a n cap xs)):xs.length≤cap:=by
 obtain⟨g,⟨-,h⟩,-⟩:=(st.at_ i d).1;rcases h with⟨-,h⟩ | ⟨b,c,l,f,-,-,j,-⟩
 ·omega
 ·injection f with e1 e2 e3
  omega
theorem B_.popI{x:α}(st:B_ B H0 H ps)(i:Nat)(f:ps[i]?=some (pS T e a n cap (xs++[x]))):B_ B H0 H (ps.set i (pS T e a xs.length cap xs)):=by
 have d:=(st.at_ i f).1;refine st.say i f _ ⟨d.pop,fun k b=>b.elim⟩ fun k b=>?_;rcases b with⟨o,m,c,b⟩ | b
 ·injection b with e1 e2 e3
  subst e1;exact .inl ⟨o,n,cap,rfl⟩
 ·exact b.elim
end
theorem AiW{α:Type}{Ok:α→Prop}{enc:α→v_}{P:w_}{t kt et vt:x_}{z:v_}{S:Nat→Prop}{H:Aa}{b N:Nat}{m:α→Option v_}(B:I4 P t kt et z)(h:IK Ok enc H b m)(C:S b)(D:∀l:List α,l.Nodup→(∀a∈l,(m a).isSome=true)→l.length≤N){K:v_→Prop}
  (k:∀c:Nat,c≤N→K (.int .i64 (c:Int))):AJ P (Builtin.len_ #[t] vt [.map (some b)].toArray) S H K:=by
 obtain⟨⟨f,p,E,F,G,W⟩,I⟩:=h;have q:∀k,k≤f.size→∃l:List α,l.length=k∧∀(j:Nat) (a:α),l[j]?=some a→∃x,f[j]?=some x∧x.key=enc a∧m a=some x.val:=by
  intro k
  induction k with
  | zero=>exact fun _=>⟨[],rfl,fun j a h=>by simp at h⟩
  | succ k J=>
    intro X;have⟨l,r,g⟩:=J (by omega);have o:f[k]?=some f[k]:=Array.getElem?_eq_getElem (by omega);have⟨a,L,e2⟩:=G k _ o;refine⟨l++[a],by simp[r],fun j a' d=>?_⟩;by_cases M:j<k
    ·rw[YaG (by omega)]at d;exact g j a' d
    ·have s:=(O_.1 d).1;simp only[J_,b_,m_]at s;obtain rfl:j=k:=by omega
     rw[YaE (by omega),r,Ycm]at d;simp only[YcA,AjW.injEq]at d;subst d;exact⟨_,o,L,e2⟩
 have⟨l,r,g⟩:=q f.size (I_ _);have u:l.Nodup:=by
  unfold List.Nodup;rw[Ya9];intro i j O d Q e;obtain⟨x,o,n,-⟩:=g i _ (N' O);obtain⟨y,R,v,-⟩:=g j _ (N' d);rw[e]at n;have:=E2 F o R (n.trans v.symm);omega
 have T:=D l u fun a U=>by
  have⟨j,d⟩:=YaI U;obtain⟨x,-,-,e⟩:=g j a d;rw[e];rfl
 refine AJ.mk _ (fun w V=>?_) (k f.size (by omega));have A:=(V b C).trans E;simp[Builtin.len_,run_underlying B.under,Go.MapKept.run_getObj_map A,goInt]
end Go.VC
namespace Go.Proofs.YtfbghcpdinlmcaaGreatDoor
open Go.VC
theorem AgW(X:PS):mss X≤65536:=by unfold mss;exact Lb _
theorem AaP{a:N_}{q:Int}(h:a.has q=true):∃row,(AhC a)[q.toNat]?=some row∧row.length≤a.edges.length∧∀p,p∈row↔∃e∈a.edges,e.sil=true∧e.fr=q∧a.has e.to=true∧p=e.to:=by
 have j:0≤q∧q<(Fs a:Int):=by
  have:=SN a q;rw[h]at this;simpa using this.symm
 refine⟨_,HY _ _ (by omega),Yc9 _ _,fun p=>?_⟩;rw[Ydi];constructor
 ·rintro⟨e,d,b⟩;unfold keyS okE at b;split at b
  ·rename_i c;simp only[r_]at c;rw[YbP]at b;have f:=(N_.has_iff.1 c.1.1);split at b
   ·rename_i g;injection b with b
    exact⟨e,d,c.2,by simp only at g;omega,c.1.2,b.symm⟩
   ·cases b
  ·simp at b
 ·rintro⟨e,d,b,rfl,i,rfl⟩;refine⟨e,d,?_⟩;unfold keyS okE;rw[h,i,b];simp
structure Q5(a:N_)(X:List Int)(todo:List Int)(mm:Int→Option v_):Prop where
 has:∀q∈todo,a.has q=true
 one:∀p,Dom mm p→mm p=some (.int .i64 1)
 tcl:∀p∈todo,clS a (·∈X) p
 mcl:∀p,Dom mm p→clS a (·∈X) p
 all:∀x∈X,Dom mm x∨x∈todo
 shut:∀p,Dom mm p→∀e∈a.edges,e.sil=true→e.fr=p→a.has e.to=true→Dom mm e.to∨e.to∈todo
 len:todo.length≤X.length+(65536-mss (Dom mm))*33554432
theorem Q5.done{a:N_}{X:List Int}{b:Int→Option v_}(h:Q5 a X [] b):∀q,Dom b q↔clS a (·∈X) q:=fun q=>
 ⟨h.mcl q,JJ (Y:=Dom b) (fun x c=>(h.all x c).elim id fun h=>by cases h) (fun e d hs f g=>(h.shut e.fr g e d hs rfl f).elim id fun h=>by cases h) q⟩
theorem Q5.old_{a:N_}{X todo:List Int}{f:Int→Option v_}{q:Int}(h:Q5 a X (todo++[q]) f)(g:Dom f q):Q5 a X todo f:=by
 refine⟨fun p d=>h.has p (YbV _ d),h.one,fun p d=>h.tcl p (YbV _ d),h.mcl,fun x i=>?_,fun p d e j b k l=>?_,?_⟩
 ·rcases h.all x i with b | b
  ·exact .inl b
  ·rcases q_.1 b with b | b
   ·exact .inr b
   ·rw[Y_]at b;subst b;exact .inl g
 ·rcases h.shut p d e j b k l with c | c
  ·exact .inl c
  ·rcases q_.1 c with c | c
   ·exact .inr c
   ·rw[Y_]at c;rw[c];exact .inl g
 ·have:=h.len;simp only[J_,b_,m_]at this;omega
theorem Q5.new_{a:N_}{X todo row:List Int}{g:Int→Option v_}{q:Int}(h:Q5 a X (todo++[q]) g)(t:¬Dom g q)(u:row.length≤33554432)(f:∀p,p∈row↔∃e∈a.edges,e.sil=true∧e.fr=q∧a.has e.to=true∧p=e.to):
  Q5 a X (todo++row) (put g q (some (.int .i64 1)))∧mss (Dom (put g q (some (.int .i64 1))))<mss (Dom g):=by
 have n:=h.has q (by simp);have o:=N_.has_iff.1 n;have k:=h.tcl q (by simp);have r:mss (Dom (put g q (some (.int .i64 1))))<mss (Dom g):=AgX (fun p c=>(FL p).2 (.inl c)) o.1 (by omega) t ((FL q).2 (.inr rfl));refine⟨⟨fun p c=>?_,fun p c=>?_,fun p c=>?_,fun p c=>?_,fun x v=>?_,fun p c e s b l m=>?_,?_⟩,r⟩
 ·rcases q_.1 c with c | c
  ·exact h.has p (YbV _ c)
  ·obtain⟨e,-,-,-,j,rfl⟩:=(f p).1 c;exact j
 ·by_cases d:p=q
  ·subst d;unfold put;rw[F_ rfl]
  ·rcases(FL p).1 c with b | b
   ·unfold put;rw[D_ d];exact h.one p b
   ·exact absurd b d
 ·rcases q_.1 c with c | c
  ·exact h.tcl p (YbV _ c)
  ·obtain⟨e,b,l,m,j,rfl⟩:=(f p).1 c;exact NL a _ e b l j (by rw[m];exact k)
 ·rcases(FL p).1 c with b | b
  ·exact h.mcl p b
  ·rw[b];exact k
 ·rcases h.all x v with b | b
  ·exact .inl ((FL x).2 (.inl b))
  ·rcases q_.1 b with b | b
   ·exact .inr (YbV _ b)
   ·rw[Y_]at b;exact .inl ((FL x).2 (.inr b))
 ·by_cases d:p=q
  ·subst d;exact .inr (Ycz _ ((f e.to).2 ⟨e,s,b,l,m,rfl⟩))
  ·rcases(FL p).1 c with j | j
   ·rcases h.shut p j e s b l m with i | i
    ·exact .inl ((FL _).2 (.inl i))
    ·rcases q_.1 i with i | i
     ·exact .inr (YbV _ i)
     ·rw[Y_]at i;exact .inl ((FL _).2 (.inr i))
   ·exact absurd j d
 ·have:=h.len;have w:=AgW (Dom g);simp only[J_,b_,m_]at this ⊢;have y:(65536-mss (Dom g))+1≤65536-mss (Dom (put g q (some (.int .i64 1)))):=by omega
  have e2:=Ybw 33554432 y;omega
abbrev EI:x_:=5
theorem VB{S:Nat→Prop}{H0 H:Aa}{v:v_}{a:N_}{la:Option Addr}{lc:Nat}{X:List Int}(st:St H0 H [pS u_ 3 la X.length lc X])(hS:∀k,S k→k<H0.size)(hv:M6 S H0 v a)(hX:∀q∈X,a.has q=true)(ch:X.length≤2199023255552)(ax:a.edges.length≤33554432)(ag:EM prog H0):
  Ak prog 89 #[v,.slice la X.length lc] H fun r H'=>r= .string (nmB (FR (clS a (·∈X))))∧C_ (H_ H0) H0 H':=by
 obtain⟨nb,sa,sc,ta,tc,rfl,ay,K,ah,-⟩:=hv;have ce:=R5 a;refine Ak.of_vc func89 rfl (call89 _) (LL (Ok:=I8) (enc:=kI) fun mb H1 az b0 b4 b6=>?_);have st1:=st.mapNewW az b0 b4 b6;(conv=>whnf);refine A0.mk [1] (fun x:List Int×Option Addr×Nat×(Int→Option v_)=>match x with | (todo,W,Y,z)=>[.slice W todo.length Y])
  (fun x H2=>Q5 a X x.1 x.2.2.2∧St H0 H2 [pS u_ 3 x.2.1 x.1.length x.2.2.1 x.1,pMW I8 kI mb x.2.2.2]) (fun x _=>mss (Dom x.2.2.2)*33554434+x.1.length) ?_ ?_
 ·(conv=>whnf);refine⟨(X,la,lc,fun _=>none),rfl,⟨hX,(fun p Z=>by cases Z),fun p Z=>YW Z,(fun p Z=>by cases Z),fun x o=>.inr o,(fun p Z=>by cases Z),Ycn _ _⟩,st1⟩
 ·rintro⟨todo,W,Y,z⟩ H2 b7 ⟨hI,s⟩;simp only at hI s;have cg:=hI.len;have b8:todo.length≤4398046511104:=by
   have:(65536-mss (Dom z))*33554432≤65536*33554432:=Ybw _ (by omega);omega
  refine AG.m2 (fun hz=>?_) (fun hz=>?_)
  ·have M:todo≠[]:=fun e=>by subst e;simp at hz
   obtain⟨td,q,rfl⟩:∃td q,todo=td++[q]:=⟨todo.dropLast,todo.getLast M,(Ydb M).symm⟩;have bd:(td++[q]).length=td.length+1:=by simp
   have ai:=hI.has q (by simp);have aj:(td++[q])[td.length]?=some q:=by simp
   have w1:IntKind.wrap .i64 (((td++[q]).length:Int)-1)=(td.length:Int):=by rw[bd,w64 (by omega) (by omega)];omega
   (conv=>whnf);rw[w1];refine ixr (i:=td.length) AU (s.view 0 rfl) aj rfl ?_;rintro b3 o3 c3 cj be ⟨rfl,ak⟩;refine lT E_ be.one ?_;(conv=>whnf);rw[w1];refine WO AU (by omega) (by have:=s.capI 0 rfl;omega) ?_;rw[U'];have A:=s.popI 0 rfl;refine UM (a:=q) Ol Of trivial (A.mapW 1 rfl) trivial ?_;cases a0:z q with
   | some w=>
     have B:Dom z q:=by unfold Dom;rw[a0];rfl
     have hw:=hI.one q B;rw[a0]at hw;injection hw with hw
     subst hw;(conv=>whnf);exact⟨rfl,(td,W,Y,z),rfl,⟨hI.old_ B,A⟩,by simp only[J_,b_,m_];omega⟩
   | none=>
     have bf:¬Dom z q:=by unfold Dom;rw[a0];decide
     have⟨row,am,bg,bh⟩:=AaP ai;have⟨bi,a1⟩:=hI.new_ bf (YbA bg ax) bh;refine Jk (a:=q) A 1 Ol Of trivial rfl rfl fun H4 C=>(fa Na (G_ (v:=.slice sa (Fs a) sc) M9 ((K.eq (C.old nb (hS nb ay))) 0 _ rfl) trivial ?_));refine IB (i:=q.toNat) EY (ah.frame (C.old.mono hS)) (D4 _ _ _).symm am (by have:=N_.has_iff.1 ai;omega) ?_;rintro b5 o5 ck cm bj ⟨ra,rc,rfl,bm⟩;refine lT FK bj.one ?_;refine Ag4 (S:=S) (Ye .i64) (Yf .i64) C 0 AU rfl hS bm (by simp only[J_,b_,m_]at b8;omega) (by decide) fun a6 c6 H6 O=>?_;(conv=>whnf);refine⟨rfl,(td++row,a6,c6,put z q (some (.int .i64 1))),by simp only[J_],⟨bi,?_⟩,?_⟩
     ·simp only[J_];exact O
     ·have e2:=Ybw 33554434 (Nat.succ_le_of_lt a1);simp only[J_,b_,m_];omega
  ·obtain rfl:todo=[]:=Ya8 (by omega);have E:=hI.done;have F:∀q,Dom z q→0≤q∧q<65536:=fun q t=>FP (JI (X:=(·∈X)) hX) q ((E q).1 t);refine AiW (N:=65536) Ol (s.mapW 1 rfl) trivial (fun l hl u=>KB 65536 l hl fun x o=>F x (u x o)) fun c hc=>(D3 AU rfl (by omega) (by omega) (by omega) (by omega) ?_);intro ab H3 bn bo ao bp;rw[U']at ao;rw[U',show(0:Int).toNat=0 from rfl];have A:=s.newCap (T:=u_) (cap:=c) bn bo ao bp (by simp[GB]) (by unfold maxLen;omega);refine AdM A 1 Ol rfl fun r n3 H4 C=>?_;(conv=>whnf);refine A0.mk [7] (fun x:List Int×Option Addr×Nat×Nat=>match x with | (P,W,Y,n)=>[.slice W P.length Y])
    (fun x H5=>x.1.Nodup∧(∀q∈x.1,Dom z q)∧∃D last,(∀q,D q↔q∈x.1)∧St H0 H5 [pIW I8 kI mb r z D last x.2.2.2,pS u_ 3 x.2.1 x.1.length x.2.2.1 x.1]) (fun x _=>x.2.2.2) ?_ ?_
   ·(conv=>whnf);exact⟨([],some ⟨ab,0,none⟩,c,n3),rfl,List.Pairwise.nil,(fun q h=>by cases h),_,none,fun q=>⟨fun h=>h.elim,fun h=>by cases h⟩,C.pick [1,2] (by decide)⟩
   ·rintro⟨P,W,Y,n5⟩ H5 bq ⟨Q,u,D,last,hD,a2⟩;simp only at Q u hD a2;have co:=KB 65536 P Q fun x o=>F x (u x o);refine AgU a2 0 Of.inj rfl (fun ap=>?_) fun q v H6 n6 t br a1 O=>?_
    ·have aq:P.mergeSort (fun x y=>decide (x≤y))=FR (clS a (·∈X)):=PP (fun q t=>FP (JI (X:=(·∈X)) hX) q t) (Vk Q) fun q=>by
      rw[List.mem_mergeSort,←E q];exact⟨u q,fun h=>(hD q).1 (ap q h)⟩
     have hL:∀q∈FR (clS a (·∈X)),0≤q∧q<65536:=fun q t=>FP (JI (X:=(·∈X)) hX) q ((HC (FP (JI (X:=(·∈X)) hX)) q).1 t);have cp:(FR (clS a (·∈X))).length≤65536:=Lb _;have U:(P.mergeSort fun x y=>decide (x≤y)).length=P.length:=List.length_mergeSort _;refine AjB AhE a2 1 rfl (by omega) fun H7 d=>?_;rw[aq]at d U;rw[←U]at d ⊢;generalize FR (clS a (·∈X))=L at*;replace d:St H0 H7 [pIW I8 kI mb r z D last n5,pS u_ 3 W L.length Y L]:=d;have bu:=d.view 1 rfl;have a3:=ag.agr d.old;have u7:St H7 H7 [pS tU8 EI none 0 0 []]:=(St.nil H7).nils tU8 EI;(conv=>whnf);refine A0.mk [9,59] (fun x:Nat×Option Addr×Nat=>match x with | (i,a9,c9)=>[.slice a9 (Bq (L.take i)).length c9,A_ i])
      (fun x H8=>x.1≤L.length∧(x.1=0→x.2.1=none)∧St H7 H8 [pS tU8 EI x.2.1 (Bq (L.take x.1)).length x.2.2 ((Bq (L.take x.1)).map fun(y:Nat)=>(y:Int))]) (fun x _=>L.length-x.1) ?_ ?_
     ·(conv=>whnf);exact⟨(0,none,0),rfl,t_ _,fun _=>rfl,u7⟩
     ·rintro⟨i,a9,c9⟩ H8 bv ⟨hi,bw,f⟩;simp only at hi bw f;refine AG.m2 (fun bx=>?_) (fun bx=>?_)
      ·have⟨q,t⟩:=Ac (l:=L) (k:=i) (by omega);have a4:=hL q (c_ t);have bz:(Bq (L.take i)).length≤393216:=by
        have g:=JR (l:=L.take i) fun x o=>hL x (Ydg o);have h2:(L.take i).length≤65536:=by rw[YaW];omega
        omega
       have cq:((Bq (L.take i)).map fun(y:Nat)=>(y:Int)).length=(Bq (L.take i)).length:=Z_ _;have cr:=QW a4;refine ixr (i:=i) AU (bu.frame f.old) t rfl ?_;rintro b9 o9 ct cu c1 ⟨rfl,-⟩;refine G_ E_ c1.one trivial (Ag3 QE f a3 (by omega) (by omega) (by omega) fun cw cx H10 V=>?_);have e1:((Bq (L.take i)).map fun(y:Nat)=>(y:Int))++I9 q=(Bq (L.take i)++Ea q).map fun(y:Nat)=>(y:Int):=by rw[YcB,Zg]
       rw[e1]at V ⊢;have c2:((Bq (L.take i)++Ea q).map fun(y:Nat)=>(y:Int)).length=(Bq (L.take i)).length+(Ea q).length:=by simp
       refine Ay CS [.int .u8 44] rfl rfl (by decide) (by decide) ?_;intro c4 H11 G ar I J;have au:=V.skip G J;refine IN (x:=(44:Int)) au 0 CS rfl I ⟨rfl,K5 (x:=44) (by decide)⟩ rfl (by omega) (by decide) fun a7 a8 H12 m _=>?_;have e2:((Bq (L.take i)++Ea q).map fun(y:Nat)=>(y:Int))++[44]=(Bq (L.take (i+1))).map fun(y:Nat)=>(y:Int):=by
        rw[Af t,Oq,YcB (l₂:=[44])];rfl
       have e3:((Bq (L.take i)++Ea q).map fun(y:Nat)=>(y:Int)).length+1=(Bq (L.take (i+1))).length:=by
        rw[c2,Af t,Oq];simp only[J_,b_,m_]
       rw[e2,e3]at m;rw[e3];(conv=>whnf);rw[P_ i (by omega)];exact⟨rfl,(i+1,a7,a8),by simp,⟨by simp only;omega,fun h=>by simp only at h;omega,m⟩,by simp only;omega⟩
      ·obtain rfl:i=L.length:=by omega
       rw[Yc0]at f;rw[Yc0];have hold:C_ (H_ H0) H0 H8:=d.old.trans (f.old.mono fun k hk=>d.up hk);cases a9 with
       | none=>
         have c7:L=[]:=by
          apply Classical.byContradiction;intro M;have bz:=f.capI 0 rfl;obtain⟨cs,⟨-,ae⟩,-⟩:=(f.at_ 0 rfl).1;rcases ae with⟨g,h2⟩ | ⟨b,c',l',g,-⟩
          ·rw[Z_]at h2;cases L with
           | nil=>exact M rfl
           | cons x l=>
             have:Bq (x::l)=(Ea x++[44])++Bq l:=by unfold Bq;rw[Yc6]
             rw[this]at h2;simp at h2
          ·injection g with g;cases g
         subst c7;refine AfO (e:=EI) rfl rfl rfl ?_;(conv=>whnf);exact⟨rfl,hold⟩
       | some ad=>
         obtain⟨cs,⟨-,ae⟩,c8⟩:=(f.at_ 0 rfl).1;obtain⟨rfl,-⟩:=Lm c8;rcases ae with⟨g,-⟩ | ⟨b,c',l',g,-,hb,-,-,-,cd⟩
         ·injection g with g;cases g
         ·injection g with g h2 h3
          injection g with g
          subst g;refine AbA (Bq L) (e:=EI) rfl rfl rfl (fun j x o=>?_) rfl ?_
          ·have R:((((Bq L).map fun(y:Nat)=>(y:Int)).map (Value.int .u8)))[j]?=some (.int .u8 (x:Int)):=by
            rw[o_,o_,o];rfl
           rw[←cd,YaK]at R;split at R
           ·rw[K_,hb.cell];exact R
           ·cases R
          (conv=>whnf);exact⟨rfl,hold⟩
    ·have B:Dom z q:=by unfold Dom;rw[t];rfl
     have ak:q∉P:=fun h=>br ((hD q).2 h);have a4:=F q B;have aw:(P++[q]).Nodup:=List.nodup_append.2 ⟨Q,by simp,fun x o y hy e=>by rw[Y_]at hy;subst hy;subst e;exact ak o⟩;refine AiU (O.iterW 0 rfl) Of.inj t (Ay AU [A_ q] rfl rfl (by decide) (by decide) ?_);intro c4 H11 G ar I J;refine IN (x:=q) (O.skip G J) 1 AU rfl I ⟨rfl,FQ a4⟩ rfl (by omega) (by decide) fun a7 a8 H12 m _=>?_;(conv=>whnf);refine⟨rfl,(P++[q],a7,a8,n6),by simp only[J_,b_,m_],⟨aw,fun x o=>?_,_,_,fun x=>?_,by simp only[J_,b_,m_];exact m⟩,a1⟩
     ·rcases q_.1 o with h | h
      ·exact u x h
      ·rw[Y_]at h;subst h;exact B
     ·rw[q_,Y_,hD x]
end Go.Proofs.YtfbghcpdinlmcaaGreatDoor
namespace Go.VC
section
variable{α:Type}{T:Ty α}{e:x_}{a:Option Addr}{n cap:Nat}{xs:List α}{B:Nat→Prop}{H0 H:Aa}{ps:List Pc}
theorem AeX{P:w_}{t ty q o m g by_:Nat}{z:v_}{ys:List α}{ds:List v_}{K:v_→Aa→Prop}(st:B_ B H0 H ps)(i:Nat)(s:SlT P t e T.size by_ z)(r:ps[i]?=some (pS T e a n cap xs))
  (v:Be H q o ds) (w:T.reps none_ H ds ys) (x:m=ys.length) (y:∀u∈ds,u.oneCell'=true) (l:xs.length+ys.length≤8796093022208) (hby:by_≤16)
  (k:∀a' c H',B_ B H0 H' (ps.set i (pS T e a' (xs.length+ys.length) c (xs++ys)))→C_ (fun k=>k<H.size∧¬a_ (.slice a n cap) k) H H'→K (.slice a' (xs.length+ys.length) c) H'):
  BH P (Builtin.append_ #[t,t] ty [.slice a n cap,.slice (some ⟨q,o,none⟩) m g].toArray) H K:=by
 refine Di (T:=T) (S:=none_) (lo:=0) s (st.at_ i r).1 (t_ _) (fun k b=>b.elim) v w x y (by unfold maxLen;omega) (by have:=YbM l hby;omega) ?_;intro C H' d f p j;obtain⟨a',c,rfl⟩:=d.hull;rw[J_]at d j ⊢;refine k a' c H' (st.upd i r (f.mono fun k b=>⟨b.1,fun A=>b.2 (.inl A)⟩) _ ⟨d,fun k b=>b.elim⟩ (fun k b=>?_) (fun k b=>?_) p) f
 ·rcases b with b | b
  ·rcases j k b with h | h
   ·exact .inl (.inl h)
   ·exact .inr h
  ·exact b.elim
 ·rcases b with b | b
  ·exact(d.lt b).2
  ·exact b.elim
end
end Go.VC
namespace Go.Proofs.YtfbghcpdinlmcaaGreatDoor
open Go.VC
theorem X3{l:List Int}(h:∀q∈l,0≤q∧q<65536):∀b∈Bq l,b=44∨(48≤b∧b≤57):=by
 intro b a;have⟨q,c,a⟩:=YcS.1 a;rcases q_.1 a with a | a
 ·exact .inr (HS (h q c).1 b a)
 ·rw[Y_]at a;exact .inl a
def K9(l:List Int)(i:Nat):List Int×Nat:=((Bq l).take i).foldl mst ([],0)
section
variable{l:List Int}
theorem X1{i b:Nat}(h:(Bq l)[i]?=some b):K9 l (i+1)=mst (K9 l i) b:=by
 unfold K9;rw[Af h,Ybh];rfl
theorem Tf(h:∀q∈l,0≤q∧q<65536):K9 l (Bq l).length=(l,0):=by
 unfold K9;rw[Yc0,Nl l [] fun q a=>(h q a).1];rfl
theorem PR(h:∀q∈l,0≤q∧q<65536)(Q:l.length≤65536)(H:Aa):
  Ak prog 91 #[.string (nmB l)] H fun r H'=>C_ (H_ H) H H'∧∃ra rc,r= .slice ra l.length rc∧l_ u_ none_ H' H.size 3 (.slice ra l.length rc) l:=by
 have w:=Tk h;have J:=JR h;refine Ak.of_vc func91 rfl (call91 _) ?_;(conv=>whnf);rw[w];have st1:=(St.nil H).nils u_ 3;(conv=>whnf);refine A0.mk [3,4,8] (fun x:Nat×Option Addr×Nat=>match x with | (i,u,v)=>[.slice u (K9 l i).1.length v,A_ ((K9 l i).2:Int),A_ i])
  (fun x H2=>x.1≤(Bq l).length∧St H H2 [pS u_ 3 x.2.1 (K9 l x.1).1.length x.2.2 (K9 l x.1).1]) (fun x _=>(Bq l).length-x.1) ?_ ?_
 ·(conv=>whnf);exact⟨(0,none,0),rfl,t_ _,st1⟩
 ·rintro⟨i,u,v⟩ H2 z ⟨K,c⟩;simp only at K c;have⟨g,R,L,j⟩:=Wu l [] i h;change (K9 l i).2<65536 at g;change (K9 l i).1=_ at j;have A:(K9 l i).1.length≤65536:=by rw[j];simp only[Ybo,YaW];omega
  refine AG.m2 (fun N=>?_) (fun N=>?_)
  ·have⟨b,B⟩:=getB (s:=nmB l) (k:=i) (by omega);have e:=QN B;rw[QO h]at e;have a:=X1 e;have f:=X3 h _ (c_ e);obtain⟨y,C⟩:∃y,y=b.toNat:=⟨_,rfl⟩;rw[←C]at a f e;obtain⟨M,G⟩:∃M,M=K9 l i:=⟨_,rfl⟩;rw[←G]at c g A a;rw[←G];refine An.run (DQ underlying9 rfl B ?_);rw[←C];rcases f with m | O
   ·have D:((y:Int)==44)=true:=by rw[m];rfl
    have d:K9 l (i+1)=(M.1++[(M.2:Int)],0):=by rw[a];unfold mst;rw[F_ m]
    (conv=>whnf);rw[D];refine Ay AU [A_ (M.2:Int)] rfl rfl (by decide) (by decide) ?_;intro P H11 n I o p;refine IN (x:=(M.2:Int)) (c.skip n p) 0 AU rfl o ⟨rfl,FQ ⟨by omega,by omega⟩⟩ rfl (by omega) (by decide) fun E F H12 t _=>?_;(conv=>whnf);rw[P_ i (by omega)];refine⟨rfl,(i+1,E,F),?_,⟨by simp only;omega,?_⟩,by simp only;omega⟩
    ·simp only;rw[d];simp
    ·simp only;rw[d];simpa using t
   ·have D:((y:Int)==44)=false:=by rw[beq_eq_false_iff_ne];omega
    have d:K9 l (i+1)=(M.1,10*M.2+(y-48)):=by rw[a];unfold mst;rw[D_ (by omega)]
    (conv=>whnf);rw[D];(conv=>whnf);rw[W_ (x:=10*(M.2:Int)) (by omega)];refine DQ underlying9 rfl B ?_;rw[←C];(conv=>whnf);rw[w8 (x:=(y:Int)-48) (by omega) (by omega)];(conv=>whnf);rw[W_ (x:=(y:Int)-48) (by omega)];(conv=>whnf);rw[W_ (x:=10*(M.2:Int)+((y:Int)-48)) (by omega)];(conv=>whnf);rw[P_ i (by omega)];refine⟨rfl,(i+1,u,v),?_,⟨by simp only;omega,?_⟩,by simp only;omega⟩
    ·simp only;rw[d];simp only;rw[show((10*M.2+(y-48):Nat):Int)=10*(M.2:Int)+((y:Int)-48) by omega];simp
    ·simp only;rw[d];exact c
  ·obtain rfl:i=(Bq l).length:=by omega
   rw[Tf h]at c;(conv=>whnf);rw[Tf h];exact⟨c.old,u,v,rfl,St.own c 0 rfl⟩
end
section
variable{S:Nat→Prop}{H:Aa}{a:Option Addr}{c:Nat}{xs:List Int}{q:Int}
theorem ZA(s:∀k,S k→k<H.size)(h:g_ u_ S H a c xs):
  Ak prog 142 #[.slice a xs.length c,A_ q] H fun r H'=>C_ (H_ H) H H'∧∃n:Int,r= .int .i64 n∧decide (0≤n)=decide (q∈xs):=by
 have f:=h.le;unfold maxLen at f;refine Ak.of_vc func142 rfl (call142 _) ?_;(conv=>whnf);refine A0.mk [8] (fun i:Nat=>[A_ i]) (fun i H2=>i≤xs.length∧C_ (H_ H) H H2∧q∉xs.take i) (fun i _=>xs.length-i) ?_ ?_
 ·(conv=>whnf);exact⟨0,rfl,t_ _,C_.refl _ _,by simp⟩
 ·rintro i H2 p ⟨v,d,b⟩;refine AG.m2 (fun t=>?_) (fun t=>?_)
  ·have⟨x,g⟩:=Ac (l:=xs) (k:=i) (by omega);refine ixr (i:=i) AU (h.frame (d.mono s)) g rfl ?_;rintro w y z u j ⟨rfl,-⟩;refine lT E_ j.one ?_;by_cases e:x=q
   ·have m:(q==x)=true:=by rw[e];simp
    (conv=>whnf);rw[m];(conv=>whnf);refine⟨d,i,rfl,?_⟩;rw[n_ (show(0:Int)≤(i:Int) by omega),n_ (e ▸ c_ g)]
   ·have m:(q==x)=false:=beq_eq_false_iff_ne.2 (Ne.symm e);(conv=>whnf);rw[m];(conv=>whnf);rw[P_ i (by omega)];refine⟨rfl,i+1,by simp,⟨by omega,d,?_⟩,by omega⟩;rw[Af g,q_,Y_];rintro(o | o)
    ·exact b o
    ·exact e o.symm
  ·obtain rfl:i=xs.length:=by omega
   rw[Yc0]at b;(conv=>whnf);exact⟨d,-1,rfl,by rw[j_ b];rfl⟩
theorem S3(d:∀k,S k→k<H.size)(h:g_ u_ S H a c xs):
  BM prog 94 #[.slice a xs.length c,A_ q] H (.bool (decide (q∈xs))):=by
 refine Ak.of_vc func94 rfl (call94 _) (Ae.mk (ZA (q:=q) d h) ?_);rintro _ H1 ⟨b,n,rfl,e⟩;(conv=>whnf);rw[e];(conv=>whnf);exact⟨rfl,b⟩
end
theorem TM{a:N_}{q:Int}(h:a.has q=true):∃row,(OU a)[q.toNat]?=some row∧row.length≤a.edges.length∧∀e,e∈row↔e∈a.edges∧e.sil=false∧e.fr=q∧a.has e.to=true:=by
 have k:0≤q∧q<(Fs a:Int):=by
  have:=SN a q;rw[h]at this;simpa using this.symm
 refine⟨_,HY _ _ (by omega),Yc9 _ _,fun e=>?_⟩;rw[Ydi];constructor
 ·rintro⟨f,d,b⟩;unfold K7 okE at b;split at b
  ·rename_i c;simp only[r_,Yax]at c;rw[YbP]at b;have g:=(N_.has_iff.1 c.1.1);split at b
   ·rename_i i;injection b with b
    subst b;exact⟨d,c.2,by show f.fr=q;simp only at i;omega,c.1.2⟩
   ·cases b
  ·simp at b
 ·rintro⟨d,b,rfl,j⟩;refine⟨e,d,?_⟩;unfold K7 okE;rw[h,j,b];simp
noncomputable def BT(a:N_)(l:List Int)(b:Nat):List Int:=FR (goS a (·∈l) b)
theorem LY{a:N_}{l:List Int}{b:Nat}:∀q∈BT a l b,a.has q=true:=fun q c=>Rh a _ b q ((HC (FP (Rh a (·∈l) b)) q).1 c)
theorem Od{S:Nat→Prop}{H H2 H3:Aa}{ps qs:List Pc}{ra:Option Addr}{rc:Nat}{row:List Y'}(h:g_ tEd S H2 ra rc row)(c:St H H2 ps)(d:St H H3 qs)(a:∀k,S k→k<H.size):g_ tEd S H3 ra rc row:=
 h.frame fun k b=>by rw[d.old k (a k b),c.old k (a k b)]
theorem AeI{S:Nat→Prop}{H:Aa}{v:v_}{a:N_}{l:List Int}{A b:Nat}(J:∀k,S k→k<H.size)(O:S A)(m:Be H A 0 [v])(K:M6 S H v a)(a7:a.edges.length≤33554432)(hl:∀q∈l,a.has q=true)(P:l.length≤65536)(hb:b<256)(Q:EM prog H):
  Ak prog 90 #[.string (nmB l),.int .u8 (b:Int),U_ A] H fun r H'=>r= .string (nmB (BT a l b))∧C_ (H_ H) H H':=by
 have a8:∀q∈l,0≤q∧q<65536:=fun q B=>by have:=N_.has_iff.1 (hl q B);omega
 have a9:=K;obtain⟨nb,sa,sc,ta,tc,ab,ae,s,-,R⟩:=K;subst ab;refine Ak.of_vc func90 rfl (call90 _) ?_;have ag:=(St.nil H).nils u_ 3;refine Ae.mk (PR a8 P H) ?_;rintro _ H1 ⟨ah,ma,mc,rfl,C⟩;obtain⟨_,_,e1,st1⟩:=ag.got ah C;injection e1 with e11 e12 e13
 subst e11;subst e13;(conv=>whnf);refine A0.mk [6,14] (fun x:Nat×List Int×Option Addr×Nat=>match x with | (i,T,L,M)=>[.slice L T.length M,A_ i])
  (fun x H2=>x.1≤l.length∧x.2.1.length≤x.1*33554432∧(∀p,p∈x.2.1↔Rl a (·∈l.take x.1) b p)∧St H H2 [pS u_ 3 x.2.2.1 x.2.1.length x.2.2.2 x.2.1,pS u_ 3 ma l.length mc l]) (fun x _=>l.length-x.1) ?_ ?_
 ·(conv=>whnf);refine⟨(0,[],none,0),rfl,t_ _,t_ _,fun p=>⟨fun h=>(by cases h),fun h=>?_⟩,st1⟩;obtain⟨e,-,-,-,h,-⟩:=h;simp at h
 ·rintro⟨i,T,L,M⟩ H2 ai ⟨hi,D,U,d⟩;simp only at hi D U d;refine AG.m2 (fun hz=>?_) (fun hz=>?_)
  ·have⟨q,B⟩:=Ac (l:=l) (k:=i) (by omega);have V:=hl q (c_ B);have⟨row,W,bf,E⟩:=TM V;refine ixr (i:=i) AU (d.view 1 rfl) B rfl ?_;rintro b3 o3 c3 bg aj ⟨rfl,-⟩;refine G_ E_ aj.one trivial (G_ P8 ((m.eq (d.old A (J A O))).one) trivial (fa KU (G_ (v:=.slice ta (Fs a) tc) S6 ((s.eq (d.old nb (J nb ae))) 1 _ rfl) trivial ?_)));refine IB (i:=q.toNat) TD (R.frame (d.old.mono J)) (D4 _ _ _).symm W (by have:=N_.has_iff.1 V;omega) ?_;rintro b5 o5 bh bi ak ⟨ra,rc,rfl,X⟩;have am:g_ tEd S H2 ra rc row:=X;refine lT IW ak.one ?_;(conv=>whnf);refine A0.mk [6,26] (fun x:Nat×List Int×Option Addr×Nat=>match x with | (j,T',L,M)=>[.slice L T'.length M,A_ j])
    (fun x H3=>x.1≤row.length∧x.2.1.length≤i*33554432+x.1∧(∀p,p∈x.2.1↔Rl a (·∈l.take i) b p∨∃e∈row.take x.1,e.set.getLsbD b=true∧p=e.to)∧St H H3 [pS u_ 3 x.2.2.1 x.2.1.length x.2.2.2 x.2.1,pS u_ 3 ma l.length mc l]) (fun x _=>row.length-x.1) ?_ ?_
   ·(conv=>whnf);exact⟨(0,T,L,M),rfl,t_ _,YbA D (Ycn _ _),fun p=>by rw[U p];simp,d⟩
   ·rintro⟨j,T',a6,c6⟩ H3 ao ⟨hj,Y,n,t⟩;simp only at hj Y n t;have Z:g_ tEd S H3 ra rc row:=Od am d t J;refine AG.m2 (fun ap=>?_) (fun ap=>?_)
    ·have⟨e,he⟩:=Ac (l:=row) (k:=j) (by omega);have⟨bj,bm,bn,aq⟩:=(E e).1 (c_ he);have bo:=N_.has_iff.1 aq;refine An.run (ixr (i:=j) Jx Z he rfl ?_);rintro b6 o6 c7 bp ar ⟨rfl,au⟩;refine L_ (cs:=edL e) N6 ar trivial (Am _ [A_ 0,A_ 0,.bool false,.int .u64 0,.int .u64 0,.int .u64 0,.int .u64 0] Kv rfl ?_);intro x H4 hx aw ax ay;have az:=t.box hx aw ax ay;refine AN (cs:=edL e) az 2 rfl rfl (I_ _) rfl fun H5 F=>?_;rw[Aw (show(edL e).length=7 from rfl)]at F;refine fa Rc (L_ (cs:=Ad e.set) AT ((F.blk 2 rfl).cells fun j v K=>VK e j v K) trivial (Ah (SM e.set b hb H5) fun H6 b0=>?_));have G:=F.call b0;cases w:e.set.getLsbD b with
     | false=>
       (conv=>whnf);rw[P_ j (by omega)];refine⟨rfl,(j+1,T',a6,c6),by simp,⟨by simp only;omega,by simp only;omega,fun p=>?_,G.pick [0,1] (by decide)⟩,by simp only;omega⟩;simp only;rw[n p,Af he];constructor
       ·rintro(h | ⟨I,c,f,g⟩)
        ·exact .inl h
        ·exact .inr ⟨I,YbV _ c,f,g⟩
       ·rintro(h | ⟨I,c,f,g⟩)
        ·exact .inl h
        ·rcases q_.1 c with c | c
         ·exact .inr ⟨I,c,f,g⟩
         ·rw[Y_]at c;subst c;rw[w]at f;cases f
     | true=>
       refine fa JO ?_;refine lT (v:=A_ e.to) E_ ((G.blk 2 rfl).ce rfl) ?_;refine Ay AU [A_ e.to] rfl rfl (by decide) (by decide) ?_;intro bq H11 a0 be a1 a2;refine AeX (ys:=[e.to]) (G.skip a0 a2) 0 AU rfl (a1.cells (o:=0) (cs:=[A_ e.to]) fun j v K=>by rw[K_];exact K) (Ty.reps_one ⟨rfl,au.2⟩) rfl (fun u hu=>by cases Y_.1 hu;rfl) (by simp only[b_,m_];omega) (by decide) fun b4 b7 H12 y _=>?_;have el:T'.length+[e.to].length=(T'++[e.to]).length:=by simp
       rw[el]at y ⊢;(conv=>whnf);rw[P_ j (by omega)];refine⟨rfl,(j+1,T'++[e.to],b4,b7),by simp,⟨by simp only;omega,by simp only[J_,b_,m_];omega,fun p=>?_,y.pick [0,1] (by decide)⟩,by simp only;omega⟩;simp only;rw[q_,n p,Af he,Y_];constructor
       ·rintro((h | ⟨I,c,f,g⟩) | h)
        ·exact .inl h
        ·exact .inr ⟨I,YbV _ c,f,g⟩
        ·exact .inr ⟨e,by simp,w,h⟩
       ·rintro(h | ⟨I,c,f,g⟩)
        ·exact .inl (.inl h)
        ·rcases q_.1 c with c | c
         ·exact .inl (.inr ⟨I,c,f,g⟩)
         ·rw[Y_]at c;subst c;exact .inr g
    ·obtain rfl:j=row.length:=by omega
     rw[Yc0]at n;(conv=>whnf);rw[P_ i (by omega)];refine⟨rfl,(i+1,T',a6,c6),by simp,⟨by simp only;omega,by simp only;omega,fun p=>?_,t⟩,by simp only;omega⟩;simp only;rw[n p,Af B];unfold Rl;constructor
     ·rintro(⟨e,c,f,g,z,N,h6⟩ | ⟨e,c,f,g⟩)
      ·exact⟨e,c,f,g,YbV _ z,N,h6⟩
      ·have⟨g1,g2,g3,g4⟩:=(E e).1 c;exact⟨e,g1,g2,f,by rw[g3];simp,g4,g⟩
     ·rintro⟨e,c,f,g,z,N,h6⟩;rcases q_.1 z with z | z
      ·exact .inl ⟨e,c,f,g,z,N,h6⟩
      ·rw[Y_]at z;exact .inr ⟨e,(E e).2 ⟨c,f,z,N⟩,g,h6⟩
  ·obtain rfl:i=l.length:=by omega
   rw[Yc0]at U;have b8:∀q∈T,a.has q=true:=fun q B=>by
    obtain⟨e,-,-,-,-,N,rfl⟩:=(U q).1 B;exact N
   have a3:(fun q=>q∈T)=Rl a (·∈l) b:=funext fun q=>propext (U q);refine lT P8 ((m.eq (d.old A (J A O))).one) ?_;have b9:St H H2 [pS u_ 3 L T.length M T]:=d.pick [0] (by decide);have a4:T.length≤2199023255552:=YbA D (by have:=Ybw 33554432 P;omega);refine Ae.mk (VB b9 J a9 b8 a4 a7 Q) ?_;rintro _ H3 ⟨rfl,bd⟩;(conv=>whnf);refine⟨?_,bd⟩;rw[a3];rfl
end Go.Proofs.YtfbghcpdinlmcaaGreatDoor
namespace Go.VC
section
variable{B:Nat→Prop}{H0 H:Aa}{ps qs:List Pc}{p q:Pc}
end
end Go.VC
namespace Go.Proofs.YtfbghcpdinlmcaaGreatDoor
open Go.VC
structure StlI(a:N_)(X all:List Int):Prop where
 nd:all.Nodup
 cl:∀q∈all,clS a (·∈X) q
section
variable{B:Nat→Prop}{H0 H:Aa}{rest:List Pc}{nb tb mc lc:Nat}{ma la:Option Addr}{vt:List v_}{a:N_}{X:List Int}
end
end Go.Proofs.YtfbghcpdinlmcaaGreatDoor
namespace Go.VC
section
variable{α:Type}{T:Ty α}{e e2:x_}{a ra:Option Addr}{n cap rn rc:Nat}{xs:List (List α)}{row:List α}{B S:Nat→Prop}{H0 H:Aa}{ps rest:List Pc}
theorem B_.absorb(st:B_ B H0 H (pN (tSl T) S e a n cap xs::pS T e2 ra rn rc row::rest)):B_ B H0 H (pN (tSl T) (fun k=>S k∨a_ (.slice ra rn rc) k) e a n cap xs::rest):=by
 have c:=st.apart2 (i:=0) (j:=1) rfl rfl (by decide);have d:=st.at_ 0 rfl;refine(st.join 0 1 rfl rfl (by decide)).say 0 rfl _ ⟨d.1.mono fun k b=>.inl b,fun k b=>?_⟩ fun k b=>?_
 ·rcases b with b | b
  ·exact d.2 k b
  ·exact fun h=>c k (.inl h) (.inl b)
 ·rcases b with b | b | b
  ·exact .inl (.inl b)
  ·exact .inl (.inr b)
  ·exact .inr (.inl b)
theorem YB{P:w_}{t ty q by_ m g:Nat}{z:v_}{ds:List v_}{K:v_→Aa→Prop}(st:B_ B H0 H (pN (tSl T) S e a n cap xs::rest))(r:SlT P t e (tSl T).size by_ z)
  (s:Be H q 0 ds) (v:(tSl T).rep S H ds row) (w:m=1) (x:∀u∈ds,u.oneCell'=true) (j:xs.length+1≤34359738368) (hby:by_≤1024)
  (k:∀a' c H',B_ B H0 H' (pN (tSl T) S e a' (xs.length+1) c (xs++[row])::rest)→K (.slice a' (xs.length+1) c) H'):
  BH P (Builtin.append_ #[t,t] ty [.slice a n cap,.slice (T_ q) m g].toArray) H K:=by
 subst w;have l:=st.at_ 0 rfl;refine Di (T:=tSl T) (S:=S) (lo:=0) (ys:=[row]) r l.1 (t_ _) (fun k b=>⟨(st.in_ 0 rfl (.inr b)).2,l.2 k b⟩) s (Ty.reps_one v) rfl x (by unfold maxLen;simp only[h_];omega) (by have:=YbM j hby;simp only[h_];omega) ?_;intro y H' d i o f;obtain⟨a',c,rfl⟩:=d.hull;rw[J_,h_]at d f ⊢;refine k a' c H' (st.upd 0 rfl (i.mono fun k b=>⟨b.1,fun p=>b.2 (.inl p)⟩) _ ⟨d,fun k b p=>?_⟩ (fun k b=>?_) (fun k b=>?_) o)
 ·rcases f k p with h | h
  ·exact l.2 k b h
  ·have:=(st.in_ 0 rfl (.inr b)).2;omega
 ·rcases b with b | b
  ·rcases f k b with h | h
   ·exact .inl (.inl h)
   ·exact .inr h
  ·exact .inl (.inr b)
 ·rcases b with b | b
  ·exact(d.lt b).2
  ·have:=(st.in_ 0 rfl (.inr b)).2;omega
end
end Go.VC
namespace Go.Proofs.YtfbghcpdinlmcaaGreatDoor
open Go.VC
theorem Zs{S:Nat→Prop}{H:Aa}{a:N_}{l:List Int}{nb:Nat}{n:v_}(o:∀k,S k→k<H.size)(g:S nb)(p:Be H nb 0 (nfL a n))(r:∀q∈l,0≤q∧q<65536)(h:l.length≤65536):
  BM prog 93 #[.string (nmB l),U_ nb] H (.bool (decide (a.fin∈l))):=by
 refine Ak.of_vc func93 rfl (call93 _) ?_;have i:=St.nil H;refine Aq.heldZ (H_ H) [] (sq [0,2,3] (.f 1 (.f 4 (.f 5 .e)))) rfl (by kernel_rfl) (fa LA (G_ (v:=A_ a.fin) E_ (p 2 _ rfl) (o nb g) (Ae.mk (PR r h H) ?_)));rintro _ H1 ⟨b,ma,mc,rfl,c⟩;obtain⟨_,_,s,st1⟩:=i.got b c;injection s with e11 e12 e13
 subst e11;subst e13;refine⟨b,?_⟩;refine Ah (S3 (q:=a.fin) (fun k j=>j) (st1.view 0 rfl)) fun H2 d=>?_;have m:=st1.call d;have g2:C_ (H_ H) H H2:=b.trans (d.mono fun k j=>Ar b j);refine⟨g2,?_⟩;(conv=>whnf);refine⟨g2,?_⟩;(conv=>whnf);exact⟨rfl,m.old⟩
abbrev tEx:x_:=259
def exL(mb:Nat)(fv:v_)(most:Nat):List v_:=[.map (some mb),fv,A_ most]
def exM(F:List (List Int))(s:ByteArray):Option v_:=(F.findIdx? fun k=>decide (nmB k=s)).map fun(i:Nat)=>.int .i64 (i:Int)
theorem Om:I4 prog 256 9 3 (.int .i64 0):=⟨rfl,rfl⟩
theorem Wq:II prog 9 (I8 (α:=ByteArray)) Value.string:=II.ofE underlying9 Go.VC.keyS
def AbM(F:List (List Int)):Prop:=∀l∈F,(∀q∈l,0≤q∧q<65536)∧l.length≤65536
section
variable{F:List (List Int)}
theorem PE(a:AbM F){k:List Int}(b:∀q∈k,0≤q∧q<65536):(F.findIdx? fun l=>decide (nmB l=nmB k))=F.findIdx? (·=k):=by
 induction F with
 | nil=>rfl
 | cons l F c=>
   have d:decide (nmB l=nmB k)=decide (l=k):=decide_eq_decide.2 ⟨fun h=>AdO (a l (by simp)).1 b h,fun h=>by rw[h]⟩;rw[YcQ,YcQ,d,c fun m e=>a m (YbY _ e)]
theorem AcL{k:List Int}(a:(F.findIdx? fun l=>decide (nmB l=nmB k))=none):put (exM F) (nmB k) (some (.int .i64 (F.length:Int)))=exM (F++[k]):=by
 funext s;unfold put exM;rw[YcZ];by_cases hs:s=nmB k
 ·subst hs;rw[F_ rfl,a];simp[YcQ]
 ·rw[D_ hs];cases h:F.findIdx? fun l=>decide (nmB l=s)with
  | some i=>simp
  | none=>
    have:nmB k≠s:=fun e=>hs e.symm;simp[YcQ,this]
theorem AcK(a:AbM F){k:List Int}(b:∀q∈k,0≤q∧q<65536):exM F (nmB k)=(F.findIdx? (·=k)).map fun(i:Nat)=>.int .i64 (i:Int):=by
 unfold exM;rw[PE a b]
end
theorem AdP{l:List Int}(h:∀q∈l,0≤q∧q<65536)(a:l.length≤65536):(nmB l).size≤maxLen:=by
 rw[Tk h];have:=JR h;unfold maxLen;omega
section
variable{B:Nat→Prop}{H0 H:Aa}{rest:List Pc}{xb mb fc most:Nat}{fa:Option Addr}{F:List (List Int)}{k:List Int}
def exS(xb mb:Nat)(fa:Option Addr)(fc most:Nat)(F:List (List Int))(rest:List Pc):List Pc:=
 pB tEx xb (exL mb (.slice fa F.length fc) most)::pMW I8 Value.string mb (exM F)::pS AhK 9 fa F.length fc (F.map nmB)::rest
theorem Af3{K:v_→Aa→Prop}(st:B_ B H0 H (exS xb mb fa fc most F rest))(D:AbM F)(u:∀q∈k,0≤q∧q<65536)(w:k.length≤65536)(N:most≤4096)(G:F.length≤most)
  (I:∀F' i d g H',atF most F k=some (F',i)→B_ B H0 H' (exS xb mb d g most F' rest)→K (.tuple #[A_ i,.bool true]) H')
  (J:∀H',atF most F k=none→B_ B H0 H' (exS xb mb fa fc most F rest)→K (.tuple #[A_ 0,.bool false]) H'):
  Ae prog 143 #[U_ xb,.string (nmB k)] H K:=by
 refine Ae.mk (R:=fun r H'=>(∃(F':List (List Int)) (i:Nat) (d:Option Addr) (g:Nat),r= .tuple #[A_ i,.bool true]∧atF most F k=some (F',i)∧B_ B H0 H' (exS xb mb d g most F' rest))∨(r= .tuple #[A_ 0,.bool false]∧atF most F k=none∧B_ B H0 H' (exS xb mb fa fc most F rest))) ?_ fun r H' h=>by
  rcases h with⟨F',i,d,g,rfl,y,z⟩ | ⟨rfl,y,z⟩
  ·exact I F' i d g H' y z
  ·exact J H' y z
 unfold exS at st;have b:=st.blk 0 rfl;refine Ak.of_vc func143 rfl (call143 _) (f_ VX ?_);refine G_ (v:=.map (some mb)) Af5 (by rw[b.cell];rfl) trivial ?_;refine Jj (a:=nmB k) Om Wq trivial (st.mapW 1 rfl) trivial ?_;rw[AcK D u];cases t:F.findIdx? (·=k)with
 | some i=>
   (conv=>whnf);exact .inl ⟨F,i,fa,fc,rfl,by unfold atF;rw[t],st⟩
 | none=>
   refine Aq.lex rfl (by kernel_rfl) (f_ GP ?_);refine G_ (v:=.slice fa F.length fc) Mh (by rw[b.cell];rfl) trivial ?_;refine f_ AcR ?_;refine G_ (v:=A_ most) E_ (by rw[b.cell];rfl) trivial ?_;by_cases n:F.length<most
   ·have A:decide ((most:Int)≤(F.length:Int))=false:=V_;(conv=>whnf);rw[A];refine Aq.heldZ (H_ H) [10] (sq [0,1,2,3,4,5,6,7,8,9] (.f 10 .e)) rfl (by kernel_rfl) (f_ VX ?_);refine G_ (v:=.map (some mb)) Af5 (by rw[b.cell];rfl) b.lt ?_;refine f_ GP ?_;refine G_ (v:=.slice fa F.length fc) Mh (by rw[b.cell];rfl) b.lt ?_;refine Jk (a:=nmB k) st 1 Om Wq trivial rfl (AcL (by rw[PE D u];exact t)) fun H1 st1=>?_;have C:=st1.blk 0 rfl;refine f_ GP ?_;refine G_ (v:=.slice fa F.length fc) Mh (by rw[C.cell];rfl) trivial ?_;refine Ay OP [.string (nmB k)] rfl rfl (by decide) (by decide) ?_;intro L H11 o E p s;refine IN (x:=nmB k) (st1.skip o s) 2 OP rfl p ⟨rfl,AdP u w⟩ rfl (by rw[Z_];omega) (by decide) fun l m H12 j _=>?_;rw[show(F.map nmB).length+1=(F++[k]).length by simp,show F.map nmB++[nmB k]=(F++[k]).map nmB by simp]at j;rw[show(F.map nmB).length+1=(F++[k]).length by simp];refine f_ GP (Bh j 0 Mh rfl (show 1<3 by decide) rfl fun H13 c=>?_);replace c:B_ B H0 H13 (exS xb mb l m most (F++[k]) rest):=c;refine f_ GP ?_;refine lT (v:=.slice l (F++[k]).length m) Mh ((c.blk 0 rfl).ce rfl) ?_;have M:IntKind.wrap .i64 (((F++[k]).length:Int)-1)=(F.length:Int):=by
     rw[show(F++[k]).length=F.length+1 by simp,w64 (by omega) (by omega)];omega
    (conv=>whnf);rw[M];(conv=>whnf);exact .inl ⟨F++[k],F.length,l,m,rfl,by unfold atF;rw[t];simp only;rw[F_ n],c⟩
   ·have A:decide ((most:Int)≤(F.length:Int))=true:=e_;(conv=>whnf);rw[A];(conv=>whnf);exact .inr ⟨rfl,by unfold atF;rw[t];simp only;rw[D_ n],st⟩
end
section
variable{B:Nat→Prop}{H0 H:Aa}{rest:List Pc}{b sc lc:Nat}{sa la:Option Addr}{vs:List v_}{S:Nat→Prop}{F:List (List Int)}{l:List Int}
end
section
variable{B:Nat→Prop}{H0 H:Aa}{rest:List Pc}{b sc lc:Nat}{sa la:Option Addr}{vs:List v_}{S:Nat→Prop}{F:List (List Int)}{l:List Int}
end
def RV(a:N_)(F:List (List Int)):Prop:=∀l∈F,(∀q∈l,a.has q=true)∧l.length≤65536
theorem RV.rng{a:N_}{F:List (List Int)}(h:RV a F):AbM F:=fun l b=>⟨fun q c=>by have:=N_.has_iff.1 ((h l b).1 q c);omega,(h l b).2⟩
theorem Qt{a:N_}{l:List Int}{b:Nat}:(BT a l b).length≤65536:=Lb _
section
variable{most:Nat}{F F':List (List Int)}{k:List Int}{i:Nat}
theorem AbW(h:atF most F k=some (F',i)):∀x∈F',x∈F∨x=k:=by
 intro x a;unfold atF at h;split at h
 ·injection h with h;injection h with h1 h2;subst h1;exact .inl a
 ·split at h
  ·injection h with h;injection h with h1 h2;subst h1
   rcases q_.1 a with a | a
   ·exact .inl a
   ·rw[Y_]at a;exact .inr a
  ·cases h
theorem AbU(h:atF most F k=some (F',i))(b:F.length≤most):F'.length≤most∧i<most:=by
 unfold atF at h;split at h
 ·rename_i j a;injection h with h;injection h with h1 h2;subst h1;subst h2
  have:=(YcP.1 a).1;omega
 ·split at h
  ·injection h with h;injection h with h1 h2;subst h1;subst h2
   simp only[J_,b_,m_];omega
  ·cases h
end
theorem RV.at_{a:N_}{most:Nat}{F F':List (List Int)}{x:List Int}{b i:Nat}(h:RV a F)(c:atF most F (BT a x b)=some (F',i)):RV a F':=fun l d=>by
 rcases AbW c l d with e | rfl
 ·exact h l e
 ·exact⟨LY,Qt⟩
def AR(r:List Nat):List Int:=r.map fun(x:Nat)=>(x:Int)
def Br(cs:List (BitVec 256)):List Nat:=cs.map fun c=>(AE c 0).1
theorem IV{cs:List (BitVec 256)}{j:Nat}{c:BitVec 256}(h:cs[j]?=some c):(Br cs)[j]?=some (AE c 0).1:=by
 unfold Br;rw[o_,h];rfl
noncomputable def ExpR(a:N_)(most:Nat)(cs:List (BitVec 256))(l0:List Int)(H H':Aa)(r:v_):Prop:=C_ (H_ H) H H'∧
 match Fy most (BT a) (Br cs) l0 with
 | none=>r= .tuple #[.pointer none,.bool false]
 | some (F,rows)=>∃v,r= .tuple #[v,.bool true]∧AZ (fun k=>H.size≤k∧k<H'.size) H' v (if Bk cs (rows.map AR) F.length then some (Bi cs (rows.map AR) (F.map fun l=>decide (a.fin∈l)))else none)
theorem Xn{S:Nat→Prop}{H:Aa}{a:N_}{nv sv:v_}{wb pb:Nat}{ca:Option Addr}{cc most:Nat}{cs:List (BitVec 256)}{l0:List Int}(V:∀k,S k→k<H.size)(ak:S wb)(bu:Be H wb 0 [nv])(bv:M6 S H nv a)(am:S pb)(bw:Be H pb 0 (nfL a sv))(bx:a.edges.length≤33554432)(ao:EM prog H)
  (ap:g_ Cp S H ca cc cs) (d6:cs.length≤256) (bz:∀q∈l0,a.has q=true) (W:l0.length≤65536) (d7:1≤most) (hm:most≤4096):
  Ak prog 95 #[.string (nmB l0),.slice ca cs.length cc,.func (.func 90) #[] #[U_ wb],.func (.func 93) #[] #[U_ pb],A_ most] H fun r H'=>ExpR a most cs l0 H H' r:=by
 have aq:RV a [l0]:=fun l hl=>by rw[Y_]at hl;subst hl;exact⟨bz,W⟩
 refine Ak.of_vc func95 rfl (call95 _) (LL (Ok:=I8) (enc:=Value.string) fun mb H1 c1 c2 ar c3=>?_);have st1:=(St.nil H).mapNewW c1 c2 ar c3;refine Ax underlying259 rfl (.agg #[.map none,.slice none 0 0,A_ 0]) rfl (exL mb (.slice none 0 0) most) rfl (Ct (exL mb (.slice none 0 0) most) rfl ?_);intro xb H2 c4 c5 c6 c7;have c8:St H H2 (exS xb mb none 0 most [] []):=((st1.box c4 c5 c6 c7).nils AhK 9).pick [1,0,2] (by decide);have X:atF most ([]:List (List Int)) l0=some ([l0],0):=by
  unfold atF;rw[List.findIdx?_nil];simp only;rw[F_ (by simp only[m_];omega)];rfl
 refine Af3 c8 (fun l hl=>by cases hl) (fun q hq=>(aq.rng l0 (by simp)).1 q hq) W hm (t_ _) (fun F' i au aw H3 B c9=>?_) (fun H3 B _=>?_)
 ·rw[X]at B;injection B with B
  injection B with B h2
  subst B;subst h2;have cd:St H H3 (exS xb mb au aw most [l0] [pN (tSl u_) none_ 41 none 0 0 [],pS AQ 4 none 0 0 []]):=(c9.nils (tSl u_) 41).nils AQ 4;(conv=>whnf);refine A0.mk [15,16,17] (fun x:Nat×List (List Int)×List (List Nat)×Option Addr×Nat×Option Addr×Nat=>match x with | (i,F,rows,na,nc,Y,Z)=>[.slice na i nc,.slice Y i Z,A_ i])
   (fun x H4=>match x with | (i,F,rows,na,nc,Y,Z)=>i≤F.length∧F.length≤most∧RV a F∧rows.length=i∧B8 most (BT a) (Br cs) l0 i=some (F,rows)∧∃Sx fa fc,St H H4 (exS xb mb fa fc most F [pN (tSl u_) Sx 41 na i nc (rows.map AR),pS AQ 4 Y i Z ((F.take i).map fun l=>decide (a.fin∈l))])) (fun x _=>most-x.1) ?_ ?_
  ·(conv=>whnf);exact⟨(0,[l0],[],none,0,none,0),rfl,t_ _,by simp only[b_,m_];omega,aq,rfl,rfl,none_,au,aw,cd⟩
  ·rintro⟨i,F,rows,na,nc,Y,Z⟩ H4 ce ⟨d8,ax,a2,a3,a0,Sx,fa,fc,g⟩;have cg:=g.blk 0 rfl;refine f_ GP ?_;refine G_ (v:=.slice fa F.length fc) Mh (by rw[cg.cell];rfl) trivial ?_;refine AG.m2 (fun hz=>?_) (fun hz=>?_)
   ·have⟨x,hx⟩:=Ac (l:=F) (k:=i) (by omega);have⟨ch,ay⟩:=a2 x (c_ hx);have m:B8 most (BT a) (Br cs) l0 (i+1)=((Br cs).foldl (CQ most (BT a) x) (some (F,[]))).map fun r=>(r.1,rows++[r.2]):=by
     show(B8 most (BT a) (Br cs) l0 i).bind _=_;rw[a0];simp only[YbP,hx]
    refine D3 AU rfl (by omega) (by omega) (by omega) (by omega) ?_;intro rb H6 cj az b0 a4;rw[U']at b0;rw[U',show(0:Int).toNat=0 from rfl];have a5:=g.newCap (T:=u_) (cap:=cs.length) cj az b0 a4 (by simp[GB]) (by unfold maxLen;omega);(conv=>whnf);refine A0.mk [18,51] (fun y:Nat×List (List Int)×List Nat×Option Addr×Nat=>match y with | (j,F',row,ra,rc)=>[.slice ra row.length rc,A_ j])
     (fun y H7=>match y with | (j,F',row,ra,rc)=>j≤cs.length∧F'.length≤most∧RV a F'∧F <+: F'∧row.length=j∧((Br cs).take j).foldl (CQ most (BT a) x) (some (F,[]))=some (F',row)∧∃fa fc,St H H7 (exS xb mb fa fc most F' [pN (tSl u_) Sx 41 na i nc (rows.map AR),pS AQ 4 Y i Z ((F.take i).map fun l=>decide (a.fin∈l)),pS u_ 3 ra row.length rc (AR row)])) (fun y _=>cs.length-y.1) ?_ ?_
    ·(conv=>whnf);exact⟨(0,F,[],some ⟨rb,0,none⟩,cs.length),rfl,t_ _,ax,a2,YcI _,rfl,rfl,fa,fc,a5⟩
    ·rintro⟨j,F',row,ra,rc⟩ H7 ck ⟨hj,E,G,p,a6,I,C,D,J⟩;refine AG.m2 (fun cm=>?_) (fun cm=>?_)
     ·have⟨c,hc⟩:=Ac (l:=cs) (k:=j) (by omega);have co:=IV hc;have b4:=BC c 0;have s:=ED p hx;refine ixr (i:=j) C0 (ap.frame (J.old.mono V)) hc rfl ?_;rintro b8 o8 d9 da cp rfl;refine L_ (cs:=Ad c) AT cp trivial (Am (Bt 0) (Ad 0) rfl rfl ?_);intro sx H8 cq cr ct cu;have a7:=J.box cq cr ct cu;refine AN (cs:=Ad c) a7 6 rfl rfl (I_ _) rfl fun H9 a8=>?_;rw[Aw (show(Ad c).length=(Ad 0).length from rfl)]at a8;refine L_ (cs:=Ad c) AT ((a8.blk 6 rfl).cells fun j v hv=>by rw[K_];exact hv) trivial ?_;refine Ah (LM c 0 (by decide) H9) fun H10 b5=>?_;have e:=a8.call b5;have b6:=e.blk 0 rfl;refine f_ GP ?_;refine G_ (v:=.slice C F'.length D) Mh (by rw[b6.cell];rfl) trivial ?_;have a9:=e.view 2 rfl;have ab:(F'.map nmB)[i]?=some (nmB x):=by rw[o_,s];rfl
      refine IB (i:=i) OP a9 (Z_ _).symm ab rfl ?_;rintro cw cx cy b7 K ⟨rfl,-⟩;refine lT ct9 K.one ?_;have b9:∀k,S k→k<H10.size:=fun k w=>e.up (V k w);refine Ae.mk (AeI (S:=S) b9 ak (bu.eq (e.old wb (V wb ak))) (bv.frame (e.old.mono V)) bx ch ay b4 (ao.agr e.old)) ?_;rintro _ H11 ⟨rfl,bd⟩;have L:=e.call bd;replace L:St H H11 (exS xb mb C D most F' [pN (tSl u_) Sx 41 na i nc (rows.map AR),pS AQ 4 Y i Z ((F.take i).map fun l=>decide (a.fin∈l)),pS u_ 3 ra row.length rc (AR row)]):=L.pick [0,1,2,3,4,5] (by decide);have o:((Br cs).take (j+1)).foldl (CQ most (BT a) x) (some (F,[]))=(atF most F' (BT a x (AE c 0).1)).map fun r=>(r.1,row++[r.2]):=by
       rw[Af co,Ybh,I];rfl
      refine Af3 L G.rng (fun q hq=>by have:=N_.has_iff.1 (LY q hq);omega) Qt hm E (fun F2 t be bf H12 f M=>?_) (fun H12 f M=>?_)
      ·have⟨cz,db⟩:=AbU f E;rw[f]at o;refine Ay AU [A_ t] rfl rfl (by decide) (by decide) ?_;intro d0 H13 N bg O z;refine IN (x:=(t:Int)) (M.skip N z) 5 AU rfl O ⟨rfl,FQ ⟨by omega,by omega⟩⟩ rfl (by unfold AR;rw[Z_];omega) (by decide) fun ae ag H14 d _=>?_;have e1:(AR row).length+1=(row++[t]).length:=by unfold AR;simp
       have e2:AR row++[(t:Int)]=AR (row++[t]):=by unfold AR;simp
       rw[e1,e2]at d;rw[e1];(conv=>whnf);rw[P_ j (by omega)];exact⟨rfl,(j+1,F2,row++[t],ae,ag),by simp,⟨by omega,cz,G.at_ f,p.trans (by
        unfold atF at f;split at f
        ·injection f with h;injection h with B h2;subst B;exact YcI _
        ·split at f
         ·injection f with h;injection h with B h2;subst B;exact List.prefix_append _ _
         ·cases f),by simp[a6],o,be,bf,d⟩,by simp only;omega⟩
      ·rw[f]at o;have ah:(Br cs).foldl (CQ most (BT a) x) (some (F,[]))=none:=by
        have h3:=(YcC (j+1) (Br cs)).symm;rw[h3,Ybh,o];exact HG x _
       have P:Fy most (BT a) (Br cs) l0=none:=P9 (n:=i) (by rw[m,ah];rfl) (by omega);(conv=>whnf);refine⟨M.old,?_⟩;rw[P]
     ·obtain rfl:j=cs.length:=by omega
      have ai:(Br cs).foldl (CQ most (BT a) x) (some (F,[]))=some (F',row):=by
       rw[←I,Yc2 (by unfold Br;rw[Z_];exact I_ _)]
      rw[ai]at m;simp only[YcK]at m;have s:=ED p hx;have d1:(AR row).length=row.length:=by unfold AR;rw[Z_]
      have A:(rows.map AR).length=i:=by rw[Z_];exact a3
      have bh:((F'.take (i+1)).map fun l=>decide (a.fin∈l))=((F.take i).map fun l=>decide (a.fin∈l))++[decide (a.fin∈x)]:=by
       obtain⟨t,rfl⟩:=p;rw[List.take_append_of_le_length (by omega),Af hx,YcB];rfl
      have Q:((F.take i).map fun l=>decide (a.fin∈l)).length=i:=by rw[Z_,YaW];omega
      obtain⟨dc,de,er,aj,-⟩:=(J.at_ 5 rfl).1.view (S':=a_ (.slice ra row.length rc)) (fun b hb=>hb) (fun b hb=>hb.elim);injection er with er1 er2 er3
      subst er1;subst er3;have a7:St H H7 (pN (tSl u_) (fun k=>Sx k∨a_ (.slice ra row.length rc) k) 41 na i nc (rows.map AR)::[pB tEx xb (exL mb (.slice C F'.length D) most),pMW I8 Value.string mb (exM F'),pS AhK 9 C F'.length D (F'.map nmB),pS AQ 4 Y i Z ((F.take i).map fun l=>decide (a.fin∈l))]):=B_.absorb (J.pick [3,5,0,1,2,4] (by decide));refine Ay EY [.slice ra row.length rc] rfl rfl (by decide) (by decide) ?_;intro d0 H13 N bg O z;have bi:=a7.skip N z;have U:g_ u_ (fun k=>Sx k∨a_ (.slice ra row.length rc) k) H13 ra rc (AR row):=(aj.frame (z.mono fun k w=>by
       have:=(J.in_ 5 rfl (.inl w)).2;omega)).mono fun k w=>.inr w
      refine YB (row:=AR row) bi EY (O.cells fun j v hv=>by rw[K_];exact hv) ⟨ra,rc,by rw[d1],U⟩ rfl (fun u hu=>by cases Y_.1 hu;rfl) (by rw[A];omega) (by decide) fun ae ag H14 d=>?_;rw[A]at d ⊢;have bj:=d.blk 1 rfl;refine f_ GP ?_;refine G_ (v:=.slice C F'.length D) Mh (by rw[bj.cell];rfl) trivial ?_;have ab:(F'.map nmB)[i]?=some (nmB x):=by rw[o_,s];rfl
      refine IB (i:=i) OP (d.view 3 rfl) (Z_ _).symm ab rfl ?_;rintro cw cx cy b7 K ⟨rfl,-⟩;refine lT ct9 K.one ?_;have bm:∀k,S k→k<H14.size:=fun k w=>d.up (V k w);refine Ah (Zs (S:=S) bm am (bw.eq (d.old pb (V pb am))) (a2.rng x (c_ hx)).1 ay) fun H15 bn=>?_;have bo:=d.call bn;refine Ay CJ [.bool (decide (a.fin∈x))] rfl rfl (by decide) (by decide) ?_;intro df H16 bp d5 bq br;refine IN (x:=decide (a.fin∈x)) (bo.skip bp br) 4 CJ rfl bq rfl rfl (by rw[Q];omega) (by decide) fun d2 d3 H17 R _=>?_;rw[Q,←bh]at R;rw[Q];(conv=>whnf);rw[P_ i (by omega)];refine⟨rfl,(i+1,F',rows++[row],ae,ag,d2,d3),by simp,⟨?_,E,G,by simp[a3],m,(fun k=>Sx k∨a_ (.slice ra row.length rc) k),C,D,?_⟩,by simp only;omega⟩
      ·have:=(O_.1 s).1;omega
      ·have e5:rows.map AR++[AR row]=(rows++[row]).map AR:=by simp
       rw[e5]at R;exact R.pick [1,2,3,0,4] (by decide)
   ·obtain rfl:i=F.length:=by omega
    rw[Yc0]at g;have A:(rows.map AR).length=F.length:=by rw[Z_];exact a3
    have P:=L7 a0 rfl ax;have a1:=Wv ca na Y cc nc Z cs (rows.map AR) (F.map fun l=>decide (a.fin∈l)) (H_ H4) H4 (fun k w=>w) ((ap.frame (g.old.mono V)).mono fun k w=>g.up (V k w)) (g.view 3 rfl) (g.view 4 rfl);rw[A,Z_]at a1;refine Ae.mk a1 ?_;rintro v H6 ⟨a4,az,d4⟩;have a5:=g.call a4;(conv=>whnf);refine⟨a5.old,?_⟩;rw[P];exact⟨v,rfl,d4.mono fun k w=>⟨YbA (Bv g.old) w.1,w.2⟩⟩
 ·rw[X]at B;cases B
theorem WJ{β:Type}:∀(xs:List (List β)) (q:Nat) (row z:List β),xs[q]?=some row→((xs.set q z).map Al0).sum+row.length=(xs.map Al0).sum+z.length
 | [],q,row,z,h=>by simp at h
 | x::xs,0,row,z,h=>by
   simp only[YcA,AjW.injEq]at h;subst h;simp only[List.set_cons_zero,YaV,YcX];omega
 | x::xs,q+1,row,z,h=>by
   rw[Yba]at h;have:=WJ xs q row z h;simp only[Ycu,YaV,YcX];omega
theorem AcY{β:Type}{n q:Nat}{a:Y'→Option (Nat×β)}{l:List Y'}{e:Y'}{y:β}(h:a e=some (q,y))(d:n≤q):grp n a (l++[e])=grp n a l:=by
 unfold grp;refine YcE fun j c=>?_;rw[List.filterMap_append];have b:q≠j:=by have:=YaY.1 c;omega
 simp[h,b]
theorem AcZ{β:Type}(n:Nat)(b:Y'→Option (Nat×β))(l:List Y'):∀k,k≤l.length→((grp n b (l.take k)).map Al0).sum≤k:=by
 intro k
 induction k with
 | zero=>
   intro _;rw[Ybq,Ri,List.map_replicate];simp
 | succ k d=>
   intro i;have⟨e,f⟩:=Ac (l:=l) (k:=k) (by omega);have:=d (by omega);rw[Af f];cases c:b e with
   | none=>rw[Gl c];omega
   | some p=>
     have⟨q,y⟩:=p;by_cases g:q<n
     ·have⟨row,a⟩:=Ac (l:=grp n b (l.take k)) (k:=q) (by rw[D4];exact g);rw[Oa c a];have h:=WJ _ _ _ (row++[y]) a;simp only[J_,b_,m_]at h;omega
     ·rw[AcY c (by omega)];omega
def Dw(a:N_):List (BitVec 256):=(OU a).flatMap fun r=>r.map fun e=>e.set
theorem SI{β γ:Type}(f:β→γ):∀xs:List (List β),(xs.flatMap fun r=>r.map f).length=(xs.map Al0).sum
 | []=>rfl
 | x::xs=>by rw[Yc6,J_,Z_,SI f xs,YaV,YcX]
def Dr(a:N_)(i:Nat):List (BitVec 256):=((OU a).take i).flatMap fun r=>r.map fun e=>e.set
theorem Vj(a:N_)(i:Nat):(Dr a i).length≤a.edges.length:=by
 unfold Dr;rw[SI];have b:=AcZ (Fs a) (K7 a) a.edges a.edges.length (I_ _);rw[Yc0]at b;have c:(((OU a).take i).map Al0).sum≤((OU a).map Al0).sum:=by
  conv=>rhs;rw[←YcC i (OU a)]
  rw[YcB,Ydd];omega
 unfold OU at c ⊢;omega
noncomputable def DetR(a:N_)(budget:Nat)(H H':Aa)(r:v_):Prop:=C_ (H_ H) H H'∧
 match Fy budget (BT a) (CG (Dw a)) (FR (NF a))with
 | none=>r= .tuple #[.pointer none,A_ 40]
 | some (F,rows)=>∃v,r= .tuple #[v,A_ 0]∧AZ (fun k=>H.size≤k∧k<H'.size) H' v (if Bk (Bz (Dw a)) (rows.map AR) F.length then some (Bi (Bz (Dw a)) (rows.map AR) (F.map fun l=>decide (a.fin∈l)))else none)
theorem Pi{S:Nat→Prop}{H:Aa}{v:v_}{a:N_}{budget:Nat}(hS:∀k,S k→k<H.size)(h:NfV S H v a)(C:EM prog H)(ae:1≤budget)(ag:budget≤4096):
  Ak prog 38 #[v,A_ budget] H fun r H'=>DetR a budget H H' r:=by
 have hr:=h.1;have hl:=h.2.1;have d1:decide ((budget:Int)<1)=false:=V_;have d2:decide ((4096:Int)<(budget:Int))=false:=V_;have bq:=R5 a;refine Ak.of_vc func38 rfl (call38 _) (R3 h fun ea ec ah h1=>?_);subst ah;intro p H1 hp ai P aj;have st1:=(St.nil H).box hp ai P aj;(conv=>whnf);rw[d1];(conv=>whnf);rw[d2];refine JS hr hl (st1.blk 0 rfl) FI trivial (h1.frame (st1.old.mono hS)) fun v2 ak=>(Ae.mk (Ae5 (fun k c=>st1.up (hS k c)) ak) ?_);rintro nv H3 ⟨am,Q⟩;have R:=st1.call am;have D:=Q;have⟨nb,sa,sc,ta,tc,ao,U,f,ap,J⟩:=Q;subst ao;refine Am _ [.pointer none] rfl rfl ?_;intro V H4 aq ar au aw;have u4:St H3 H4 [pB 168 V [.pointer none]]:=(St.nil H3).box aq ar au aw;refine Bh u4 0 P8 rfl (show 0<1 by decide) rfl fun H5 u5=>?_;replace u5:St H3 H5 [pB 168 V [U_ nb]]:=u5;have u6:St H3 H5 [pB 168 V [U_ nb],pS Cp 101 none 0 0 []]:=u5.nils Cp 101;have W:(OU a).length=Fs a:=D4 _ _ _;have hT:∀i,(Dr a i).length≤a.edges.length:=fun i=>Vj a i;refine lT (v:=U_ nb) P8 ((u6.blk 0 rfl).ce rfl) ?_;refine f_ KU (G_ (v:=.slice ta (Fs a) tc) S6 ((f.eq (u6.old nb U)) 1 _ rfl) trivial ?_);(conv=>whnf);refine A0.mk [7,30] (fun x:Nat×Option Addr×Nat=>match x with | (i,a5,c5)=>[.slice a5 (Dr a i).length c5,A_ i])
  (fun x H6=>x.1≤Fs a∧St H3 H6 [pB 168 V [U_ nb],pS Cp 101 x.2.1 (Dr a x.1).length x.2.2 (Dr a x.1)]) (fun x _=>Fs a-x.1) ?_ ?_
 ·(conv=>whnf);exact⟨(0,none,0),rfl,t_ _,u6⟩
 ·rintro⟨i,a5,c5⟩ H6 ax ⟨hi,m⟩;simp only at hi m;refine AG.m2 (fun hz=>?_) (fun hz=>?_)
  ·have⟨row,E⟩:=Ac (l:=OU a) (k:=i) (by omega);have g:Dr a (i+1)=Dr a i++row.map fun e=>e.set:=by
    unfold Dr;rw[Af E,YcV];simp
   have ay:=hT (i+1);rw[g,J_,Z_]at ay;refine IB (i:=i) TD (J.frame m.old) W.symm E rfl ?_;rintro b8 o8 c8 bu az ⟨ra,rc,rfl,Y⟩;have b0:g_ tEd (H_ H3) H6 ra rc row:=Y;refine lT IW az.one ?_;(conv=>whnf);refine A0.mk [7,36] (fun x:Nat×Option Addr×Nat=>match x with | (j,a6,c6)=>[.slice a6 (Dr a i++(row.take j).map fun e=>e.set).length c6,A_ j])
    (fun x H7=>x.1≤row.length∧St H3 H7 [pB 168 V [U_ nb],pS Cp 101 x.2.1 (Dr a i++(row.take x.1).map fun e=>e.set).length x.2.2 (Dr a i++(row.take x.1).map fun e=>e.set)]) (fun x _=>row.length-x.1) ?_ ?_
   ·(conv=>whnf);refine⟨(0,a5,c5),by simp,t_ _,?_⟩;simpa using m
   ·rintro⟨j,a6,c6⟩ H7 b4 ⟨hj,s⟩;simp only at hj s;have Z:g_ tEd (H_ H3) H7 ra rc row:=Od b0 m s (fun k c=>c);refine AG.m2 (fun b5=>?_) (fun b5=>?_)
    ·have⟨e,he⟩:=Ac (l:=row) (k:=j) (by omega);have b7:(Dr a i++(row.take j).map fun e=>e.set).length≤33554432:=by
      rw[J_,Z_,YaW];omega
     refine ixr (i:=j) Jx Z he rfl ?_;rintro b6 o6 c7 bv b9 ⟨rfl,bw⟩;refine L_ (cs:=edL e) N6 b9 trivial (Am _ [A_ 0,A_ 0,.bool false,.int .u64 0,.int .u64 0,.int .u64 0,.int .u64 0] Kv rfl ?_);intro x H8 hx bd be b;have O:=s.box hx bd be b;refine AN (cs:=edL e) O 2 rfl rfl (I_ _) rfl fun H9 K=>?_;rw[Aw (show(edL e).length=7 from rfl)]at K;refine f_ Rc (L_ (cs:=Ad e.set) AT ((K.blk 2 rfl).cells fun j v z=>VK e j v z) trivial (Ay C0 (Ad e.set) rfl rfl (by decide) (by decide) ?_));intro bx H11 a0 br a1 a2;refine Kj (ys:=[e.set]) (K.skip a0 a2) 1 C0 rfl (a1.cells (o:=0) (cs:=Ad e.set) fun j v z=>by rw[K_];exact z) (Ty.reps_one rfl) rfl (fun u hu=>Ybl.1 (show(Ad e.set).all (·.oneCell')=true from rfl) u hu) (by unfold maxLen;simp only[b_,m_];omega) (by simp only[b_,m_];omega) fun bf bg H12 a3 _=>?_;have e1:(Dr a i++(row.take j).map fun e=>e.set)++[e.set]=Dr a i++(row.take (j+1)).map fun e=>e.set:=by rw[Af he];simp
     have e2:(Dr a i++(row.take j).map fun e=>e.set).length+[e.set].length=(Dr a i++(row.take (j+1)).map fun e=>e.set).length:=by rw[←e1];exact J_.symm
     rw[e1,e2]at a3;rw[e2];(conv=>whnf);rw[P_ j (by omega)];exact⟨rfl,(j+1,bf,bg),by simp,⟨by simp only;omega,a3.pick [0,1] (by decide)⟩,by simp only;omega⟩
    ·obtain rfl:j=row.length:=by omega
     rw[Yc0,←g]at s;rw[Yc0,←g];(conv=>whnf);rw[P_ i (by omega)];exact⟨rfl,(i+1,a6,c6),by simp,⟨by simp only;omega,s⟩,by simp only;omega⟩
  ·obtain rfl:i=Fs a:=by omega
   have G:Dr a (Fs a)=Dw a:=by unfold Dr Dw;rw[←W,Yc0]
   have a4:=hT (Fs a);rw[G]at m a4;rw[G];have L:St H H6 [pB 76 p (nfL a (.slice ea a.edges.length ec))]:=R.call m.old;have bh:=L.blk 0 rfl;have bi:=m.blk 0 rfl;have a7:∀q∈FR (NF a),a.has q=true:=fun q hq=>Hp a q ((HC (FP (Hp a)) q).1 hq);have M:EM prog H3:=C.agr R.old;have a8:M6 (H_ H6) H6 (U_ nb) a:=(D.frame m.old).mono fun k c=>m.up c;(conv=>whnf);refine An.cut (α:=Unit) [12] (fun _=>[.string (nmB (FR (NF a)))]) (fun _ H8=>C_ (H_ H6) H6 H8) ?_ ?_
   ·refine G_ (v:=U_ nb) P8 (by rw[bi.cell];rfl) trivial ?_;refine f_ K1 ?_;refine G_ (v:=A_ a.start) E_ (by rw[bh.cell];rfl) trivial ?_;refine Ah (UO (f.eq (m.old nb U))) fun H8 b=>?_;have N:=L.call b;have s:=m.call b;cases A:a.has a.start with
    | false=>
      have e:FR (NF a)=[]:=by
       rw[PP (X:=NF a) (l:=[]) (FP (Hp a)) List.Pairwise.nil fun q=>⟨fun h=>(by cases h),fun h=>by
        obtain⟨r,⟨-,h2⟩,-⟩:=h;rw[A]at h2;cases h2⟩]
      (conv=>whnf);refine⟨rfl,(),?_,b⟩;rw[e];rfl
    | true=>
      have bj:=N_.has_iff.1 A;refine lT (v:=U_ nb) P8 ((s.blk 0 rfl).ce rfl) ?_;refine f_ K1 ?_;refine lT (v:=A_ a.start) E_ ((N.blk 0 rfl).ce rfl) ?_;refine Ay AU [A_ a.start] rfl rfl (by decide) (by decide) ?_;intro y H9 hy bm bn B;have w9:St H8 H9 [pS u_ 3 (T_ y) 1 1 [a.start]]:=(St.nil H8).new (T:=u_) (n:=1) (xs:=[a.start]) hy bm bn B (Ty.reps_one ⟨rfl,FQ ⟨bj.1,by omega⟩⟩) rfl (by unfold maxLen;omega);refine Ae.mk (VB (X:=[a.start]) w9 (fun k c=>c) ((a8.frame b).mono fun k c=>Ar b c) (fun q hq=>by rw[Y_]at hq;subst hq;exact A) (by simp only[b_,m_];omega) hl (M.agr (s.old))) ?_;rintro _ H10 ⟨rfl,t⟩;have e:(fun q=>q∈[a.start])=fun q=>q=a.start∧a.has a.start=true:=funext fun q=>propext (by simp[A]);(conv=>whnf);refine⟨rfl,(),?_,b.trans (t.mono fun k c=>Ar b c)⟩;rw[e];rfl
   ·rintro⟨⟩ H8 bo b;have N:=L.call b;have s:=m.call b;have a9:g_ Cp (H_ H8) H8 a5 c5 (Dw a):=s.view 1 rfl;refine Ae.mk (Kq (fun k c=>c) a9 (YbA a4 hl)) ?_;rintro _ H9 ⟨B,ca,cc,rfl,bp⟩;have w:=N.call B;have O:=s.call B;have ab:M6 (H_ H9) H9 (U_ nb) a:=(D.frame O.old).mono fun k c=>O.up c;refine Ae.mk (Xn (S:=H_ H9) (l0:=FR (NF a)) (fun k c=>c) (O.in_ 0 rfl rfl).2 ((O.blk 0 rfl).cells fun j v z=>by rw[K_];exact z) ab (w.in_ 0 rfl rfl).2 ((w.blk 0 rfl).cells fun j v z=>by rw[K_];exact z) hl (C.agr w.old) bp (reps_len _) a7 (Lb _) ae ag) ?_;rintro r H10 ⟨t,d⟩;have I:=w.call t;change match Fy budget (BT a) (CG (Dw a)) (FR (NF a))with | none=>_ | some (F,rows)=>_ at d
    cases hd:Fy budget (BT a) (CG (Dw a)) (FR (NF a))with
    | none=>
      rw[hd]at d;simp only at d;subst d;(conv=>whnf);refine⟨I.old,?_⟩;rw[hd]
    | some q=>
      have⟨F,rows⟩:=q;rw[hd]at d;obtain⟨v,rfl,z⟩:=d;(conv=>whnf);refine⟨I.old,?_⟩;rw[hd];exact⟨v,rfl,z.mono fun k c=>⟨YbA (Bv w.old) c.1,c.2⟩⟩
section
attribute [local irreducible] Bj
def cnt(cells:List (BitVec 256))(b:Nat):Nat:=(cells.filter fun x=>x.getLsbD b).length
def ind(x:BitVec 256)(b:Nat):Nat:=if x.getLsbD b then 1 else 0
theorem NM(c:BitVec 256)(cs:List (BitVec 256))(b:Nat):cnt (c::cs) b=ind c b+cnt cs b:=by
 unfold cnt ind;rw[YcU];split<;>simp<;>omega
theorem Sg{a c:BitVec 256}:a &&& c=0#256↔∀b,b<256→ind a b+ind c b≤1:=by
 constructor
 ·intro h b e;have d:(a &&& c).getLsbD b=false:=by rw[h];simp
  rw[YcL]at d;unfold ind;cases f:a.getLsbD b<;>cases g:c.getLsbD b<;>simp_all
 ·intro h;apply Yap;intro b e;have d:=h b e;rw[YcL];unfold ind at d;cases f:a.getLsbD b<;>cases g:c.getLsbD b<;>simp_all
theorem Z9{a c:BitVec 256}(h:a &&& c=0#256){b:Nat}(d:b<256):ind (a ||| c) b=ind a b+ind c b:=by
 have e:=Sg.1 h b d;unfold ind at e ⊢;rw[Yaq];cases f:a.getLsbD b<;>cases g:c.getLsbD b<;>simp_all
theorem IZ:∀(cs:List (BitVec 256)) (all:BitVec 256),(∃x,DV all cs=some x)↔∀b,b<256→ind all b+cnt cs b≤1
 | [],all=>by
   simp only[DV,cnt,Yda,m_];refine⟨fun _ b _=>?_,fun _=>⟨_,rfl⟩⟩;unfold ind;split<;>omega
 | c::cs,all=>by
   simp only[DV];split
   ·rename_i h;rw[IZ cs (all ||| c)];constructor
    ·intro d b a;have:=d b a;rw[Z9 h a]at this;rw[NM];omega
    ·intro d b a;have:=d b a;rw[NM]at this;rw[Z9 h a];omega
   ·rename_i h;refine⟨fun⟨x,e⟩=>(by cases e),fun d=>absurd (Sg.2 fun b a=>?_) h⟩;have:=d b a;rw[NM]at this;omega
theorem VE{cs:List (BitVec 256)}{b:Nat}:(cs.any fun c=>c.getLsbD b)=true↔1≤cnt cs b:=by
 unfold cnt;rw[List.any_eq_true];constructor
 ·rintro⟨x,a,d⟩;exact Yde (Ybn.2 ⟨a,d⟩)
 ·intro h;have⟨x,a⟩:=List.exists_mem_of_length_pos h;exact⟨x,(Ybn.1 a).1,(Ybn.1 a).2⟩
theorem KI{cells:List (BitVec 256)}{next:List (List Int)}{i:Nat}:Bk cells next i=true↔(1≤next.length∧next.length≤65536∧next.length=i)∧(∀b,b<256→cnt cells b=1)∧∀row∈next,GV next.length cells.length row=true:=by
 have j:∀b,ind 0#256 b=0:=fun b=>by simp[ind]
 constructor
 ·intro h;have f:=E1 h;unfold Bk at h;split at h
  ·cases h
  ·rename_i d a;simp only[r_,beq_iff_eq,Zzj,Ybl]at h;refine⟨⟨f.1,f.2.1,f.2.2.1⟩,fun b c=>?_,h.2⟩;have g:=(IZ cells 0#256).1 ⟨d,a⟩ b c;rw[j]at g;have e:=IY a b;rw[h.1.1.1.1,Yar]at e;simp only[c,decide_true,BitVec.getLsbD_zero,Bool.false_or]at e;have k:=VE.1 e.symm;omega
 ·rintro⟨⟨g,e,k⟩,l,m⟩;have⟨d,a⟩:=(IZ cells 0#256).2 fun b c=>by rw[j,l b c];omega
  unfold Bk;rw[a];simp only[r_,beq_iff_eq,Zzj,Ybl];refine⟨⟨⟨⟨Yap fun b c=>?_,g⟩,e⟩,k⟩,m⟩;rw[IY a b,Yar,VE.2 (by rw[l b c];omega)];simp[c]
def CR(cells:List (BitVec 256))(a b:Nat):Bool:=cells.all fun c=>c.getLsbD a==c.getLsbD b
def AP(cells:List (BitVec 256)):Nat→List Nat×List Nat
 | 0=>([],[])
 | b+1=>match(AP cells b).1.findIdx? fun g=>CR cells b g with
   | some k=>((AP cells b).1,(AP cells b).2++[k])
   | none=>((AP cells b).1++[b],(AP cells b).2++[(AP cells b).1.length])
def Et(ps:List Nat)(k:Nat)(b:Nat):Bool:=ps[b]?==some k
def NC(ps:List Nat)(n:Nat):List (Nat→Bool):=(AjN n).map (Et ps)
structure AtOk(cells:List (BitVec 256))(b:Nat)(f ps:List Nat):Prop where
 plen:ps.length=b
 flen:f.length≤b
 lt:∀p∈ps,p<f.length
 first:∀(k g:Nat),f[k]?=some g→g<b∧ps[g]?=some k
 sig:∀(i p g:Nat),ps[i]?=some p→f[p]?=some g→CR cells i g=true∧g≤i
theorem KH(cells:List (BitVec 256))(a:Nat):CR cells a a=true:=by simp[CR]
theorem IQ(cells:List (BitVec 256)):∀b,AtOk cells b (AP cells b).1 (AP cells b).2
 | 0=>⟨rfl,I_ _,(fun p h=>by cases h),(fun k g h=>by cases h),(fun i p g h=>by cases h)⟩
 | b+1=>by
   have a:=IQ cells b;unfold AP;split
   ·rename_i k q;rw[YcP]at q;obtain⟨f,m,_⟩:=q;refine⟨by simp[a.plen],by have:=a.flen;simp only;omega,fun p n=>?_,fun o g c=>?_,fun i p g d c=>?_⟩
    ·rcases q_.1 n with h | h
     ·exact a.lt p h
     ·rw[Y_]at h;subst h;exact f
    ·have⟨r,s⟩:=a.first o g c
     exact⟨by omega,by simp only;rw[YaG (by rw[a.plen];exact r)];exact s⟩
    ·simp only at d c;by_cases j:i<b
     ·rw[YaG (by rw[a.plen];exact j)]at d;exact a.sig i p g d c
     ·rw[YaE (by rw[a.plen];omega),a.plen]at d;have l:i-b=0:=by
       have:=(O_.1 d).1;simp only[h_]at this;omega
      rw[l,YcA]at d;cases d;rw[N' f]at c;cases c;have e:i=b:=by omega
      subst e;exact⟨m,by have:=(a.first _ _ (N' f)).1;omega⟩
   ·rename_i q;refine⟨by simp[a.plen],by have:=a.flen;simp;omega,fun p n=>?_,fun o g c=>?_,fun i p g d c=>?_⟩
    ·simp only[J_,h_];rcases q_.1 n with h | h
     ·have:=a.lt p h;omega
     ·rw[Y_]at h;subst h;omega
    ·simp only at c ⊢;by_cases t:o<(AP cells b).1.length
     ·rw[YaG t]at c;have⟨r,s⟩:=a.first o g c
      exact⟨by omega,by rw[YaG (by rw[a.plen];exact r)];exact s⟩
     ·rw[YaE (by omega)]at c;have u:=(O_.1 c).1;simp only[h_]at u;rw[show o-(AP cells b).1.length=0 by omega,YcA]at c;cases c;exact⟨by omega,by rw[YaE (by rw[a.plen];omega),a.plen,Ycm,YcA];congr 1;omega⟩
    ·simp only at d c;by_cases j:i<b
     ·rw[YaG (by rw[a.plen];exact j)]at d;have n:=a.lt p (c_ d);rw[YaG n]at c;exact a.sig i p g d c
     ·rw[YaE (by rw[a.plen];omega),a.plen]at d;have l:i-b=0:=by
       have:=(O_.1 d).1;simp only[h_]at this;omega
      rw[l,YcA]at d;cases d;rw[YaE (I_ _),Ycm,YcA]at c;cases c;have e:i=b:=by omega
      subst e;exact⟨KH _ _,I_ _⟩
def asI(l:List Nat):List Int:=l.map fun(n:Nat)=>(n:Int)
theorem AbR{l:List Nat}{i n:Nat}(h:l[i]?=some n):(asI l)[i]?=some (n:Int):=by unfold asI;rw[o_,h];rfl
theorem AbS(l:List Nat):(asI l).length=l.length:=by simp[asI]
theorem Ud(ps:List Nat)(n:Nat):(NC ps n).length=n:=by simp[NC]
theorem Uc{ps:List Nat}{n k:Nat}(h:k<n):(NC ps n)[k]?=some (Et ps k):=by unfold NC;rw[o_,YaR h];rfl
section
variable{cells:List (BitVec 256)}
theorem NB{b k:Nat}(h:(AP cells b).1.findIdx? (fun g=>CR cells b g)=some k):AP cells (b+1)=((AP cells b).1,(AP cells b).2++[k]):=by
 rw[AP,h]
theorem NA{b:Nat}(h:(AP cells b).1.findIdx? (fun g=>CR cells b g)=none):AP cells (b+1)=((AP cells b).1++[b],(AP cells b).2++[(AP cells b).1.length]):=by
 rw[AP,h]
end
end
section
attribute [local irreducible] Bj AP
def dfaL(cell:List Int)(rv nv fv:v_):List v_:=cell.map (Value.int .i64)++[rv,nv,fv]
section
variable{cell:List Int}{rv nv fv v:v_}
end
end
section
attribute [local irreducible] Bj
def Cs(cells:List (BitVec 256))(next:List (List Int))(final:List Bool):Option AM:=if Bk cells next final.length then some (Bi cells next final)else none
structure TabIn(S:Nat→Prop)(H:Aa)(v:v_)(cells:List (BitVec 256))(next:List (List Int))(final:List Bool):Prop where
 lt:∀k,S k→k<H.size
 rep:∃ca na fa cc nc fc,v= .agg #[.slice ca cells.length cc,.slice na next.length nc,.slice fa final.length fc]∧g_ Cp S H ca cc cells∧g_ J9 S H na nc next∧g_ AQ S H fa fc final
 cn:cells.length≤1048576
 nn:next.length≤1048576
 rn:∀row∈next,row.length≤1048576
 fn:final.length≤1048576
section
open Classical
end
end
section
attribute [local irreducible] Bj AP
structure DM where
 cell:List Int
 reps:List Int
 next:List (List Int)
 final:List Bool
structure DfaV(S:Nat→Prop)(H:Aa)(v:v_)(D:DM):Prop where
 len:D.cell.length=256
 rep:∃ra rc na nc fa fc,v= .agg (dfaL D.cell (.slice ra D.reps.length rc) (.slice na D.next.length nc) (.slice fa D.final.length fc)).toArray∧g_ tI S H ra rc D.reps∧g_ J9 S H na nc D.next∧g_ AQ S H fa fc D.final
def Tx(cells:List (BitVec 256))(f:List Nat)(row:List Int):List Int:=f.map fun r=>row.getD (Ba cells r) 0
def Ed(cells:List (BitVec 256))(next:List (List Int))(final:List Bool):DM:=
 ⟨asI (AP cells 256).2,asI (AP cells 256).1,next.map (Tx cells (AP cells 256).1),final⟩
def Fq:DM:=⟨AkK 256 0,[0],[[0]],[false]⟩
theorem Tz(cells:List (BitVec 256))(f:List Nat)(row:List Int):(Tx cells f row).length=f.length:=by simp[Tx]
def Fk(cells:List (BitVec 256))(next:List (List Int))(final:List Bool):DM:=if Bk cells next final.length then Ed cells next final else Fq
structure DM.Ok(D:DM):Prop where
 n1:1≤D.next.length
 n2:D.next.length≤65536
 fl:D.final.length=D.next.length
 cell:D.cell.length=256
 rows:∀row∈D.next,row.length≤256∧(∀c∈D.cell,0≤c∧c<(row.length:Int))∧∀t∈row,0≤t∧t<(D.next.length:Int)
def FH(D:DM)(q:Int)(b:Nat):Int:=if q<0∨(D.next.length:Int)≤q then -1 else((D.next[q.toNat]?).getD []).getD (D.cell.getD b 0).toNat 0
def AcO(D:DM)(q:Int):Bool:=decide (0≤q)&&(D.final[q.toNat]?).getD false
theorem Ls{D:DM}{q b:Nat}{row:List Int}{c:Nat}{t:Int}(a:D.next[q]?=some row)(d:D.cell[b]?=some (c:Int))(e:row[c]?=some t):FH D (q:Int) b=t:=by
 have:=(O_.1 a).1;unfold FH;rw[D_ (by omega)];simp only[U',a,YaD,d,Ydp,e]
theorem DM.Ok.at{D:DM}(h:D.Ok){q b:Nat}(f:q<D.next.length)(g:b<256):∃row c t,D.next[q]?=some row∧D.cell[b]?=some ((c:Nat):Int)∧row[c]?=some t∧c<256∧0≤t∧t<(D.next.length:Int)∧t∈row:=by
 have⟨row,d⟩:=Ac f;have⟨i,e⟩:=Ac (l:=D.cell) (k:=b) (by rw[h.cell];exact g);have⟨o,j,m⟩:=h.rows row (c_ d);have⟨n,p⟩:=j i (c_ e);obtain⟨c,rfl⟩:=YbS n;have⟨t,a⟩:=Ac (l:=row) (k:=c) (by omega);have:=m t (c_ a);exact⟨row,c,t,d,e,a,by omega,this.1,this.2,c_ a⟩
structure MkOk(D:DM)(u:List Bool):Prop where
 len:u.length=D.next.length
 live:∀q:Nat,u[q]?=some true→E5 D.next D.final q
 fin:∀q:Nat,D.final[q]?=some true→u[q]?=some true
def IM(D:DM)(u:List Bool)(q:Nat):Prop:=u[q]?=some true∨∀(row:List Int) (t:Nat),D.next[q]?=some row→(t:Int)∈row→u[t]? ≠some true
open Classical in
noncomputable def QC(D:DM)(q:Int):Bool:=decide (E5 D.next D.final q.toNat)
theorem TH{D:DM}(a:D.Ok){q:Int}{b:Nat}(h0:0≤q)(j:q<D.next.length)(d:b<256):0≤FH D q b∧FH D q b<D.next.length:=by
 obtain⟨n,rfl⟩:=YbS h0;obtain⟨row,c,t,e,f,g,_,h,i,_⟩:=a.at (q:=n) (b:=b) (by omega) d;rw[Ls e f g];exact⟨h,i⟩
end
section
section
variable{S:Nat→Prop}{H:Aa}{v:v_}{cells:List (BitVec 256)}{next:List (List Int)}{final:List Bool}
end
structure MOk2(next:List (List Int))(cells:List (BitVec 256))(b:Nat)(st:MS):Prop where
 at_:∀(i p:Nat),st.cell[i]?=some p→∃c,st.cols[p]?=some c∧EO next c (Ba cells i)=true
 some_:∀p,p<st.cols.length→∃i,i<b∧st.cell[i]?=some p
theorem Sd(next:List (List Int))(c:Nat):EO next c c=true:=by simp[EO]
theorem Oi{next:List (List Int)}{cells:List (BitVec 256)}{sp:Nat→BitVec 256}(o:∀b,b<256→Ba cells b<cells.length):∀b,b≤256→MOk2 next cells b (Bj next cells sp b)
 | 0,_=>⟨(fun i p h=>by simp[Bj]at h),(fun p h=>by simp[Bj]at h)⟩
 | b+1,hb=>by
   have g:=Oi (next:=next) (sp:=sp) o b (by omega);have a:=FS (next:=next) (sp:=sp) o b (by omega);unfold Bj Oj Hg;cases q:Lc next (Bj next cells sp b).cols (Ba cells b)with
   | some k=>
     unfold Lc at q;obtain⟨r,l,_⟩:=YcP.1 q;refine⟨fun i p h=>?_,fun p j=>?_⟩
     ·simp only at h ⊢;by_cases d:i<b
      ·rw[YaG (by rw[a.cell];exact d)]at h;exact g.at_ i p h
      ·rw[YaE (by rw[a.cell];omega),a.cell]at h;have m:=(O_.1 h).1;simp only[h_]at m;rw[show i-b=0 by omega,YcA]at h;cases h;rw[show i=b by omega];exact⟨_,N' r,l⟩
     ·simp only at j ⊢;have⟨i,e,f⟩:=g.some_ p j;exact⟨i,by omega,by rw[YaG (by rw[a.cell];exact e)];exact f⟩
   | none=>
     refine⟨fun i p h=>?_,fun p j=>?_⟩
     ·simp only at h ⊢;by_cases d:i<b
      ·rw[YaG (by rw[a.cell];exact d)]at h;have⟨c,e,f⟩:=g.at_ i p h;exact⟨c,by rw[YaG (O_.1 e).1];exact e,f⟩
      ·rw[YaE (by rw[a.cell];omega),a.cell]at h;have m:=(O_.1 h).1;simp only[h_]at m;rw[show i-b=0 by omega,YcA]at h;cases h;rw[show i=b by omega];exact⟨Ba cells b,by simp,Sd _ _⟩
     ·simp only[J_,h_]at j ⊢;by_cases n:p<(Bj next cells sp b).cols.length
      ·have⟨i,e,f⟩:=g.some_ p n;exact⟨i,by omega,by rw[YaG (by rw[a.cell];exact e)];exact f⟩
      ·exact⟨b,by omega,by rw[YaE (by rw[a.cell];omega),a.cell,Ycm,YcA];congr 1;omega⟩
attribute [local irreducible] Bj AP
theorem Ua{next:List (List Int)}{c d:Nat}{row:List Int}(h:EO next c d=true)(a:row∈next):row[c]?=row[d]? :=by
 unfold EO at h;simp only[Bool.or_eq_true,beq_iff_eq,Ybl]at h;rcases h with h | h
 ·rw[h]
 ·exact h row a
section
variable{cells:List (BitVec 256)}
theorem AaO{a b:Nat}(h:CR cells a b=true):Ba cells a=Ba cells b:=by
 unfold Ba;unfold CR at h;rw[Ybl]at h
 induction cells with
 | nil=>rfl
 | cons c g d=>
   have e:c.getLsbD a=c.getLsbD b:=by simpa using h c Yca
   rw[Ydk,Ydk,e,d fun x f=>h x (YbY _ f)]
theorem EU{next:List (List Int)}{final:List Bool}{q b:Nat}{row:List Int}(i:next[q]?=some row)(j:b<256):FH (Ed cells next final) (q:Int) b=row.getD (Ba cells b) 0:=by
 have a:=IQ cells 256;have⟨p,e⟩:=Ac (l:=(AP cells 256).2) (k:=b) (by rw[a.plen];exact j);have f:=a.lt p (c_ e);have⟨g,h⟩:=Ac f;have d:=(a.sig b p g e h).1;refine Ls (row:=Tx cells (AP cells 256).1 row) (c:=p) (by simp only[Ed];rw[o_,i];rfl) (by simp only[Ed];exact AbR e) ?_;unfold Tx;rw[o_,h];simp only[YcK,AaO d]
end
section
variable{cells:List (BitVec 256)}{next:List (List Int)}{final:List Bool}(hs:Bk cells next final.length=true)
include hs
section
variable{q b:Nat}{row:List Int}
theorem LH(f:next[q]?=some row)(d:b<256):∃g p,(Bi cells next final).next[q]?=some g∧(Bi cells next final).cell[b]?=some p∧g[p]?=some (row.getD (Ba cells b) 0):=by
 have h:=fun b d=>(BK hs (b:=b) d).1;have j:=FS (next:=next) (sp:=fun b=>AC b b) h 256 (I_ _);have m:=Oi (next:=next) (sp:=fun b=>AC b b) h 256 (I_ _);have⟨p,i⟩:=Ac (l:=(Bj next cells (fun b=>AC b b) 256).cell) (k:=b) (by rw[j.cell];exact d);have⟨c,a,e⟩:=m.at_ b p i;refine⟨Gu (Bj next cells (fun b=>AC b b) 256).cols row,p,by simp only[Bi];rw[o_,f];rfl,i,?_⟩;unfold Gu;rw[o_,a];simp only[YcK,AjW.injEq];rw[YaD,YaD,Ua e (c_ f)]
theorem Er(c:next[q]?=some row)(d:b<256):As (some (Bi cells next final)) (q:Int) b=row.getD (Ba cells b) 0:=by
 have⟨g,p,a,e,f⟩:=LH hs c d;have:=(O_.1 a).1;unfold As;rw[D_ (by simp[stN];omega)];simp only[U',a,YaD,e,Ydp,f]
end
theorem Tb:(Ed cells next final).Ok:=by
 have⟨j,k,l,b⟩:=E1 hs;have a:=IQ cells 256;refine⟨by simpa [Ed]using j,by simpa [Ed]using k,by simp[Ed,l],by simp[Ed,AbS,a.plen],fun row d=>?_⟩;simp only[Ed,I']at d;obtain⟨r,d,rfl⟩:=d;have⟨s,m⟩:=b r d;have e:=a.flen;refine⟨by rw[Tz];exact e,fun c f=>?_,fun t h=>?_⟩
 ·simp only[Ed,asI,I']at f;obtain⟨p,n,rfl⟩:=f;have:=a.lt p n;rw[Tz];omega
 ·unfold Tx at h;obtain⟨g,o,rfl⟩:=I'.1 h;have⟨i,q⟩:=YaI o;have f:=(BK hs (a.first i g q).1).1;simp only[Ed,Z_];rw[YaD,N' (by omega),Ydp];exact m _ (Ydc _)
end
theorem E5.sub{b c:List (List Int)}{final:List Bool}(h:∀(q:Nat) row (t:Nat),b[q]?=some row→(t:Int)∈row→∃a,c[q]?=some a∧(t:Int)∈a){q:Nat}(d:E5 b final q):E5 c final q:=by
 induction d with
 | fin e=>exact .fin e
 | step f g _ i=>
   have⟨a,j,k⟩:=h _ _ _ f g;exact .step j k i
theorem Xy{cells:List (BitVec 256)}{next:List (List Int)}{final:List Bool}(hs:Bk cells next final.length=true)(q:Nat):E5 (Bi cells next final).next final q↔E5 (Ed cells next final).next final q:=by
 have n:=IQ cells 256;have A:=Tc hs;have w:=fun b h=>(BK hs (b:=b) h).1;have B:=Oi (next:=next) (sp:=fun b=>AC b b) w 256 (I_ _);constructor
 ·refine E5.sub fun q o t d k=>?_;have l:q<next.length:=by have:=(O_.1 d).1;simpa [Bi]using this
  have⟨row,a⟩:=Ac l;have⟨p,x⟩:=YaI k;have r:=(A.rows o (c_ d)).1;have s:p<(Bj next cells (fun b=>AC b b) 256).cols.length:=by
   have y:=(O_.1 x).1;have C:=FS (next:=next) (sp:=fun b=>AC b b) w 256 (I_ _);rw[r]at y;rw[C.len];exact y
  have⟨b,h,e⟩:=B.some_ p s;have L:=Er hs a h;have⟨D,E,g1,g2,m⟩:=LH hs a h;rw[d]at g1;cases g1;have:E=p:=by
   have:(Bi cells next final).cell[b]?=some p:=e;rw[this]at g2;exact(AjW.inj g2).symm
  subst this;rw[x]at m;have e2:=EU (cells:=cells) (final:=final) a h;obtain⟨j,c,M,z,F,G,_,_,_,H⟩:=(Tb hs).at (q:=q) (b:=b) (by simpa [Ed]using l) h;rw[Ls z F G]at e2;refine⟨j,z,?_⟩;rw[AjW.inj m,←e2];exact H
 ·refine E5.sub fun q I t d k=>?_;have l:q<next.length:=by have:=(O_.1 d).1;simpa [Ed]using this
  have⟨row,a⟩:=Ac l;have u:I=Tx cells (AP cells 256).1 row:=by
   simp only[Ed]at d;rw[o_,a]at d;exact(AjW.inj d).symm
  subst u;unfold Tx at k;have⟨g,J,v⟩:=I'.1 k;have⟨i,K⟩:=YaI J;have f:=(n.first i g K).1;have⟨o,p,g1,g2,m⟩:=LH hs a f;exact⟨o,g1,by rw[←v];exact c_ m⟩
section
variable(cells:List (BitVec 256))(next:List (List Int))(final:List Bool)
theorem Zf:(Fk cells next final).Ok:=by
 unfold Fk;split
 ·rename_i h;exact Tb h
 ·refine⟨by decide,by decide,rfl,by simp[Fq],fun row a=>?_⟩;simp only[Fq,Y_]at a;subst a;refine⟨by decide,fun c b=>?_,fun t d=>?_⟩
  ·simp only[Fq]at b;rw[List.eq_of_mem_replicate b];decide
  ·rw[Y_.1 d];decide
theorem Up:(stN (Cs cells next final):Nat)=(Fk cells next final).next.length:=by
 unfold Cs Fk;split
 ·simp[stN,Bi,Ed]
 ·rfl
theorem Pz(q:Int){b:Nat}(e:b<256):As (Cs cells next final) q b=FH (Fk cells next final) q b:=by
 have g:=Up cells next final
 by_cases d:q<0∨((Fk cells next final).next.length:Int)≤q
 ·unfold As FH;rw[F_ d,F_ (by rw[g];exact d)]
 ·obtain⟨n,rfl⟩:=YbS (show 0≤q by omega);unfold Cs Fk at*;split
  ·rename_i hs;rw[F_ hs]at d;have⟨row,a⟩:=Ac (l:=next) (k:=n) (by simp only[Ed,Z_]at d;omega);rw[Er hs a e,EU (cells:=cells) (final:=final) a e]
  ·rename_i hs;rw[D_ hs]at d;have f:n=0:=by
    have:Fq.next.length=1:=rfl
    omega
   subst f;rw[Ls (row:=[0]) (c:=0) (t:=0) rfl (by simp only[Fq];rw[YaO,F_ e]<;>rfl) rfl];rfl
theorem Un(q:Int):AY (Cs cells next final) q=AcO (Fk cells next final) q:=by
 unfold Cs Fk;split
 ·rfl
 ·unfold AY AcO;by_cases h:q.toNat=0
  ·rw[h];simp[Fq]
  ·have:Fq.final[q.toNat]?=none:=YaL (by show 1≤_;omega);rw[this];simp
open Classical in
theorem Um(q:Int):QD (Cs cells next final) q=QC (Fk cells next final) q:=by
 unfold Cs Fk;split
 ·rename_i hs;unfold QD QC;exact decide_eq_decide.2 (Xy hs q.toNat)
 ·unfold QD QC;have:∀q,¬E5 Fq.next Fq.final q:=fun q a=>by
   induction a with
   | @fin q hf=>
     have:q<1:=(O_.1 hf).1;have:q=0:=by omega
     subst this;simp[Fq]at hf
   | step _ _ _ b=>exact b
  exact(j_ (this _)).symm
end
end
section
attribute [local irreducible] Bj AP
end
section
def Bd(sim:Nat→Nat→Bool):Nat→List Nat×List Nat
 | 0=>([],[])
 | b+1=>match(Bd sim b).1.findIdx? fun g=>sim b g with
   | some k=>((Bd sim b).1,(Bd sim b).2++[k])
   | none=>((Bd sim b).1++[b],(Bd sim b).2++[(Bd sim b).1.length])
structure GrOk(sim:Nat→Nat→Bool)(b:Nat)(f ps:List Nat):Prop where
 plen:ps.length=b
 flen:f.length≤b
 lt:∀p∈ps,p<f.length
 first:∀(k g:Nat),f[k]?=some g→g<b∧ps[g]?=some k
 sig:∀(i p g:Nat),ps[i]?=some p→f[p]?=some g→sim i g=true∧g≤i
theorem KX{sim:Nat→Nat→Bool}(v:∀a,sim a a=true):∀b,GrOk sim b (Bd sim b).1 (Bd sim b).2
 | 0=>⟨rfl,I_ _,(fun p h=>by cases h),(fun k g h=>by cases h),(fun i p g h=>by cases h)⟩
 | b+1=>by
   have c:=KX v b;unfold Bd;split
   ·rename_i k r;rw[YcP]at r;obtain⟨j,n,_⟩:=r;refine⟨by simp[c.plen],by have:=c.flen;simp only;omega,fun p o=>?_,fun q g d=>?_,fun i p g e d=>?_⟩
    ·rcases q_.1 o with h | h
     ·exact c.lt p h
     ·rw[Y_]at h;subst h;exact j
    ·have⟨s,t⟩:=c.first q g d
     exact⟨by omega,by simp only;rw[YaG (by rw[c.plen];exact s)];exact t⟩
    ·simp only at e d;by_cases l:i<b
     ·rw[YaG (by rw[c.plen];exact l)]at e;exact c.sig i p g e d
     ·rw[YaE (by rw[c.plen];omega),c.plen]at e;have m:i-b=0:=by
       have:=(O_.1 e).1;simp only[h_]at this;omega
      rw[m,YcA]at e;cases e;rw[N' j]at d;cases d;have f:i=b:=by omega
      subst f;exact⟨n,by have:=(c.first _ _ (N' j)).1;omega⟩
   ·rename_i r;refine⟨by simp[c.plen],by have:=c.flen;simp;omega,fun p o=>?_,fun q g d=>?_,fun i p g e d=>?_⟩
    ·simp only[J_,h_];rcases q_.1 o with h | h
     ·have:=c.lt p h;omega
     ·rw[Y_]at h;subst h;omega
    ·simp only at d ⊢;by_cases u:q<(Bd sim b).1.length
     ·rw[YaG u]at d;have⟨s,t⟩:=c.first q g d
      exact⟨by omega,by rw[YaG (by rw[c.plen];exact s)];exact t⟩
     ·rw[YaE (by omega)]at d;have w:=(O_.1 d).1;simp only[h_]at w;rw[show q-(Bd sim b).1.length=0 by omega,YcA]at d;cases d;exact⟨by omega,by rw[YaE (by rw[c.plen];omega),c.plen,Ycm,YcA];congr 1;omega⟩
    ·simp only at e d;by_cases l:i<b
     ·rw[YaG (by rw[c.plen];exact l)]at e;have o:=c.lt p (c_ e);rw[YaG o]at d;exact c.sig i p g e d
     ·rw[YaE (by rw[c.plen];omega),c.plen]at e;have m:i-b=0:=by
       have:=(O_.1 e).1;simp only[h_]at this;omega
      rw[m,YcA]at e;cases e;rw[YaE (I_ _),Ycm,YcA]at d;cases d;have f:i=b:=by omega
      subst f;exact⟨v _,I_ _⟩
section
variable{sim:Nat→Nat→Bool}
theorem Hz{b k:Nat}(h:(Bd sim b).1.findIdx? (fun g=>sim b g)=some k):Bd sim (b+1)=((Bd sim b).1,(Bd sim b).2++[k]):=by
 rw[Bd,h]
theorem Hy{b:Nat}(h:(Bd sim b).1.findIdx? (fun g=>sim b g)=none):Bd sim (b+1)=((Bd sim b).1++[b],(Bd sim b).2++[(Bd sim b).1.length]):=by
 rw[Bd,h]
end
theorem PQ{next:List (List Int)}{cells:List (BitVec 256)}(l:∀b,b<256→Ba cells b<cells.length):∀b,b≤256→∀(k:Nat) (x:BitVec 256),(Bj next cells (fun b=>AC b b) b).sets[k]?=some x→∀i,i<256→x.getLsbD i=Et (Bj next cells (fun b=>AC b b) b).cell k i
 | 0,_=>fun k x h=>by simp[Bj]at h
 | b+1,hb=>fun k x h i m=>by
   have t:=PQ (next:=next) l b (by omega);have d:=FS (next:=next) (sp:=fun b=>AC b b) l b (by omega);generalize v:Bj next cells (fun b=>AC b b) b=st at*
   rw[Bj,v]at h ⊢;unfold Oj at h ⊢;simp only at h ⊢;generalize e:Hg next st.cols st.sets (Ba cells b)=r at*
   have g:=Rv (next:=next) (f:=Ba cells b) d.len d.le d.cols (l b (by omega));rw[e]at g;have n:r.2.2<r.2.1.length:=by omega
   have hold:∀(k:Nat) (y:BitVec 256),r.2.1[k]?=some y→y.getLsbD i=Et st.cell k i:=by
    intro k y a;unfold Hg at e;cases u:Lc next st.cols (Ba cells b)with
    | some j=>
      rw[u]at e;subst e;exact t k y a i m
    | none=>
      rw[u]at e;subst e;simp only at a;by_cases c:k<st.sets.length
      ·rw[YaG c]at a;exact t k y a i m
      ·rw[YaE (by omega)]at a;have w:=(O_.1 a).1;simp only[h_]at w;rw[show k-st.sets.length=0 by omega,YcA]at a;cases a;have:Et st.cell k i=false:=by
        unfold Et;cases o:st.cell[i]? with
        | none=>rfl
        | some p=>
          have:=d.places p (c_ o);have:=d.len;simp;omega
       rw[this];simp
   have q:∀k,Et (st.cell++[r.2.2]) k i=((decide (i=b)&&decide (k=r.2.2))|| Et st.cell k i):=by
    intro k;unfold Et;have s:=d.cell;rcases Ydo i b with h | h | h
    ·rw[YaG (by omega),V_];simp
    ·subst h;rw[YaE (by omega),s,Ycm,YcA,YaL (by omega)];by_cases c:k=r.2.2<;>simp[c];exact fun h=>c h.symm
    ·rw[YaL (by simp;omega),YaL (by omega),V_];simp
   rw[q];by_cases c:k=r.2.2
   ·subst c;rw[YaA n]at h;cases h;rw[Yaq,YaD,N' n,Ydp,hold _ _ (N' n),CL b b i m];have:(decide (b≤i)&&decide (i≤b))=decide (i=b):=by
     by_cases h:i=b
     ·subst h;simp
     ·rw[j_ h];rcases Nat.lt_or_ge i b with z | z
      ·rw[V_];rfl
      ·rw[j_ (show¬i≤b by omega)];simp
    rw[this];simp[Bool.or_comm]
   ·rw[YaC (Ne.symm c)]at h;rw[j_ c,hold k x h];simp
def Hi(next:List (List Int))(cells:List (BitVec 256))(b g:Nat):Bool:=next.all fun row=>row.getD (Ba cells b) 0==row.getD (Ba cells g) 0
theorem WX{cells:List (BitVec 256)}{next:List (List Int)}{i:Nat}(hs:Bk cells next i=true){b g:Nat}(j:b<256)(k:g<256):EO next (Ba cells g) (Ba cells b)=Hi next cells b g:=by
 obtain⟨_,_,_,a⟩:=E1 hs;have l:=(BK hs j).1;have m:=(BK hs k).1;have d:∀row∈next,(row[Ba cells g]?==row[Ba cells b]?)=(row.getD (Ba cells b) 0==row.getD (Ba cells g) 0):=by
  intro row c;have n:=(a row c).1;rw[YaD,YaD,N' (by omega),N' (by omega)];simp only[Ydp];rw[YcN];simp only[beq_iff_eq,AjW.injEq];exact eq_comm
 unfold EO Hi;have e:(next.all fun row=>row[Ba cells g]?==row[Ba cells b]?)=next.all fun row=>row.getD (Ba cells b) 0==row.getD (Ba cells g) 0:=by
  rw[YcN,Ybl,Ybl];constructor
  ·intro h row c;rw[←d row c];exact h row c
  ·intro h row c;rw[d row c];exact h row c
 rw[e];by_cases f:Ba cells g=Ba cells b
 ·rw[f];simp
 ·have:(Ba cells g==Ba cells b)=false:=by simpa using f
  rw[this];rfl
theorem LX(next:List (List Int))(cells:List (BitVec 256))(a:Nat):Hi next cells a a=true:=by simp[Hi]
theorem Ml{α β:Type}(f:α→β)(p:β→Bool):∀l:List α,(l.map f).findIdx? p=l.findIdx? fun a=>p (f a)
 | []=>rfl
 | a::l=>by
   rw[YaV,YcQ,YcQ,Ml f p l]
theorem Fe{α:Type}{p q:α→Bool}:∀{l:List α},(∀a∈l,p a=q a)→l.findIdx? p=l.findIdx? q
 | [],_=>rfl
 | a::l,h=>by
   rw[YcQ,YcQ,h a Yca,Fe fun x b=>h x (YbY _ b)]
theorem UF{cells:List (BitVec 256)}{next:List (List Int)}{f:Nat}(hs:Bk cells next f=true){sp:Nat→BitVec 256}:∀b,b≤256→(Bj next cells sp b).cols=(Bd (Hi next cells) b).1.map (Ba cells)∧(Bj next cells sp b).cell=(Bd (Hi next cells) b).2
 | 0,_=>by simp[Bj,Bd]
 | b+1,hb=>by
   have⟨c,e⟩:=UF hs (sp:=sp) b (by omega);have d:=KX (LX next cells) b;have h:Lc next (Bj next cells sp b).cols (Ba cells b)=(Bd (Hi next cells) b).1.findIdx? fun g=>Hi next cells b g:=by
    unfold Lc;rw[c,Ml];exact Fe fun g i=>by
     have⟨k,j⟩:=YaI i;exact WX hs (by omega) (by have:=(d.first k g j).1;omega)
   unfold Bj Oj Hg;rw[h];cases a:(Bd (Hi next cells) b).1.findIdx? fun g=>Hi next cells b g with
   | some k=>
     rw[Hz a];simp only;exact⟨c,by rw[e]⟩
   | none=>
     rw[Hy a];simp only;exact⟨by rw[c,YcB];rfl,by rw[e,c,Z_]⟩
attribute [local irreducible] Bj Bd
theorem Qn{cells:List (BitVec 256)}{next:List (List Int)}{final:List Bool}(hs:Bk cells next final.length=true):(Bi cells next final).sets.length=(Bd (Hi next cells) 256).1.length∧
  ∀(k:Nat) (x:BitVec 256),(Bi cells next final).sets[k]?=some x→∀i,i<256→x.getLsbD i=Et (Bd (Hi next cells) 256).2 k i:=by
 have a:=fun b c=>(BK hs (b:=b) c).1;have⟨d,e⟩:=UF hs (sp:=fun b=>AC b b) 256 (I_ _);have f:=FS (next:=next) (sp:=fun b=>AC b b) a 256 (I_ _);refine⟨?_,fun k x g i h=>?_⟩
 ·simp only[Bi];rw[←f.len,d,Z_]
 ·rw[←e];exact PQ (next:=next) a 256 (I_ _) k x g i h
end
section
attribute [local irreducible] Bj Bd
structure CM(o:Option AM)(ls:List Nat):Prop where
 len:ls.length=(Ag o).length
 up:ls.Pairwise (·<·)
 least:∀(k:Nat) (c:BitVec 256),(Ag o)[k]?=some c→∃l,ls[k]?=some l∧l<256∧(AE c 0).1=l∧c.getLsbD l=true
 keeps:∀(k:Nat) (c:BitVec 256) (l b:Nat),(Ag o)[k]?=some c→ls[k]?=some l→b<256→c.getLsbD b=true→l≤b∧∀q:Int,0≤q→q<stN o→As o q b=As o q l
 cols:∀A,o=some A→∀k,k<A.sets.length→∃b,b<256∧A.cell[b]?=some k
 part:∀b,b<256→∃(k:Nat) (c:BitVec 256),(Ag o)[k]?=some c∧c.getLsbD b=true∧∀(k':Nat) (c':BitVec 256),(Ag o)[k']?=some c'→c'.getLsbD b=true→k'=k
theorem Wj{sim:Nat→Nat→Bool}(d:∀a,sim a a=true):∀b,(Bd sim b).1.Pairwise (·<·)
 | 0=>by rw[Bd];exact List.Pairwise.nil
 | b+1=>by
   have e:=Wj d b;cases f:(Bd sim b).1.findIdx? (fun g=>sim b g)with
   | some k=>rw[Hz f];exact e
   | none=>
     rw[Hy f];refine YbX.2 ⟨e,YcT _ _,fun a i c h=>?_⟩;rw[Y_]at h;subst h;have⟨k,j⟩:=YaI i;exact((KX d c).first k a j).1
theorem Tj{c:BitVec 256}{l:Nat}(a:l<256)(d:c.getLsbD l=true)(e:∀b,b<l→c.getLsbD b=false):(AE c 0).1=l:=by
 have f:((AjN 256).find? fun b=>decide (0≤b)&&c.getLsbD b)=some l:=by
  rw[List.find?_range_eq_some];exact⟨by simp[d],by simpa using a,fun j g=>by simp[e j g]⟩
 unfold AE;rw[f]
theorem S1(cells:List (BitVec 256))(next:List (List Int))(final:List Bool):∃D,CM (Cs cells next final) D:=by
 unfold Cs;cases hs:Bk cells next final.length with
 | false=>
   refine⟨[0],rfl,YcT _ _,fun k c d=>?_,fun k c l b d v a j=>?_,fun A a=>?_,fun b a=>?_⟩
   ·have m:k=0:=by have:=(O_.1 d).1;simpa [Ag]using this
    subst m;have:c=Ak8 256:=by simpa [Ag]using d.symm
    subst this;exact⟨0,rfl,by decide,Tj (by decide) (by decide) (fun b a=>by omega),by decide⟩
   ·have m:k=0:=by have:=(O_.1 d).1;simpa [Ag]using this
    subst m;have:l=0:=by simpa using v.symm
    subst this;refine⟨t_ _,fun q K o=>?_⟩;simp only[Yaw,if_false]at o ⊢;simp only[stN]at o;obtain rfl:q=0:=by omega
    rfl
   ·cases a
   ·refine⟨0,Ak8 256,rfl,?_,fun x B h _=>?_⟩
    ·rw[Yar];simp[a]
    ·have:=(O_.1 h).1;simpa [Ag]using this
 | true=>
   simp only[if_true];have⟨o,w⟩:=Qn hs;have r:=KX (LX next cells) 256;refine⟨(Bd (Hi next cells) 256).1,o.symm,Wj (LX next cells) 256,fun k c d=>?_,fun k c l b d v a j=>?_,fun A E k m=>?_,fun b a=>?_⟩
   ·have m:k<(Bd (Hi next cells) 256).1.length:=by rw[←o];exact(O_.1 d).1
    have⟨g,e⟩:=Ac m;have⟨g1,g2⟩:=r.first k g e
    have f:=w k c d;refine⟨g,e,g1,Tj g1 (by rw[f g g1];simp[Et,g2]) (fun b a=>?_),by rw[f g g1];simp[Et,g2]⟩;rw[f b (by omega)];unfold Et;rw[beq_eq_false_iff_ne];intro s;have:=(r.sig b k g s e).2;omega
   ·rw[w k c d b a]at j;have s:(Bd (Hi next cells) 256).2[b]?=some k:=by simpa [Et]using j
    have⟨C,F⟩:=r.sig b k l s v;refine⟨F,fun q G H=>?_⟩;obtain⟨n,rfl⟩:=YbS G;have t:=(r.first k l v).1;have I:n<next.length:=by simp only[stN,Bi,Z_]at H;omega
    have⟨row,i⟩:=Ac I;rw[Er hs i a,Er hs i t];unfold Hi at C;have:=Ybl.1 C row (c_ i);simpa using this
   ·cases E;have⟨g,e⟩:=Ac (l:=(Bd (Hi next cells) 256).1) (k:=k) (by rw[←o];exact m);have⟨g1,g2⟩:=r.first k g e
    refine⟨g,g1,?_⟩;have J:=(UF hs (sp:=fun b=>AC b b) 256 (I_ _)).2;simp only[Bi];rw[J];exact g2
   ·have⟨p,s⟩:=Ac (l:=(Bd (Hi next cells) 256).2) (k:=b) (by rw[r.plen];exact a);have y:=r.lt p (c_ s);have⟨c,d⟩:=Ac (l:=(Bi cells next final).sets) (k:=p) (by rw[o];exact y);refine⟨p,c,d,by rw[w p c d b a];simp[Et,s],fun x B z u=>?_⟩;rw[w x B z b a]at u;have:(Bd (Hi next cells) 256).2[b]?=some x:=by simpa [Et]using u
    rw[s]at this;exact(AjW.inj this).symm
end
end Go.Proofs.YtfbghcpdinlmcaaGreatDoor
namespace Go.VC
section
variable{α:Type}{T:Ty α}{e:x_}{a:Option Addr}{n cap:Nat}{xs:List α}{B:Nat→Prop}{H0 H:Aa}{ps:List Pc}
theorem AeY{P:w_}{t ty by_:Nat}{z:v_}{r:Option Addr}{s d:Nat}{e2:x_}{ys:List α}{K:v_→Aa→Prop}(st:B_ B H0 H ps)(i j:Nat)(x:SlT P t e T.size by_ z)(y:ps[i]?=some (pS T e a n cap xs))(u:ps[j]?=some (pS T e2 r s d ys))
  (A:0<ys.length) (C:T.Ones) (m:xs.length+ys.length≤34359738368) (hby:by_≤1024)
  (k:∀a' f H',B_ B H0 H' (ps.set i (pS T e a' (xs.length+ys.length) f (xs++ys)))→C_ (fun k=>k<H.size∧¬a_ (.slice a n cap) k) H H'→K (.slice a' (xs.length+ys.length) f) H'):
  BH P (Builtin.append_ #[t,t] ty [.slice a n cap,.slice r s d].toArray) H K:=by
 obtain⟨D,⟨I,h⟩,w⟩:=(st.at_ j u).1;have p:=st.len j u;rcases h with⟨h,E⟩ | ⟨b,c,l,h,E,F,J,L,M,G⟩
 ·omega
 ·injection h with g1 g2 g3
  subst g1;subst g3;refine QF st i x y (q:=b) (o:=0) (ds:=D) (F.cells fun j v g=>?_) w p (C.reps w) m hby k;rw[←G]at g;rw[K_];rw[YaK]at g;split at g
  ·exact g
  ·cases g
end
end Go.VC
namespace Go.Proofs.YtfbghcpdinlmcaaGreatDoor
open Go.VC
section
attribute [local irreducible] Bj Bd AP
theorem P3{o:Option AM}{a:List Nat}(h:CM o a):0<(Ag o).length:=by
 obtain⟨k,c,b,-⟩:=h.part 0 (by decide);exact Nat.lt_of_le_of_lt (t_ k) (O_.1 b).1
theorem Ht{S:Nat→Prop}{H:Aa}{v:v_}{o:Option AM}(h:AZ S H v o):(Ag o).length≤256:=by
 cases o with
 | none=>decide
 | some A=>obtain⟨_,_,_,a,_⟩:=h;exact a.sl
end
structure Nd where
 s:Int
 x:Int
 y:Int
deriving DecidableEq
def Nd.Ok(n:Nd):Prop:=J' .i64 n.s∧J' .i64 n.x∧J' .i64 n.y
def ndV(n:Nd):v_:=.agg #[A_ n.s,A_ n.x,A_ n.y]
def ndL(n:Nd):List v_:=[A_ n.s,A_ n.x,A_ n.y]
def tNd:Ty Nd where
 size:=3
 rep _ _ cs n:=cs=ndL n
 len h:=by rw[h];rfl
 frame h _:=h
 mono h _:=h
structure Gr where
 next:Nd→Nat→List Nd
 ends:Nd→Bool
def Gg(g:Gr):List Nat→Nd→Prop
 | [],n=>g.ends n=true
 | b::w,n=>∃t,t∈g.next n b∧Gg g w t
def Lz(g:Gr)(P:Nd→Prop)(w:List Nat):Prop:=∃n,P n∧Gg g w n
def Qv(g:Gr)(P:Nd→Prop)(b:Nat):Nd→Prop:=fun t=>∃n,P n∧t∈g.next n b
def Do:List Nat→List Nat→Prop
 | a::s,b::t=>a<b∨(a=b∧Do s t)
 | _,_=>True
theorem PI:∀{s t:List Nat},s.length=t.length→Do s t→Do t s→s=t
 | [],[],_,_,_=>rfl
 | [],_::_,h,_,_=>by simp at h
 | _::_,[],h,_,_=>by simp at h
 | a::s,b::t,h,c,d=>by
   simp only[b_,Ydn]at h;rcases c with c | ⟨c,e⟩<;>rcases d with d | ⟨d,f⟩
   ·omega
   ·omega
   ·omega
   ·rw[c,PI h e f]
def DT(w:List Nat):Prop:=∀b∈w,b<256
def Q6(g:Gr)(P:Nd→Prop)(k:Nat)(w:List Nat):Prop:=w.length=k∧DT w∧Lz g P w∧∀u,u.length=k→DT u→Lz g P u→Do w u
def HN(g:Gr)(P:Nd→Prop)(w:List Nat):Prop:=Q6 g P w.length w∧∀u,DT u→Lz g P u→w.length≤u.length
theorem HN.uniq{g:Gr}{P:Nd→Prop}{w v:List Nat}(h:HN g P w)(k:HN g P v):w=v:=by
 obtain⟨⟨m,a,b,f⟩,i⟩:=h;obtain⟨⟨n,c,d,j⟩,l⟩:=k;have e:w.length=v.length:=Nat.le_antisymm (i v c d) (l w a b);exact PI e (f v e.symm c d) (j w e a b)
theorem UC{g:Gr}{by_:List Nat}(hby:∀c,c<256→∃r∈by_,r≤c∧∀n,g.next n r=g.next n c):∀{w:List Nat} {n:Nd},DT w→Gg g w n→∃v,v.length=w.length∧(∀b∈v,b∈by_)∧Gg g v n
 | [],n,_,h=>⟨[],rfl,(fun b e=>by cases e),h⟩
 | c::w,n,e,⟨t,ht,hw⟩=>by
   have⟨v,f,i,j⟩:=UC hby (fun d a=>e d (YbY _ a)) hw;obtain⟨r,k,-,hs⟩:=hby c (e c Yca);exact⟨r::v,by simp[f],fun d a=>by
    rcases YaP.1 a with rfl | a
    ·exact k
    ·exact i d a,t,by rw[hs];exact ht,j⟩
inductive Dt(g:Gr)(by_:List Nat)(a:Nd):Nd→Prop
 | refl:Dt g by_ a a
 | step {n t:Nd} {b:Nat} (h:Dt g by_ a n) (hb:b∈by_) (ht:t∈g.next n b):Dt g by_ a t
structure DistOk(g:Gr)(by_:List Nat)(a:Nd)(left:Nd→Option Nat):Prop where
 ends:∀n,Dt g by_ a n→g.ends n=true→left n=some 0
 pred:∀n k,left n=some k→∀p b,Dt g by_ a p→b∈by_→n∈g.next p b→∃j,j≤k+1∧left p=some j
 word:∀n k,left n=some k→Dt g by_ a n∧∃w,w.length=k∧(∀b∈w,b∈by_)∧Gg g w n
section
variable{g:Gr}{by_:List Nat}{a:Nd}{left:Nd→Option Nat}
variable(hby:∀c,c<256→∃r∈by_,r≤c∧∀n,g.next n r=g.next n c)
include hby
end
def V3(g:Gr)(by_:List Nat)(a n:Nd)(left:Nd→Option Nat)(k:Nat):Prop:=∀p b,Dt g by_ a p→b∈by_→n∈g.next p b→∃j,j≤k+1∧left p=some j
structure BInv(g:Gr)(by_:List Nat)(a:Nd)(left:Nd→Option Nat)(todo:List Nd)(k:Nat):Prop where
 ends:∀n,Dt g by_ a n→g.ends n=true→left n=some 0
 word:∀n j,left n=some j→Dt g by_ a n∧∃w,w.length=j∧(∀b∈w,b∈by_)∧Gg g w n
 q:∀n∈todo,∃j,left n=some j∧k≤j
 up:∀n j,left n=some j→j≤k+1
 sorted:todo.Pairwise fun n p=>∀i j,left n=some i→left p=some j→i≤j
 done:∀n j,left n=some j→n∉todo→V3 g by_ a n left j
structure BMid(g:Gr)(by_:List Nat)(a:Nd)(left:Nd→Option Nat)(todo:List Nd)(n:Nd)(k:Nat)(d:Nd→Prop):Prop where
 ends:∀n,Dt g by_ a n→g.ends n=true→left n=some 0
 word:∀n j,left n=some j→Dt g by_ a n∧∃w,w.length=j∧(∀b∈w,b∈by_)∧Gg g w n
 here:left n=some k
 q:∀n∈todo,∃j,left n=some j∧k≤j
 up:∀n j,left n=some j→j≤k+1
 sorted:todo.Pairwise fun n p=>∀i j,left n=some i→left p=some j→i≤j
 done:∀m j,left m=some j→m∉todo→m≠n→V3 g by_ a m left j
 now:∀p,d p→∃j,j≤k+1∧left p=some j
section
variable{g:Gr}{by_:List Nat}{a n p:Nd}{left:Nd→Option Nat}{todo:List Nd}{k:Nat}{d:Nd→Prop}
end
structure RInv(g:Gr)(by_:List Nat)(a:Nd)(order:List Nd)(bk:Nd→Nd→Prop)(d:Nd→Nat→Nd→Prop):Prop where
 first:order[0]?=some a
 nodup:order.Nodup
 reach:∀n∈order,Dt g by_ a n
 back:∀t p,bk t p→Dt g by_ a p∧∃b,b∈by_∧t∈g.next p b
 done:∀n b t,d n b t→t∈order∧bk t n
section
variable{g:Gr}{by_:List Nat}{a n t:Nd}{b:Nat}{order:List Nd}{bk bk':Nd→Nd→Prop}{d:Nd→Nat→Nd→Prop}
end
theorem Gc:∀u:List Nat,Do u u
 | []=>by unfold Do;trivial
 | a::u=>by unfold Do;exact .inr ⟨rfl,Gc u⟩
theorem Oh:∀{u v w:List Nat},u.length=v.length→v.length=w.length→Do u v→Do v w→Do u w
 | [],_,_,_,_,_,_=>by unfold Do;trivial
 | a::u,[],_,h,_,_,_=>by simp at h
 | a::u,b::v,[],_,h,_,_=>by simp at h
 | a::u,b::v,c::w,h1,h2,d,e=>by
   simp only[b_,Ydn]at h1 h2;unfold Do at d e ⊢;rcases d with d | ⟨rfl,d⟩<;>rcases e with e | ⟨rfl,e⟩
   ·exact .inl (Nat.lt_trans d e)
   ·exact .inl d
   ·exact .inl e
   ·exact .inr ⟨rfl,Oh h1 h2 d e⟩
theorem PK:∀{u v:List Nat} (b:Nat),u.length=v.length→Do u v→Do (u++[b]) (v++[b])
 | [],[],b,_,_=>Gc _
 | [],_::_,_,h,_=>by simp at h
 | _::_,[],_,h,_=>by simp at h
 | a::u,c::v,b,h,d=>by
   unfold Do at d;show Do (a::(u++[b])) (c::(v++[b]));unfold Do;rcases d with d | ⟨rfl,d⟩
   ·exact .inl d
   ·exact .inr ⟨rfl,PK b (by simpa using h) d⟩
def To(g:Gr):List Nat→Nd→Nd→Prop
 | [],n,t=>n=t
 | b::w,n,t=>∃m,m∈g.next n b∧To g w m t
theorem Nv{g:Gr}{b:Nat}{t:Nd}:∀{w:List Nat} {n:Nd},To g (w++[b]) n t↔∃m,To g w n m∧t∈g.next m b
 | [],n=>by
   constructor
   ·rintro⟨m,a,h⟩;obtain rfl:m=t:=h;exact⟨n,rfl,a⟩
   ·rintro⟨m,h,f⟩;obtain rfl:n=m:=h;exact⟨t,f,rfl⟩
 | c::w,n=>by
   constructor
   ·rintro⟨m,a,h⟩;have⟨p,d,e⟩:=Nv.1 h;exact⟨p,⟨m,a,d⟩,e⟩
   ·rintro⟨p,⟨m,a,d⟩,e⟩;exact⟨m,a,Nv.2 ⟨p,d,e⟩⟩
theorem Jg{g:Gr}:∀{w:List Nat} {n:Nd},Gg g w n↔∃t,To g w n t∧g.ends t=true
 | [],n=>⟨fun h=>⟨n,rfl,h⟩,fun⟨t,h,k⟩=>by obtain rfl:n=t:=h;exact k⟩
 | b::w,n=>by
   constructor
   ·rintro⟨m,a,h⟩;have⟨t,c,d⟩:=Jg.1 h;exact⟨t,⟨m,a,c⟩,d⟩
   ·rintro⟨t,⟨m,a,c⟩,d⟩;exact⟨m,a,Jg.2 ⟨t,c,d⟩⟩
theorem TO{g:Gr}{by_:List Nat}{a t:Nd}:∀{w:List Nat} {n:Nd},Dt g by_ a n→(∀b∈w,b∈by_)→To g w n t→Dt g by_ a t
 | [],n,hr,_,h=>by obtain rfl:n=t:=h;exact hr
 | b::w,n,hr,hb,⟨m,hm,h⟩=>TO (hr.step (hb b Yca) hm) (fun c d=>hb c (YbY _ d)) h
theorem K8{g:Gr}{by_:List Nat}(hby:∀c,c<256→∃r∈by_,r≤c∧∀n,g.next n r=g.next n c):∀{w:List Nat} {n:Nd},DT w→Gg g w n→∃v,v.length=w.length∧(∀b∈v,b∈by_)∧Gg g v n∧Do v w
 | [],n,_,h=>⟨[],rfl,(fun b e=>by cases e),h,Gc _⟩
 | c::w,n,e,⟨t,ht,hw⟩=>by
   have⟨v,i,j,k,l⟩:=K8 hby (fun d a=>e d (YbY _ a)) hw;have⟨r,m,f,hs⟩:=hby c (e c Yca);refine⟨r::v,by simp[i],fun d a=>?_,⟨t,by rw[hs];exact ht,k⟩,?_⟩
   ·rcases YaP.1 a with rfl | a
    ·exact m
    ·exact j d a
   ·unfold Do;rcases Nat.lt_or_eq_of_le f with h | h
    ·exact .inl h
    ·exact .inr ⟨h,l⟩
abbrev NW:=Nd×List Nat
structure RowOk(g:Gr)(by_:List Nat)(a:Nd)(L:Nat)(F:List NW):Prop where
 nd:(F.map (·.1)).Nodup
 ok:∀x∈F,x.2.length=L∧(∀b∈x.2,b∈by_)∧To g x.2 a x.1
 all:∀w t,w.length=L→(∀b∈w,b∈by_)→To g w a t→∃x∈F,x.1=t∧Do x.2 w
structure RowMid(g:Gr)(by_:List Nat)(a:Nd)(L:Nat)(F:List NW)(d:Nd→List Nat→Prop):Prop where
 nd:(F.map (·.1)).Nodup
 ok:∀x∈F,x.2.length=L∧(∀b∈x.2,b∈by_)∧To g x.2 a x.1
 all:∀t w,d t w→w.length=L→∃x∈F,x.1=t∧Do x.2 w
section
variable{g:Gr}{by_:List Nat}{a n t:Nd}{L:Nat}{F F':List NW}{d d':Nd→List Nat→Prop}{w:List Nat}{r:Bool}
variable(hby:∀c,c<256→∃r∈by_,r≤c∧∀n,g.next n r=g.next n c)
include hby
end
def XS(o:Option AM)(w:List Nat)(q:Int):Int:=w.foldl (fun q b=>As o q b) q
theorem Ql(o:Option AM)(c:Nat)(w:List Nat)(q:Int):XS o (c::w) q=XS o w (As o q c):=rfl
def Y4(o:Option AM)(w:List Nat):Bool:=AY o (XS o w 0)
def Az:Nd:=⟨0,0,0⟩
section
variable{a b:Option AM}
end
section
variable{a:Option AM}
end
end Go.Proofs.YtfbghcpdinlmcaaGreatDoor
namespace Go.VC
section
variable{α β:Type}{Ok:α→Prop}{enc:α→v_}{T:Ty β}{e:x_}{b:Nat}{m:α→Option v_}{B:Nat→Prop}{H0 H H':Aa}{ps:List Pc}
end
end Go.VC
namespace Go.Proofs.YtfbghcpdinlmcaaGreatDoor
open Go.VC
structure Q8(g:Gr)(by_:List Nat)(M C:Nat):Prop where
 byl:∀b∈by_,b<256
 nb:by_.length≤256
 ok:∀n,Dt g by_ Az n→n.Ok
 card:∀l:List Nd,l.Nodup→(∀n∈l,Dt g by_ Az n)→l.length≤M
 occ:∀n b t,Dt g by_ Az n→b∈by_→(g.next n b).count t≤C
 c0:1≤C
 big:C*(256*M)≤5864062014805
structure GraphV(S:Nat→Prop)(H:Aa)(v:v_)(g:Gr)(by_:List Nat):Prop where
 out:∃(pg:Nat) (ba:Option Addr) (bc:Nat) (f e:FuncId) (fs cs es ds:List v_),v= U_ pg∧S pg∧
  Q_ H pg 206 [.slice ba by_.length bc,.func (.func f) fs.toArray cs.toArray,.func (.func e) es.toArray ds.toArray]∧g_ (GB .u8) S H ba bc (by_.map fun(b:Nat)=>(b:Int))∧
  (∀H',C_ S H H'→∀n b,Dt g by_ Az n→b∈by_→Ak prog f (fs++[ndV n,.int .u8 (b:Int)]++cs).toArray H' fun v H''=>C_ (H_ H') H' H''∧l_ tNd none_ H'' H'.size 208 v (g.next n b))∧
  (∀H',C_ S H H'→∀n,Dt g by_ Az n→BM prog e (es++[ndV n]++ds).toArray H' (.bool (g.ends n)))
end Go.Proofs.YtfbghcpdinlmcaaGreatDoor
namespace Go.VC
end Go.VC
namespace Go.Proofs.YtfbghcpdinlmcaaGreatDoor
open Go.VC
structure Pre(g:Gr)(a:Nd)(lf:Nd→Option Nat)(L r:Nat)(w:List Nat)(P:Nd→Prop):Prop where
 len:w.length+r=L
 fst:∀v,Q6 g P r v→Q6 g (·=a) L (w++v)
 all:∀n,P n→lf n=some r
 ne:∃n,P n
section
variable{g:Gr}{by_:List Nat}{a:Nd}{lf:Nd→Option Nat}{L k b:Nat}{w:List Nat}{P Q:Nd→Prop}
variable(hby:∀c,c<256→∃r∈by_,r≤c∧∀n,g.next n r=g.next n c)
include hby
end
def HM(g:Gr)(w:List Nat)(ok:Bool):Prop:=(ok=true→HN g (·=Az) w)∧(ok=false→w=[]∧∀u,DT u→¬Lz g (·=Az) u)
structure Seen(g:Gr)(by_:List Nat)(lf:Nd→Option Nat)(seen:List Nd):Prop where
 nd:seen.Nodup
 mem:∀n,(lf n).isSome=true↔n∈seen
 le:∀n j,lf n=some j→j≤seen.length
 rch:∀n∈seen,Dt g by_ Az n
section
attribute [local irreducible] Bj Bd AP
theorem ZR:∀(n:Nat) (l:List Nat),l.Nodup→(∀x∈l,x<n)→l.length≤n
 | 0,l,_,h=>by
   cases l with
   | nil=>exact I_ _
   | cons x l=>exact absurd (h x Yca) (Nat.not_lt_zero _)
 | n+1,l,hd,h=>by
   have i:=ZR n (l.filter fun x=>decide (x<n)) (hd.filter _) (fun x b=>by simpa using(Ybn.1 b).2);have j:(l.filter fun x=> !decide (x<n)).length≤1:=by
    have a:(l.filter fun x=> !decide (x<n)).Nodup:=hd.filter _;have c:∀x∈l.filter (fun x=> !decide (x<n)),x=n:=fun x b=>by
     have⟨d,e⟩:=Ybn.1 b;have:=h x d;simp at e;omega
    generalize l.filter (fun x=> !decide (x<n))=m at a c
    match m,a,c with
    | [],_,_=>simp
    | [_],_,_=>simp
    | x::y::r,a,c=>
      have f:=c x (by simp);have e2:=c y (by simp);rw[f,e2]at a;simp at a
   have g:∀m:List Nat,(m.filter fun x=>decide (x<n)).length+(m.filter fun x=> !decide (x<n)).length=m.length:=fun m=>by
    induction m with
    | nil=>rfl
    | cons x m k=>by_cases b:x<n<;>simp[YcU,b]<;>omega
   have:=g l;omega
theorem Ae1{α:Type}{f:α→Nat}{l:List α}(a:l.Nodup)(b:∀x∈l,∀y∈l,f x=f y→x=y):(l.map f).Nodup:=by
 unfold List.Nodup;rw[List.pairwise_map];exact(List.Pairwise.and_mem.1 a).imp fun{x y} ⟨c,d,g⟩ e=>g (b x c y d e)
def inA(o:Option AM)(q:Int):Prop:=0≤q∧q<stN o
structure DS(o:Option AM):Prop where
 n1:1≤stN o
 n2:stN o≤65536
 step:∀q b,inA o q→b<256→inA o (As o q b)
theorem DS.zero{o:Option AM}(h:DS o):inA o 0:=⟨Int.le_refl _,by have:=h.n1;omega⟩
section
variable{S:Nat→Prop}{H:Aa}{v:v_}{o:Option AM}
theorem Yc(h:AZ S H v o){q b:Nat}(c:q<stN o)(e:b<256):0≤As o (q:Int) b∧As o (q:Int) b<stN o:=by
 cases o with
 | none=>
   have:q=0:=by simp only[stN]at c;omega
   subst this;decide+revert
 | some A=>
   obtain⟨pb,rfl,d,a,_⟩:=h;exact TJ a (by omega) (by simp only[stN]at c;omega) e
theorem AZ.steps(h:AZ S H v o):DS o:=
 ⟨(AaU h).1,(AaU h).2,fun q b a c=>by
   obtain⟨n,rfl⟩:=YbS a.1;exact Yc h (by have:=a.2;omega) c⟩
end
theorem AaV{o:Option AM}{g:List Nat}(h:CM o g){r c:Nat}(i:r<256)(b:c<256)(hs:∀s∈Ag o,s.getLsbD r=s.getLsbD c)(q:Int):As o q r=As o q c:=by
 by_cases d:q<0∨(stN o:Int)≤q
 ·unfold As;rw[F_ d,F_ d]
 ·obtain⟨k,s,a,e,-⟩:=h.part c b;obtain⟨l,f,-⟩:=h.least k s a;have j:=(h.keeps k s l c a f b e).2 q (by omega) (by omega);have e2:=(h.keeps k s l r a f i (by rw[hs s (c_ a)];exact e)).2 q (by omega) (by omega);rw[j,e2]
theorem AcX{g:Gr}{by_:List Nat}{M C:Nat}(R:Nd→Prop)(f:Nd→Nat)(h0:R Az)(c:∀n b t,R n→b<256→t∈g.next n b→R t)(j:∀n,R n→n.Ok)(u:∀n,R n→f n<M)(v:∀n m,R n→R m→f n=f m→n=m)
  (d:∀n b,(g.next n b).length≤C) (c0:1≤C) (k:C*(256*M)≤5864062014805) (s:∀b∈by_,b<256) (o:by_.length≤256):Q8 g by_ M C:=by
 have i:∀n,Dt g by_ Az n→R n:=fun n h=>by
  induction h with
  | refl=>exact h0
  | step D p w z=>exact c _ _ _ z (s _ p) w
 refine⟨s,o,fun n q=>j n (i n q),fun l A a=>?_,fun n b t _ _=>YbA List.count_le_length (d n b),c0,k⟩;rw[←Z_ (f:=f)];refine ZR M _ (Ae1 A fun x r y B e=>v x y (i x (a x r)) (i y (a y B)) e) fun x r=>?_;obtain⟨n,q,rfl⟩:=I'.1 r;exact u n (i n (a n q))
structure InR(K:Nat)(n:Nd):Prop where
 s0:0≤n.s
 s1:n.s≤K
 x0:0≤n.x
 x1:n.x<65536
 y0:0≤n.y
 y1:n.y<65536
 z:n.s=0→n.y=0
section
variable{a b:Option AM}
def Yu(a b:Option AM)(n:Nd):Prop:=n.s=0∧inA a n.x∧inA b n.y
end
theorem XO{os:List (Option AM)}(i:∀o∈os,∃e,CM o e){sets:List (BitVec 256)}(hs:∀o∈os,∀s∈Ag o,s∈sets):∀c,c<256→∃r∈CG sets,r≤c∧∀o∈os,∀q,As o q r=As o q c:=fun c a=>by
 have⟨r,f,d,b⟩:=AaF sets a;refine⟨r,f,d,fun o g q=>?_⟩;have⟨e,h⟩:=i o g;exact AaV h (WA sets r f) a (fun s h=>b s (hs o g s h)) q
theorem QI(w:List Nat):(bA w).size=w.length:=by unfold bA;simp[ByteArray.size]
theorem ML(w:List Nat):(bA w).data.toList=w.map UInt8.ofNat:=by unfold bA;simp
theorem L1{o:Option AM}{w:List Nat}(h:DT w):C4 o (bA w)=Y4 o w:=by
 unfold C4 Y4 Ae8 XS;rw[QI,ML,Yc2 (by simp),List.foldl_map]
 congr 1
 have:∀(w:List Nat) (q:Int),DT w→w.foldl (fun q b=>As o q (UInt8.ofNat b).toNat) q=w.foldl (fun q b=>As o q b) q:=fun w=>by
  induction w with
  | nil=>intro q _;rfl
  | cons c w f=>
    intro q a;have i:=a c Yca;have e:(UInt8.ofNat c).toNat=c:=by simp;omega
    rw[Yc1,Yc1,e];exact f _ fun d g=>a d (YbY _ g)
 exact this w 0 h
def unB(s:ByteArray):List Nat:=s.data.toList.map UInt8.toNat
theorem Gf(s:ByteArray):DT (unB s):=fun b a=>by
 obtain⟨x,-,rfl⟩:=I'.1 a;exact UInt8.toNat_lt x
theorem YE(s:ByteArray):bA (unB s)=s:=by
 apply Ab2;rw[ML];unfold unB;rw[List.map_map]
 conv=>rhs;rw[←List.map_id s.data.toList]
 apply YcE;intro x _;simp
theorem HN.bytes{g:Gr}{w:List Nat}(h:HN g (·=Az) w):DT w:=h.1.2.1
structure VarA(S:Nat→Prop)(H:Aa)(p:Nat)(o:Option AM):Prop where
 out:∃v,S p∧Q_ H p 23 [v]∧AZ S H v o
structure VarF(S:Nat→Prop)(H:Aa)(p pa:Nat):Prop where
 in_:S p
 blk:Q_ H p 269 [.func (.func 148) #[] #[U_ pa]]
theorem HM.uniq{g:Gr}{w v:List Nat}{ok a:Bool}(h:HM g w ok)(k:HM g v a):w=v∧ok=a:=by
 cases ok<;>cases a
 ·exact⟨(h.2 rfl).1.trans (k.2 rfl).1.symm,rfl⟩
 ·have b:=k.1 rfl;exact absurd b.1.2.2.1 ((h.2 rfl).2 v b.1.2.1)
 ·have b:=h.1 rfl;exact absurd b.1.2.2.1 ((k.2 rfl).2 w b.1.2.1)
 ·exact⟨(h.1 rfl).uniq (k.1 rfl),rfl⟩
end
section
attribute [local irreducible] Bj AP Bd
def TC(D:DM)(b g j:Nat):Bool:=(AjN j).all fun q=>FH D (q:Int) b==FH D (q:Int) g
def MG(D:DM)(b g:Nat):Bool:=TC D b g D.next.length
theorem XY(D:DM)(a:Nat):MG D a a=true:=by simp[MG,TC]
end
section
attribute [local irreducible] Bj AP
structure AfR(o:Option AM)(D:DM):Prop where
 ok:D.Ok
 n:stN o=D.next.length
 step:∀(q:Int) (b:Nat),b<256→As o q b=FH D q b
 fin:∀q:Int,AY o q=AcO D q
 alive:∀q:Int,QD o q=QC D q
theorem Ac0(cells:List (BitVec 256))(next:List (List Int))(final:List Bool):AfR (Cs cells next final) (Fk cells next final):=
 ⟨Zf _ _ _,Up _ _ _,fun q b a=>Pz _ _ _ q a,Un _ _ _,Um _ _ _⟩
section
variable{o:Option AM}{D:DM}
end
end
section
attribute [local irreducible] Bj Bd AP
def bvF(f:Nat→Bool):Nat→BitVec 256
 | 0=>0#256
 | n+1=>if f n then bvF f n ||| AC n n else bvF f n
theorem V8(f:Nat→Bool){b:Nat}(d:b<256):∀n,(bvF f n).getLsbD b=(decide (b<n)&&f b)
 | 0=>by simp[bvF]
 | n+1=>by
   have e:=V8 f d n;unfold bvF;split
   ·rename_i a;rw[Yaq,e,CL n n b d];by_cases h:b=n
    ·subst h;simp[a]
    ·have c:decide (b<n+1)=decide (b<n):=by rw[decide_eq_decide];omega
     have g:(decide (n≤b)&&decide (b≤n))=false:=by simp;omega
     rw[c,g,Bool.or_false]
   ·rename_i a;rw[e];by_cases h:b=n
    ·subst h;simp[a]
    ·have c:decide (b<n+1)=decide (b<n):=by rw[decide_eq_decide];omega
     rw[c]
def bvN(f:Nat→Bool):BitVec 256:=bvF f 256
theorem MM(f:Nat→Bool){b:Nat}(a:b<256):(bvN f).getLsbD b=f b:=by
 unfold bvN;rw[V8 f a,n_ a,Ya0]
theorem Si(cells:List (BitVec 256)):∀b,(AP cells b).1.Pairwise (·<·)
 | 0=>by rw[AP];exact List.Pairwise.nil
 | b+1=>by
   have d:=Si cells b;cases e:(AP cells b).1.findIdx? (fun g=>CR cells b g)with
   | some k=>rw[NB e];exact d
   | none=>
     rw[NA e];refine YbX.2 ⟨d,YcT _ _,fun a h c f=>?_⟩;rw[Y_]at f;subst f;have⟨k,i⟩:=YaI h;exact((IQ cells c).first k a i).1
end
end Go.Proofs.YtfbghcpdinlmcaaGreatDoor
namespace Go.VC
theorem B_.cat{B:Nat→Prop}{H0 H H':Aa}{ps qs:List Pc}(st:B_ B H0 H ps)(b:St H H' qs):B_ B H0 H' (ps++qs):=by
 have c:=st.call b.old;refine⟨c.old,c.lt0,c.size,fun p a=>?_,fun p a k d=>?_,?_⟩
 ·rcases q_.1 a with a | a
  ·exact c.oks p a
  ·exact b.oks p a
 ·rcases q_.1 a with a | a
  ·exact c.rng p a k d
  ·have⟨f,g⟩:=b.rng p a k d;exact⟨fun h=>f (st.up h),g⟩
 ·refine YbX.2 ⟨c.dis,b.dis,fun p a q i k d e=>?_⟩;exact(b.rng q i k e).1 (st.rng p a k d).2
end Go.VC
namespace Go.Proofs.YtfbghcpdinlmcaaGreatDoor
open Go.VC
section
attribute [local irreducible] Bj Bd AP
end
def Dn(cells:List (BitVec 256))(g:Nat):Bool:=(AjN g).all fun h=> !CR cells g h
section
variable{cells:List (BitVec 256)}
theorem BG{a b:Nat}:CR cells a b=true↔∀c∈cells,c.getLsbD a=c.getLsbD b:=by
 unfold CR;simp
theorem Eo{g:Nat}:Dn cells g=true↔∀h,h<g→CR cells g h=false:=by
 unfold Dn;simp
theorem HV{b:Nat}:∀h,CR cells b h=true→∃g,g≤h∧CR cells b g=true∧Dn cells g=true:=by
 intro h
 induction h using Nat.strongRecOn with
 | _ h ih=>
   intro i;by_cases j:Dn cells h=true
   ·exact⟨h,I_ _,i,j⟩
   ·have:∃a,a<h∧CR cells h a=true:=by
     apply Classical.byContradiction;intro d;apply j;rw[Eo];intro a e;cases hs:CR cells h a with
     | false=>rfl
     | true=>exact absurd ⟨a,e,hs⟩ d
    have⟨a,f,hs⟩:=this;have⟨g,g1,g2,l⟩:=ih a f (BG.2 fun c k=>(BG.1 i c k).trans (BG.1 hs c k));exact⟨g,by omega,g2,l⟩
end
theorem KO(cells:List (BitVec 256)):∀b,(AP cells b).1=(AjN b).filter (Dn cells)
 | 0=>rfl
 | b+1=>by
   have a:=KO cells b;rw[YcW,Ybg];cases c:(AP cells b).1.findIdx? fun g=>CR cells b g with
   | some k=>
     rw[NB c];obtain⟨i,f,-⟩:=YcP.1 c;have d:(AP cells b).1[k]∈(AjN b).filter (Dn cells):=by rw[←a];exact Ydc i
     have e:=YaY.1 (Ybn.1 d).1;have:Dn cells b=false:=by
      cases j:Dn cells b with
      | false=>rfl
      | true=>rw[Eo.1 j _ e]at f;cases f
     rw[YbU (by rw[this];decide)];simpa using a
   | none=>
     rw[NA c];have:Dn cells b=true:=by
      rw[Eo];intro h m;cases hs:CR cells b h with
      | false=>rfl
      | true=>
        have⟨g,g1,g2,l⟩:=HV h hs;have d:g∈(AP cells b).1:=by rw[a];exact Ybn.2 ⟨YaY.2 (by omega),l⟩
        have:=List.findIdx?_eq_none_iff.1 c g d;rw[g2]at this;cases this
     rw[YbT this,a];rfl
def Hc(x y:BitVec 256):Prop:=∀c,x.getLsbD c=true→y.getLsbD c=false
theorem QS{s b x:BitVec 256}(h:x∈Kt s b):x=b &&& s∨x=b &&& ~~~s:=by
 have:=(Ybn.1 h).1;simpa using this
theorem KP(sets:List (BitVec 256)):(Dc sets).Pairwise Hc:=by
 have e:∀(rest d:List (BitVec 256)),d.Pairwise Hc→(rest.foldl Mu d).Pairwise Hc:=by
  intro rest
  induction rest with
  | nil=>exact fun d h=>h
  | cons s rest i=>
    intro d h;refine i _ ?_;unfold Mu;rw[Ydf];refine⟨fun b n=>?_,h.imp fun{x y} f u j v k c a=>?_⟩
    ·refine List.Pairwise.filter _ (Ybf.2 ⟨fun y g c a=>?_,YcT _ _⟩);rw[Y_]at g;subst g;rw[YcL,r_]at a;rw[YcL,YcM,a.2];simp
    ·have l:x.getLsbD c=true:=by
      rcases QS j with rfl | rfl<;>· rw[YcL,r_]at a;exact a.1
     have m:=f c l;rcases QS k with rfl | rfl<;>rw[YcL,m,Bool.false_and]
 exact e sets _ (YcT _ _)
theorem Ul(sets:List (BitVec 256)):∀x∈Dc sets,∀c d,c<256→d<256→(∀s∈sets,s.getLsbD c=s.getLsbD d)→x.getLsbD c=x.getLsbD d:=by
 have i:∀(rest g:List (BitVec 256)) (c d:Nat),c<256→d<256→(∀x∈g,x.getLsbD c=x.getLsbD d)→(∀s∈rest,s.getLsbD c=s.getLsbD d)→∀x∈rest.foldl Mu g,x.getLsbD c=x.getLsbD d:=by
  intro rest
  induction rest with
  | nil=>exact fun g c d _ _ h _=>h
  | cons s rest n=>
    intro g c d e f h k;refine n _ c d e f (fun x a=>?_) fun o j=>k o (YbY _ j);have⟨b,p,a⟩:=YcS.1 a;have l:=h b p;have m:=k s (Yca ..);rcases QS a with rfl | rfl
    ·rw[YcL,YcL,l,m]
    ·rw[YcL,YcL,YcM,YcM,l,m];simp[e,f]
 intro x a c d e f hs;refine i sets _ c d e f (fun x a=>?_) hs x a;rw[Y_]at a;subst a;rw[Yar,Yar];simp[e,f]
theorem ZV{l:List (BitVec 256)}{b:Nat}(h:l.Pairwise Hc)(a:∀x∈l,x.getLsbD b=true)(d:l≠[]):∃x,l=[x]:=by
 match l,d with
 | [x],_=>exact⟨x,rfl⟩
 | x::y::r,_=>
   have c:=(Ybf.1 h).1 y (by simp) b (a x (by simp));rw[a y (by simp)]at c;cases c
theorem Il(sets:List (BitVec 256)):CG sets=(AjN 256).filter (Dn sets):=by
 have a:=Ii sets;have i:∀b,b<256→(Cw (Dc sets) b).map (fun c=>(AE c 0).1)=if Dn sets b then [b]else []:=by
  intro b o;have d:∀x∈Cw (Dc sets) b,x∈Dc sets∧(AE x 0).1=b∧x.getLsbD b=true:=fun x e=>by
   have⟨j,q⟩:=Ybn.1 e;have p:(AE x 0).1=b:=by simpa using q
   have g:=(Gn (a.ne x j)).1;rw[p]at g;exact⟨j,p,g⟩
  cases k:Dn sets b with
  | false=>
    rw[D_ (by decide)];have:Cw (Dc sets) b=[]:=by
     apply Classical.byContradiction;intro m;have⟨x,e⟩:=List.exists_mem_of_ne_nil _ m;have⟨j,q,p⟩:=d x e;have:∃h,h<b∧CR sets b h=true:=by
      apply Classical.byContradiction;intro r;have:Dn sets b=true:=Eo.2 fun h s=>by
       cases hs:CR sets b h with
       | false=>rfl
       | true=>exact absurd ⟨h,s,hs⟩ r
      rw[k]at this;cases this
     have⟨h,s,hs⟩:=this;have g:=Ul sets x j b h o (by omega) (BG.1 hs);rw[p]at g;have A:=(Gn (a.ne x j)).2 h (by rw[q];exact s);rw[A]at g;cases g
    rw[this];rfl
  | true=>
    rw[F_ rfl];have⟨x,e,f⟩:=a.all b o;have⟨B,C⟩:=Gn (a.ne x e);have t:(AE x 0).1=b:=by
     apply Classical.byContradiction;intro m;have u:(AE x 0).1<b:=by
      rcases Nat.lt_or_ge b (AE x 0).1 with h | h
      ·rw[C b h]at f;cases f
      ·omega
     have hs:=a.same x e b _ f B;have:=Eo.1 k _ u;rw[BG.2 hs]at this;cases this
    have n:x∈Cw (Dc sets) b:=Ybn.2 ⟨e,by rw[t];simp⟩;have⟨y,w⟩:=ZV (l:=Cw (Dc sets) b) (b:=b) ((KP sets).filter _) (fun z D=>(d z D).2.2) (Ydj n);rw[w];have:=(d y (by rw[w];simp)).2.1;simp only[YaV,List.map_nil,this]
 unfold CG Bz;rw[List.map_flatMap];have v:∀l:List Nat,(∀b∈l,b<256)→(l.flatMap fun b=>(Cw (Dc sets) b).map fun c=>(AE c 0).1)=l.filter (Dn sets):=by
  intro l
  induction l with
  | nil=>exact fun _=>rfl
  | cons b l E=>
    intro h;rw[Yc6,i b (h b (Yca ..)),E fun x e=>h x (YbY _ e)];cases k:Dn sets b with
    | true=>rw[YbT k];rfl
    | false=>rw[YbU (by rw[k];decide)];rfl
 exact v _ fun b o=>YaY.1 o
section
variable{s t:List (BitVec 256)}
theorem UD(h:∀x,x∈s↔x∈t):Dn s=Dn t:=by
 funext g;rw[YcN,Eo,Eo];have hs:∀a b,CR s a b=CR t a b:=fun a b=>by
  rw[YcN,BG,BG];exact⟨fun k c d=>k c ((h c).2 d),fun k c d=>k c ((h c).1 d)⟩
 constructor<;>intro k j e
 ·rw[←hs];exact k j e
 ·rw[hs];exact k j e
theorem XP(h:∀x,x∈s↔x∈t):CG s=(AP t 256).1:=by
 rw[Il,KO,UD h]
end
section
attribute [local irreducible] Bj Bd AP
section
variable{K:Type} [DecidableEq K]{most:Nat}{step:K→Nat→K}{start:K}{P:K→Prop}{x:K}
theorem Tw(s:Option (List K×List Nat))(b:Nat):(CQ most step x s b).map Prod.fst=(s.map Prod.fst).bind fun f=>(atF most f (step x b)).map Prod.fst:=by
 cases s with
 | none=>rfl
 | some p=>
   simp only[CQ,YbP,YcK];cases atF most p.1 (step x b)<;>rfl
theorem AbX{f:List K}{k:K}{i:Nat}(b:f.Nodup)(h:f[i]?=some k):atF most f k=some (f,i):=by
 unfold atF;have:f.findIdx? (·=k)=some i:=by
  rw[YcP];have⟨a,e⟩:=O_.1 h;refine⟨a,by simpa using e,fun j c=>?_⟩;have:=(Ya9.1 b) j i (by omega) a c;rw[e]at this;simpa using this
 rw[this]
theorem N9{F F':List K}{k:K}{i:Nat}(h:atF most F k=some (F',i)):∀y∈F',y∈F∨y=k:=by
 intro y a;unfold atF at h;split at h
 ·injection h with h;injection h with h1 h2;subst h1;exact .inl a
 ·split at h
  ·injection h with h;injection h with h1 h2;subst h1
   rcases q_.1 a with a | a
   ·exact .inl a
   ·rw[Y_]at a;exact .inr a
  ·cases h
theorem AfK(hs:∀b,P (step x b)):∀(l:List Nat) (f f':List K) (r a:List Nat),l.foldl (CQ most step x) (some (f,r))=some (f',a)→(∀y∈f,P y)→∀y∈f',P y
 | [],f,f',r,a,h,hf=>by
   simp only[Yc5,AjW.injEq,Prod.mk.injEq]at h;obtain⟨rfl,-⟩:=h;exact hf
 | b::l,f,f',r,a,h,hf=>by
   rw[Yc1]at h;simp only[CQ,YbP]at h;cases c:atF most f (step x b)with
   | none=>rw[c]at h;rw[Ydq,HG]at h;cases h
   | some p=>
     rw[c]at h;refine AfK hs l p.1 f' _ a h fun y d=>?_;rcases N9 (i:=p.2) c y d with e | rfl
     ·exact hf y e
     ·exact hs b
theorem RI:∀(l:List Nat) (f f':List K) (r a:List Nat),l.foldl (CQ most step x) (some (f,r))=some (f',a)→f.length≤most→f.Nodup→f'.length≤most∧f'.Nodup∧f <+: f'∧∃c,a=r++c
 | [],f,f',r,a,h,h1,h2=>by
   simp only[Yc5,AjW.injEq,Prod.mk.injEq]at h;obtain⟨rfl,rfl⟩:=h;exact⟨h1,h2,YcI _,[],by simp⟩
 | b::l,f,f',r,a,h,h1,h2=>by
   rw[Yc1]at h;simp only[CQ,YbP]at h;cases d:atF most f (step x b)with
   | none=>rw[d]at h;rw[Ydq,HG]at h;cases h
   | some p=>
     rw[d]at h;obtain⟨-,g1,g2,e⟩:=Sh (i:=p.2) d h1 h2;have⟨g,j,k,c,m⟩:=RI l p.1 f' _ a h g1 g2;exact⟨g,j,e.trans k,p.2::c,by rw[m];simp⟩
theorem Fv(g:1≤most)(h0:P start)(hs:∀y b,P y→P (step y b))(bs:List Nat):∀(n:Nat) (f:List K) (rows:List (List Nat)),B8 most step bs start n=some (f,rows)→f.length≤most∧f.Nodup∧f[0]?=some start∧∀y∈f,P y
 | 0,f,rows,h=>by
   simp only[B8,AjW.injEq,Prod.mk.injEq]at h;obtain⟨rfl,-⟩:=h;exact⟨g,by simp,rfl,fun y i=>by rw[Y_]at i;subst i;exact h0⟩
 | n+1,f,rows,h=>by
   simp only[B8]at h;cases c:B8 most step bs start n with
   | none=>rw[c]at h;cases h
   | some p=>
     have⟨g1,g2,j,d⟩:=Fv g h0 hs bs n p.1 p.2 c;rw[c]at h;simp only[YbP]at h;cases e:p.1[n]? with
     | none=>
       rw[e]at h;simp only[AjW.injEq]at h;subst h;exact⟨g1,g2,j,d⟩
     | some x=>
       rw[e]at h;simp only at h;cases a:bs.foldl (CQ most step x) (some (p.1,[]))with
       | none=>rw[a]at h;cases h
       | some r=>
         rw[a]at h;simp only[YcK,AjW.injEq,Prod.mk.injEq]at h;obtain⟨rfl,-⟩:=h;obtain⟨k,l,m,-⟩:=RI bs p.1 r.1 [] r.2 a g1 g2;exact⟨k,l,ED m j,AfK (fun b=>hs x b (d x (c_ e))) bs p.1 r.1 [] r.2 a d⟩
def Yq(P:K→Prop)(step:K→Nat→K)(p:Nat→Bool):Prop:=∀b,b<256→p b=false→∃g,g<b∧p g=true∧∀x,P x→step x g=step x b
theorem XR{p:Nat→Bool}(e:Yq P step p)(h:P x){f:List K}(i:f.length≤most)(j:f.Nodup):∀m,m≤256→
  ((AjN m).foldl (CQ most step x) (some (f,[]))).map Prod.fst=(((AjN m).filter p).foldl (CQ most step x) (some (f,[]))).map Prod.fst:=by
 intro m
 induction m with
 | zero=>intro _;rfl
 | succ m a=>
   intro y;have a:=a (by omega);rw[YcW,Ybg,Ybh,Ybh,Yc1,Yc5,Tw,a];cases b:p m with
   | true=>
     rw[YbT b,Yda,Yc1,Yc5,Tw]
   | false=>
     rw[YbU (by rw[b];decide),Yda,Yc5];cases c:(AjN m).foldl (CQ most step x) (some (f,[]))with
     | none=>rw[←a,c];rfl
     | some q=>
       have⟨z,n⟩:=q;have⟨A,o,B,r,s⟩:=Mo i j c;have⟨g,u,v,hs⟩:=e m (by omega) b;rw[List.length_range]at r;have⟨t,w⟩:=Ac (l:=n) (k:=g) (by omega);have d:=s g g t (YaR u) w;rw[hs x h]at d;rw[←a,c];simp only[YcK,YbP,AbX o d]
theorem OH{p:Nat→Bool}(j:Yq P step p)(k:1≤most)(h0:P start)(hs:∀y b,P y→P (step y b)):∀n,(B8 most step (AjN 256) start n).map Prod.fst=(B8 most step ((AjN 256).filter p) start n).map Prod.fst
 | 0=>rfl
 | n+1=>by
   have c:=OH j k h0 hs n;simp only[B8];cases h:B8 most step (AjN 256) start n with
   | none=>
     rw[h]at c;cases g:B8 most step ((AjN 256).filter p) start n with
     | none=>rfl
     | some q=>rw[g]at c;cases c
   | some q=>
     rw[h]at c;cases g:B8 most step ((AjN 256).filter p) start n with
     | none=>rw[g]at c;cases c
     | some l=>
       rw[g]at c;simp only[YcK,AjW.injEq]at c;have⟨f,rows⟩:=q;have⟨s,i⟩:=l;simp only at c;subst c;have⟨g1,g2,t,m⟩:=Fv k h0 hs _ n f rows h;simp only[YbP];cases o:f[n]? with
       | none=>rfl
       | some x=>
         have e:=XR j (m x (c_ o)) g1 g2 256 (I_ _);cases d:(AjN 256).foldl (CQ most step x) (some (f,[]))with
         | none=>
           rw[d]at e;cases a:((AjN 256).filter p).foldl (CQ most step x) (some (f,[]))with
           | none=>simp only[d,a];rfl
           | some r=>rw[a]at e;cases e
         | some r=>
           rw[d]at e;cases a:((AjN 256).filter p).foldl (CQ most step x) (some (f,[]))with
           | none=>rw[a]at e;cases e
           | some u=>
             rw[a]at e;simp only[d,a];simpa using e
def Fz(most:Nat)(step:K→Nat→K)(start:K):Option (List K):=(Fy most step (AjN 256) start).map Prod.fst
theorem QU{p:Nat→Bool}(a:Yq P step p)(c:1≤most)(h0:P start)(hs:∀y b,P y→P (step y b)):(Fy most step ((AjN 256).filter p) start).map Prod.fst=Fz most step start:=(OH a c h0 hs most).symm
theorem T0(e:1≤most){bs:List Nat}:∀(k n:Nat) (f:List K) (rows:List (List Nat)),B8 most step bs start (n+k)=some (f,rows)→∃b a,B8 most step bs start n=some (b,a)∧b <+: f
 | 0,n,f,rows,h=>⟨f,rows,h,YcI _⟩
 | k+1,n,f,rows,h=>by
   rw[←Nat.add_assoc]at h;simp only[B8]at h;cases c:B8 most step bs start (n+k)with
   | none=>rw[c]at h;cases h
   | some p=>
     have⟨b,a,g,e2⟩:=T0 e k n p.1 p.2 c;obtain⟨g1,g2,-⟩:=Fv (P:=fun _=>True) e trivial (fun _ _ _=>trivial) bs (n+k) p.1 p.2 c;rw[c]at h;simp only[YbP]at h;cases i:p.1[n+k]? with
     | none=>
       rw[i]at h;simp only[AjW.injEq]at h;subst h;exact⟨b,a,g,e2⟩
     | some x=>
       rw[i]at h;simp only at h;cases d:bs.foldl (CQ most step x) (some (p.1,[]))with
       | none=>rw[d]at h;cases h
       | some r=>
         rw[d]at h;simp only[YcK,AjW.injEq,Prod.mk.injEq]at h;obtain⟨rfl,-⟩:=h;exact⟨b,a,g,e2.trans (RI bs p.1 r.1 [] r.2 d g1 g2).2.2.1⟩
theorem QT(b:1≤most){bs:List Nat}{F:List K}{rows:List (List Nat)}(h:Fy most step bs start=some (F,rows)):B8 most step bs start F.length=some (F,rows):=by
 obtain⟨g1,-⟩:=Fv (P:=fun _=>True) b trivial (fun _ _ _=>trivial) bs most F rows h;obtain⟨f,a,c,e2⟩:=T0 b (most-F.length) F.length F rows (by rw[show F.length+(most-F.length)=most by omega];exact h);have d:=OG c e2.length_le most g1;have e:B8 most step bs start most=some (F,rows):=h;rw[e]at d;rw[c];exact d.symm
theorem S9(c:1≤most){F:List K}(h:Fz most step start=some F):1≤F.length∧F.length≤most∧F.Nodup∧F[0]?=some start:=by
 unfold Fz at h;cases a:Fy most step (AjN 256) start with
 | none=>rw[a]at h;cases h
 | some p=>
   rw[a]at h;simp only[YcK,AjW.injEq]at h;subst h;obtain⟨g1,g2,b,-⟩:=Fv (P:=fun _=>True) c trivial (fun _ _ _=>trivial) (AjN 256) most p.1 p.2 a;exact⟨(O_.1 b).1,g1,g2,b⟩
end
theorem Hc.sym{x y:BitVec 256}(h:Hc x y):Hc y x:=fun c a=>by
 cases b:x.getLsbD c with
 | false=>rfl
 | true=>rw[h c b]at a;cases a
theorem YA{l:List (BitVec 256)}(h:l.Pairwise Hc){x y:BitVec 256}(e:x∈l)(f:y∈l)(b:x≠y):Hc x y:=by
 obtain⟨i,c,rfl⟩:=Ydh e;obtain⟨j,d,rfl⟩:=Ydh f;rcases Ydo i j with a | rfl | a
 ·exact Ya9.1 h i j c d a
 ·exact absurd rfl b
 ·exact(Ya9.1 h j i d c a).sym
theorem L2{sets:List (BitVec 256)}{x:BitVec 256}:x∈Bz sets↔x∈Dc sets:=by
 unfold Bz;rw[YcS];constructor
 ·rintro⟨b,-,a⟩;exact(Ybn.1 a).1
 ·exact fun h=>⟨(AE x 0).1,YaY.2 (BC x 0),Ybn.2 ⟨h,by simp⟩⟩
theorem Sj(sets:List (BitVec 256)):(Bz sets).Pairwise Hc:=by
 have a:=KP sets;unfold Bz;rw[Ydf];refine⟨fun b _=>a.filter _,List.pairwise_lt_range.imp fun{b c} d x f y g=>?_⟩;have⟨h,i⟩:=Ybn.1 f;have⟨j,k⟩:=Ybn.1 g;refine YA a h j fun e=>?_;subst e;have l:(AE x 0).1=b:=by simpa using i
 have e2:(AE x 0).1=c:=by simpa using k
 omega
theorem Pu(sets:List (BitVec 256)){b:Nat}(c:b<256):cnt (Bz sets) b=1:=by
 unfold cnt;have⟨x,d,a⟩:=(Ii sets).all b c;have⟨y,e⟩:=ZV (l:=(Bz sets).filter fun x=>x.getLsbD b) (b:=b) ((Sj sets).filter _) (fun z f=>(Ybn.1 f).2) (Ydj (Ybn.2 ⟨L2.2 d,a⟩));rw[e];rfl
def TW(a:N_)(l:List Int):Prop:=∀q∈l,a.has q=true
def Y3(a:N_)(sets:List (BitVec 256)):Prop:=∀e∈a.edges,e.sil=false→okE a e=true→e.set∈sets
theorem WK(a:N_):Y3 a (Dw a):=fun e c hs b=>by
 unfold okE at b;rw[r_]at b;obtain⟨row,d,-,f⟩:=TM b.1;exact YcS.2 ⟨row,c_ d,I'.2 ⟨e,(f e).2 ⟨c,hs,rfl,b.2⟩,rfl⟩⟩
section
variable{a:N_}{sets:List (BitVec 256)}
theorem TL(m:Y3 a sets){g b:Nat}(hs:CR sets g b=true){l:List Int}(n:TW a l):BT a l g=BT a l b:=by
 have d:∀g b:Nat,CR sets g b=true→∀q,Rl a (·∈l) g q→Rl a (·∈l) b q:=fun g b hs q ⟨e,h,i,o,j,k,p⟩=>
  ⟨e,h,i,by rw[←BG.1 hs e.set (m e h i (by unfold okE;rw[n _ j,k];rfl))];exact o,j,k,p⟩
 have f:CR sets b g=true:=BG.2 fun c r=>(BG.1 hs c r).symm;unfold BT goS;have e:Rl a (·∈l) g=Rl a (·∈l) b:=funext fun q=>propext ⟨d g b hs q,d b g f q⟩;rw[e]
theorem Ac6(f:Y3 a sets):Yq (TW a) (BT a) (Dn sets):=fun b l h=>by
 have⟨g,g1,g2,d⟩:=HV (cells:=sets) (b:=b) b (KH sets b);have i:g≠b:=fun e=>by rw[e,h]at d;cases d
 exact⟨g,by omega,d,fun x j=>TL f (BG.2 fun c k=>(BG.1 g2 c k).symm) j⟩
end
noncomputable abbrev M8(a:N_):List Int:=FR (NF a)
theorem Sm(a:N_):TW a (M8 a):=fun q b=>Hp a q ((HC (FP (Hp a)) q).1 b)
theorem Qu{a:N_}(l:List Int)(b:Nat)(_:TW a l):TW a (BT a l b):=LY
noncomputable def Zd(a:N_)(most:Nat):Option (List (List Int)):=Fz most (BT a) (M8 a)
theorem detA(a:N_){most:Nat}(b:1≤most):(Fy most (BT a) (CG (Dw a)) (M8 a)).map Prod.fst=Zd a most:=by
 rw[Il];exact QU (Ac6 (WK a)) b (Sm a) Qu
structure AfV(a:N_)(F:List (List Int))(st:Int→Nat→Int)(fi:Int→Bool):Prop where
 st:∀(q b:Nat) (x:List Int),F[q]?=some x→b<256→∃t:Nat,st (q:Int) b=(t:Int)∧F[t]?=some (BT a x b)
 fi:∀(q:Nat) (x:List Int),F[q]?=some x→fi (q:Int)=decide (a.fin∈x)
section
variable{a:N_}{most:Nat}{bs:List Nat}{F:List (List Int)}{rows:List (List Nat)}
theorem Uw(b:1≤most)(h:Fy most (BT a) bs (M8 a)=some (F,rows)):N3 most (BT a) bs (M8 a) F.length F rows∧∀x∈F,TW a x:=by
 obtain⟨-,-,-,c⟩:=Fv (P:=TW a) b (Sm a) Qu bs most F rows h;exact⟨Jt b F.length F rows (QT b h) fun j d=>d,c⟩
theorem AaJ(e:N3 most (BT a) bs (M8 a) F.length F rows){q:Nat}{row:List Nat}(f:rows[q]?=some row):row.length=bs.length∧∀t∈row,t<F.length:=by
 have g:=e.cols row (c_ f);refine⟨g,fun t h=>?_⟩;have⟨k,c⟩:=YaI h;have i:=(O_.1 c).1;have⟨b,j⟩:=Ac (l:=bs) (k:=k) (by omega);have d:=(O_.1 f).1;rw[e.rl]at d;have⟨x,m⟩:=Ac (l:=F) (k:=q) d;exact(O_.1 (e.ok q k row b t x f j c m)).1
end
theorem Ai6{a:N_}{most:Nat}{F:List (List Int)}{rows:List (List Nat)}(E:1≤most)(G:most≤65536)(h:Fy most (BT a) (CG (Dw a)) (M8 a)=some (F,rows)):
  Bk (Bz (Dw a)) (rows.map AR) F.length=true∧AfV a F (As (some (Bi (Bz (Dw a)) (rows.map AR) (F.map fun l=>decide (a.fin∈l))))) (AY (some (Bi (Bz (Dw a)) (rows.map AR) (F.map fun l=>decide (a.fin∈l)))))∧stN (some (Bi (Bz (Dw a)) (rows.map AR) (F.map fun l=>decide (a.fin∈l))))=F.length:=by
 have⟨e,H⟩:=Uw E h;have N:=(O_.1 e.zero).1;have A:=e.len;have m:(rows.map AR).length=F.length:=by rw[Z_,e.rl]
 have n:(CG (Dw a)).length=(Bz (Dw a)).length:=Z_ _;have hs:Bk (Bz (Dw a)) (rows.map AR) F.length=true:=by
  rw[KI];refine⟨⟨by omega,by omega,m⟩,fun b i=>Pu _ i,fun r I=>?_⟩;obtain⟨row,d,rfl⟩:=I'.1 I;have⟨q,J⟩:=YaI d;have⟨B,C⟩:=AaJ e J;unfold GV;rw[r_,beq_iff_eq,Ybl];refine⟨by unfold AR;rw[Z_,B,n],fun t j=>?_⟩;obtain⟨u,K,rfl⟩:=I'.1 j;have:=C u K;simp only[r_,Zzj];omega
 have o:(F.map fun l=>decide (a.fin∈l)).length=F.length:=Z_ _;refine⟨hs,⟨fun q b x f i=>?_,fun q x f=>?_⟩,by simp only[stN,Bi,Z_];exact e.rl⟩
 ·have⟨row,d⟩:=Ac (l:=rows) (k:=q) (by rw[e.rl];exact(O_.1 f).1);have⟨B,C⟩:=AaJ e d;have⟨L,M⟩:=BK hs i;have⟨c,p⟩:=Ac L;have v:=M c p;have⟨t,j⟩:=Ac (l:=row) (k:=Ba (Bz (Dw a)) b) (by omega);have w:(CG (Dw a))[Ba (Bz (Dw a)) b]?=some (AE c 0).1:=by unfold CG;rw[o_,p];rfl
  have y:=e.ok q _ row _ t x d w j f;have g:=L2.1 (c_ p);have D:=Ii (Dw a);have z:CR (Dw a) (AE c 0).1 b=true:=BG.2 fun s hs=>D.same c g _ _ (Gn (D.ne c g)).1 v s hs;refine⟨t,?_,by rw[y,TL (WK a) z (H x (c_ f))]⟩;rw[Er (row:=AR row) (by rw[o];exact hs) (by rw[o_,d];rfl) i];unfold AR;rw[YaD,o_,j];rfl
 ·simp[AY,Bi,f]
end
end Go.Proofs.YtfbghcpdinlmcaaGreatDoor
