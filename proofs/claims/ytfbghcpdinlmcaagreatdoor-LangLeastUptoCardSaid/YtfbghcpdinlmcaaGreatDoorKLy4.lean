import Derived.Test.YtfbghcpdinlmcaaGreatDoorKLy3
import Derived.Shelf.Small.Strs
import Derived.Shelf.LaysM
set_option maxHeartbeats 0
open BitVec renaming allOnes -> Al9
open Int renaming ofNat -> Am2
open List renaming replicate -> Ai4, range -> AiN
open Option renaming some -> AjO
set_option maxRecDepth 100000
open Go.Proofs.Tryz
open Go renaming Value -> v_, TypeId -> x_, Program -> w_, World -> y_
open Option renaming some -> zY, none -> zV
open Bool renaming true -> zW, false -> zU
open Decidable renaming decide -> zT
set_option linter.unusedVariables false
set_option linter.unusedSimpArgs false
set_option linter.defProp false
namespace Go.Proofs.YtfbghcpdinlmcaaGreatDoor
variable{S B:Nat->Prop}{H H0:Aa}{v va:v_}{b c q g:Nat}{x y:BitVec 256}{K:v_->Aa->Prop}{t:Int}{ra:Option Addr}{u:List Bool}{sim:Nat->Nat->Bool}{ps:List Pc}{o U:Option AM}{l:List Nat}{a:P_}{s:ByteArray}{n:Int×Int}{F:List (Int×Int)}{vs:List v_}{cs:List (BitVec 256)}
section
attribute [local irreducible] Bt Am
structure DM where
 cell:List Int
 reps:List Int
 next:List (List Int)
 final:List Bool
structure Fb(S:Nat->Prop)(H:Aa)(v:v_)(D:DM):Prop where
 len:D.cell.length=256
 rep:∃ra rc na nc fa fc,v= .agg (AX D.cell (.slice ra D.reps.length rc) (.slice na D.next.length nc) (.slice fa D.final.length fc)).toArray/\b_ tI S H ra rc D.reps/\b_ FC S H na nc D.next/\b_ AI S H fa fc D.final
variable{D:DM}
def Fb.frame{H':Aa}(h:Fb S H v D)(k:C_ S H H'):Fb S H' v D:=by have⟨a,ra,rc,na,nc,fa,fc,e,b,c,d⟩:=h;exact⟨a,ra,rc,na,nc,fa,fc,e,b.frame k,c.frame k,d.frame k⟩
def Fb.mono{S':Nat->Prop}(h:Fb S H v D)(k:∀i,S i->S' i):Fb S' H v D:=by have⟨a,ra,rc,na,nc,fa,fc,e,b,c,d⟩:=h;exact⟨a,ra,rc,na,nc,fa,fc,e,b.mono k,c.mono k,d.mono k⟩
def EA(cells:List (BitVec 256))(f:List Nat)(row:List Int):List Int:=f.map λr=>row.getD (Ba cells r) 0
def Es(cells:List (BitVec 256))(next:List (List Int))(final:List Bool):DM:=
 ⟨U' (Am cells 256).2,U' (Am cells 256).1,next.map (EA cells (Am cells 256).1),final⟩
def AC:DM:=⟨Ai4 256 0,[0],[[0]],[zU]⟩
def gX{α:Type}{l:List α}{k:Nat}{x:α}(h:l[k]?=zY x):l.set k x=l:=by obtain⟨a,rfl⟩:=V_.1 h;exact List.set_getElem_self a
def OL(cells:List (BitVec 256))(b:Nat){d:Nat}(h:c<=d):Ni cells c b<=Ni cells d b:=by unfold Ni;exact List.Sublist.length_le (List.Sublist.filter _ (List.take_sublist_take_left h))
def Tb{cells:List (BitVec 256)}{next:List (List Int)}{fl:Nat}(h:BN cells next fl=zW)(j:b<256)(d:cells[c]?=zY x):x.getLsbD b=zT (Ba cells b=c):=by have e:=BQ h j;have k:=(L9.1 h).2.1 b j;by_cases f:Ba cells b=c;{rw[m_ f];exact e.2 x (by rw[f];exact d)};{rw[j_ f];rcases sM c (Ba cells b)with g | n;{exact KX g d};{cases a:x.getLsbD b with|false=>rfl|true=>have⟨y,l⟩:=Ab e.1;have i:=e.2 y l;have m:=OM (b:=b) l;have e2:=OM (b:=b) d;have p:=OL cells b (zO:Ba cells b+1<=c);have o:=OL cells b (show c+1<=cells.length by have:=(V_.1 d).1;omega);rw[Xs]at o;unfold wY at m e2;rw[i,I_ rfl]at m;rw[a,I_ rfl]at e2;omega}}
def Mo(cells:List (BitVec 256))(f:List Nat)(row:List Int):(EA cells f row).length=f.length:=by simp[EA]
def AjN(ca na fa:Option Addr)(cc nc fc:Nat)(cells:List (BitVec 256))(next:List (List Int))(final:List Bool)(S:Nat->Prop)(H:Aa)(hS:∀k,S k->k<H.size)(hc:b_ tB S H ca cc cells)(hn:b_ FC S H na nc next)(hf:b_ AI S H fa fc final)
  (cw:cells.length<=4194304) (s:BN cells next final.length=zW):
  Aj prog 55 #[.slice ca cells.length cc,.slice na next.length nc,.slice fa final.length fc] H λv H'=>C_ (H_ H) H H'/\H.size<=H'.size/\Fb (C8 H H') H' v (Es cells next final):=by
 have bg:=CP cells 256;have dy:=bg.flen;have⟨dz,cx,cy,a1⟩:=E0 s;refine Aj.of_vc func55 rfl (call55 _) (Ag _ (AX (Ai4 256 0) (.slice zV 0 0) (.slice zV 0 0) (.slice zV 0 0)) rfl zX ?_);intro p1 H1 e0 e5 cz d0;have am:C_ (H_ H) H H1:=d0.mono λj a=>by unfold H_ at a;omega
 refine Ae.mk (Pr ca cc cells S H1 (λk hk=>Af am (hS k hk)) (hc.frame (am.mono hS)) (yV cw zQ)) ?_;rintro v2 H2 ⟨bz,e6,ra,rc,rfl,hr⟩;have X:=am.trans (bz.mono λk hk=>Af am hk);have c1:=cz.agr bz (zO:p1<H1.size);have ax:∀g∈(Am cells 256).1,g<256:=λg hg=>by have⟨i,hi⟩:=xI hg;exact(bg.first i g hi).1
 generalize a2:(Am cells 256).1=f at*;have C:(U' (Am cells 256).2).length=256:=by rw[Cz,bg.plen]
 generalize ay:U' (Am cells 256).2=ps at*;have b:∀nv fv,(AX ps (.slice ra f.length rc) nv fv).length=259:=λnv fv=>Aq C;refine Ag _ (AX (Ai4 256 0) (.slice zV 0 0) (.slice zV 0 0) (.slice zV 0 0)) rfl zX ?_;intro p3 H3 e7 e8 d1 c2;refine wM (cs:=AX ps (.slice ra f.length rc) (.slice zV 0 0) (.slice zV 0 0)) (by rw[b];rfl) d1 (uK (by rw[b,Aq zZ])) (Bb rfl rfl rfl) ?_;intro H4 bh c3 e9;rw[Ai (by rw[b,Aq zZ])]at bh;have ao:C_ (H_ H) H H4:=(X.trans (c2.mono λk hk=>by have:=Af X hk;omega)).trans (c3.mono λk hk=>by have:=Af X hk;omega);have c4:C_ (λj=>j<H2.size) H2 H4:=(c2.mono λj a=>zO).trans (c3.mono λj a=>zO);have N:=c1.agr c4 (zO:p1<H2.size);have c5:b_ tI (λj=>H1.size<=j/\j<H2.size) H4 ra rc (U' f):=hr.frame (c4.mono λj a=>a.2);have ea:next.length<=65536:=cx
 (conv=>whnf);refine Ay.mk [8] (λq:Nat=>[A_ q]) (λq H5=>q<=next.length/\C_ (λj=>j<H4.size/\j≠p3) H4 H5/\H4.size<=H5.size/\∃vn vf Sr,R_ H5 p3 43 (AX ps (.slice ra f.length rc) vn vf)/\
  X_ FC Sr H5 H4.size 41 vn ((next.map (EA cells f)).take q)/\X_ AI (λ_=>False) H5 H4.size 4 vf (final.take q)/\(∀j,Sr j->H4.size<=j/\j<H5.size/\¬O_ vn j/\¬O_ vf j)/\(∀j,O_ vn j->¬O_ vf j)) (λq _=>next.length-q) ?_ ?_
 ·(conv=>whnf);exact⟨0,rfl,zO,C_.refl _ _,N_ _,.slice zV 0 0,.slice zV 0 0,λ_=>False,bh,by rw[vQ];exact X_.nil,by rw[vQ];exact X_.nil,λ_ f=>f.elim,λj a=>by have⟨o,n,c,h⟩:=a;cases h⟩
 ·rintro q H5 dk ⟨hq,ap,eb,vn,vf,Sr,bi,p,D,I,c6⟩;have az:p3<H4.size:=bh.lt;have a3:C_ (H_ H) H H5:=ao.trans (ap.mono λj a=>⟨Af ao a,by have:=Af X a;omega⟩);refine AD.m2 (λh=>?_) (λh=>?_)
  ·have⟨row,O⟩:=Ab (l:=next) (k:=q) zO;have⟨fin,b0⟩:=Ab (l:=final) (k:=q) zO;have ec:=(a1 row (e_ O)).1;have d2:∀{r:Nat},r∈f->(∃t,row[Ba cells r]?=zY t/\row.getD (Ba cells r) 0=t/\0<=t/\t<65536):=fun{r} hr=>by
    have h1:=(BQ s (ax r hr)).1;have⟨t,ht⟩:=Ab (l:=row) (k:=Ba cells r) zO;have h2:=(a1 row (e_ O)).2 t (e_ ht);exact⟨t,ht,by rw[xE,ht];rfl,h2.1,zO⟩
   refine F_ HD ?_;refine D_ (v:=.slice ra f.length rc) C9 (by rw[bi.cell,K_];exact ET C) zA ?_;refine EQ AB rfl zO zO zO zO ?_;intro w H6 ed d3 a4 y;rw[zB]at a4;have bj:X_ tI (λ_=>False) H6 H5.size 3 (.slice (T_ w) f.length f.length) ((EA cells f row).take 0++Ai4 ((EA cells f row).length-0) 0):=by
    rw[Tp,Mo];exact X_.made (T:=tI) (v:=(0:Int)) (c:=[A_ 0]) zO (by simpa using a4) ⟨rfl,BK (x:=0) zQ⟩ (by unfold maxLen;omega)
   have c7:=bi.agr y (zO:p3<w);(conv=>whnf);refine Ay.mk [10] (λk:Nat=>[A_ k]) (λk H7=>k<=f.length/\C_ (λj=>j≠w) H6 H7/\H7.size=H6.size/\X_ tI (λ_=>False) H7 H5.size 3 (.slice (T_ w) f.length f.length) ((EA cells f row).take k++Ai4 ((EA cells f row).length-k) 0)) (λk _=>f.length-k) ?_ ?_
   ·(conv=>whnf);exact⟨0,rfl,zO,C_.refl _ _,rfl,bj⟩
   ·rintro k H7 d4 ⟨hk,Y,ee,E⟩;have P:=c7.agr Y (zO:p3≠w);have aq:C_ (H_ H) H H7:=(a3.trans (y.mono λj a=>by have:=Af a3 a;omega)).trans (Y.mono λj a=>by have:=Af a3 a;omega);have c8:C_ (λj=>j<H4.size/\j≠p3) H4 H7:=(ap.trans (y.mono λj a=>zO)).trans (Y.mono λj a=>zO);have b4:=Mo cells f row;refine F_ HD ?_;refine D_ (v:=.slice ra f.length rc) C9 (by rw[P.cell,K_];exact ET C) zA ?_;refine AD.m2 (λh=>?_) (λh=>?_)
    ·have⟨r,ar⟩:=Ab (l:=f) (k:=k) zO;have K:=ax r (e_ ar);have⟨t,ht,d5,ef,eg⟩:=d2 (e_ ar);have bm:(EA cells f row)[k]?=zY t:=by unfold EA;rw[I',ar];exact congrArg zY d5
     have eh:=(BQ s K).1;(conv=>whnf);refine Ay.mk [11] (λc:Nat=>[A_ c]) (λc H8=>c<=cells.length/\C_ (λj=>j≠w) H7 H8/\H8.size=H7.size/\X_ tI (λ_=>False) H8 H5.size 3 (.slice (T_ w) f.length f.length)
      (((EA cells f row).take k++Ai4 ((EA cells f row).length-k) 0).set k (if Ba cells r<c then t else 0))) (λc _=>cells.length-c) ?_ ?_
     ·(conv=>whnf);refine⟨0,rfl,zO,C_.refl _ _,rfl,?_⟩;rw[G_ zO];have bn:=gX (Zq (l:=EA cells f row) (z:=(0:Int)) (zO:k<(EA cells f row).length));rw[bn];exact E
     ·rintro c H8 d6 ⟨dl,d,d7,F⟩;have c9:=P.agr d (zO:p3≠w);have cd:C_ (H_ H) H H8:=aq.trans (d.mono λj a=>by have:=Af a3 a;omega);have d8:b_ tI (λj=>H1.size<=j/\j<H2.size) H8 ra rc (U' f):=c5.frame ((c8.trans (d.mono λj a=>zO)).mono λj a=>zO);refine AD.m2 (λh=>?_) (λh=>?_)
      ·have⟨x,hx⟩:=Ab (l:=cells) (k:=c) zO;have bo:=Tb s K hx;refine Au.run (Ap.lex rfl zX (F_ HD ?_));refine D_ (v:=.slice ra f.length rc) C9 (by rw[c9.cell,K_];exact ET C) zA ?_;refine EK AB d8 (Cz _).symm (GX ar) rfl ?_;rintro b6 o6 ei dm a5 ⟨rfl,-⟩;refine D_ E_ a5.one zA (Y' Ss (hc.frame (cd.mono hS)) hx rfl ?_);rintro b7 o7 ej dn a6 rfl;refine s_ CC zO zO ?_;refine D_ (v:=.bool (x.getLsbD r)) M' (by rw[(zO:o7+(r:Int).toNat*1=o7+r)];exact a6 r _ (IB x K)) zA ?_;rw[bo];refine AD.m2 (λb5=>?_) (λb5=>?_)
       ·subst b5;obtain⟨-,-,-,l9,bp,d9,-,bq⟩:=F.placeS (i:=k) (by rw[yF,Tr zO];omega);have ek:k*tI.size=k:=zG k;have dp:tI.size=1:=rfl;refine Y' Dt (hn.frame (cd.mono hS)) O rfl ?_;rintro b9 o9 el dq a7 ⟨xa,xc,rfl,da⟩;refine D_ C9 a7.one zA (Y' AB da ht rfl ?_);rintro en eo dr db Z ⟨rfl,-⟩;refine D_ E_ Z.one zA (ix AB zO zO (J_ E_ bp zO rfl ?_));intro H10 m A ce;rw[show 0+(k:Int).toNat*1=k*tI.size by show 0+(k:Int).toNat*1=k*1;omega]at m;have Q:=bq H10 [A_ t] t (by rw[<-LB (zO:k*tI.size<l9.length)]at m;exact m) (λj a=>a.elim) ⟨rfl,by show(-9223372036854775808:Int)<=t;omega,by show t<=(9223372036854775807:Int);omega⟩;rw[List.set_set]at Q;(conv=>whnf);rw[U_ (x:=(Ba cells r:Int)+1) zO];exact⟨rfl,Ba cells r+1,zZ,⟨zO,d.trans (A.mono λj a=>a),zO,by rw[I_ zO];exact Q⟩,zO⟩
       ·(conv=>whnf);rw[Q_ c zO];refine⟨rfl,c+1,zZ,⟨zO,d,zO,?_⟩,zO⟩;have:(Ba cells r<c+1)↔(Ba cells r<c):=zO
        simp only[this];exact F
      ·rw[I_ zO,Ts bm]at F;(conv=>whnf);rw[Q_ k zO];exact⟨rfl,k+1,zZ,⟨zO,Y.trans d,zO,F⟩,zO⟩
    ·obtain rfl:k=f.length:=zO
     have cg:=Tq (l:=EA cells f row) (z:=(0:Int));rw[b4]at cg E;rw[cg]at E;have ch:X_ FC Sr H7 H4.size 41 vn ((next.map (EA cells f)).take q):=(p.agr y (S':=λj=>j<w) (λj a=>by have:=(p.lt a).2;omega) (λj a=>by have:=I j a;omega)).agr (S':=λj=>j≠w) Y (λj a=>by have:=(p.lt a).2;omega) (λj a=>by have:=I j a;omega);have ci:=(D.agr y (λj a=>by have:=(D.lt a).2;omega) (λ_ f=>f.elim)).agr Y (λj a=>by have:=(D.lt a).2;omega) (λ_ f=>f.elim);obtain⟨xa,J,e1,br,-⟩:=E.view (S':=λj=>j=w) (λj a=>by have⟨o,n,c,e⟩:=a;cases e;rfl) (λ_ f=>f.elim);injection e1 with e2 e3 e4
     subst e2;subst e4;refine F_ El ?_;refine D_ (v:=vn) DC (by rw[P.cell,K_];exact Do C) zA ?_;refine As Dt [.slice (T_ w) f.length f.length] rfl rfl zQ zQ ?_;intro q8 H8 ep d7 dc d;have a8:∀j,(Sr j\/j=w)->j<H8.size/\¬O_ vn j:=λj a=>by
      rcases a with a | rfl
      ·have:=I j a;exact⟨zO,this.2.2.1⟩
      ·exact⟨zO,λG=>by have:=(p.lt G).2;omega⟩
     have cj:X_ FC (λj=>Sr j\/j=w) H8 H4.size 41 vn ((next.map (EA cells f)).take q):=(ch.agr d (λj a=>by have:=(p.lt a).2;omega) (λj a=>by have:=I j a;omega)).mono λj a=>.inl a;have ck:((next.map (EA cells f)).take q).length=q:=by rw[wK,k_];omega
     refine BU (T:=FC) (S:=λj=>Sr j\/j=w) (ys:=[EA cells f row]) (ds:=[.slice (T_ w) f.length f.length]) (lo:=H4.size) (xs:=(next.map (EA cells f)).take q) Dt cj zO a8
       (dc.cells (λj v hv=>by simpa using hv)) (Ty.reps_one ⟨zY ⟨w,0,zV⟩,f.length,by rw[b4],(br.frame (d.mono λj a=>zO)).mono λj a=>.inr a⟩) rfl (by intro u hu;cases g_.1 hu;rfl) (by rw[ck];simp only[maxLen,i_];omega) (by rw[ck];simp only[i_];omega) ?_
     intro v9 H9 a9 au eu b8;have cm:R_ H9 p3 43 (AX ps (.slice ra f.length rc) vn vf):=(P.agr d (zO:p3<q8)).agr au ⟨zO,λG=>by have:=(p.lt G).1;omega⟩;refine F_ El ?_;refine J_ DC cm (by rw[b];omega) a9.one ?_;intro H10 m A ce;rw[K_,JP C]at m;have cu:∀j,O_ vn j->j≠w:=λj a=>by have:=(p.lt a).2;omega
     have ab:X_ FC (λj=>Sr j\/j=w) H10 H4.size 41 v9 ((next.map (EA cells f)).take q++[EA cells f row]):=a9.agr A (λj a=>by have:=(a9.lt a).1;omega) (λj a=>by
      rcases a with a | rfl
      ·have:=I j a;omega
      ·omega)
     have ae:=ci.agr d (λj a=>by have:=(D.lt a).2;omega) (λ_ f=>f.elim);have bd:=ae.agr au (λj a=>⟨(ae.lt a).2,λG=>c6 j G a⟩) (λ_ f=>f.elim);have ag:=bd.agr A (λj a=>by have:=(bd.lt a).1;omega) (λ_ f=>f.elim);have be:∀j,O_ v9 j->¬O_ vf j:=λj a aw=>by
      rcases b8 j a with h | h
      ·exact c6 j h aw
      ·have:=(ae.lt aw).2;omega
     have R:∀j,Sr j\/j=w->H4.size<=j/\j<H10.size/\¬O_ v9 j/\¬O_ vf j:=λj a=>by
      have h1:=a8 j a;refine⟨?_,zO,λG=>?_,λG=>?_⟩
      ·rcases a with a | rfl
       ·exact(I j a).1
       ·omega
      ·rcases b8 j G with h | h
       ·exact h1.2 h
       ·omega
      ·rcases a with a | rfl
       ·exact(I j a).2.2.2 G
       ·have:=(D.lt G).2;omega
     have bf:C_ (H_ H) H H10:=((aq.trans (d.mono λj a=>by have:=Af aq a;omega)).trans (au.mono λj a=>⟨by have:=Af aq a;omega,λG=>by have:=(p.lt G).1;have:=Af ao a;omega⟩)).trans (A.mono λj a=>by have:=Af X a;omega);have co:C_ (λj=>j<H4.size/\j≠p3) H4 H10:=((c8.trans (d.mono λj a=>zO)).trans (au.mono λj a=>⟨zO,λG=>by have:=(p.lt G).1;omega⟩)).trans (A.mono λj a=>a.2);(conv=>whnf);have U:∀j,j<H4.size->¬O_ vf j:=λj a G=>by have:=(D.lt G).1;omega
     refine Ap.held (λj=>j<H10.size/\¬O_ vf j) 9 (sq [0,1,2,3,4,5] (.f 6 (.f 7 (sq [8] (.f 9 .e))))) rfl zX (F_ Cl ?_);refine D_ (v:=vf) Dn (by rw[m.cell,K_];exact Ek C) ⟨m.lt,U _ az⟩ ?_;refine Y' C7 (hf.frame (bf.mono hS)) b0 rfl ?_;rintro ev ew dt ah a0 rfl;refine D_ M' a0.one ⟨Af bf (hS _ ah),U _ (Af ao (hS _ ah))⟩ (As C7 [.bool fin] rfl rfl zQ zQ ?_);intro de H12 du dv bu B;refine⟨B.mono λj a=>zO,?_⟩;have bv:=ag.agr B (λj a=>by have:=(ag.lt a).2;omega) (λ_ f=>f.elim);have cp:(final.take q).length=q:=by rw[wK];omega
     refine BU (T:=AI) (S:=λ_=>False) (ys:=[fin]) (ds:=[.bool fin]) (lo:=H4.size) (xs:=final.take q) C7 bv zO (λj a=>a.elim)
       (bu.cells (λj v hv=>by simpa using hv)) (Ty.reps_one rfl) rfl (by intro u hu;cases g_.1 hu;rfl) (by rw[cp];simp only[maxLen,i_];omega) (by rw[cp];simp only[i_];omega) ?_
     intro df H13 L V dw ai;refine⟨(B.mono λj a=>zO).trans (V.mono λj a=>⟨zO,a.2⟩),?_⟩;have cq:R_ H13 p3 43 (AX ps (.slice ra f.length rc) v9 vf):=(m.agr B (zO:p3<de)).agr V ⟨zO,U _ az⟩;refine F_ Cl ?_;refine J_ Dn cq (by rw[b];omega) L.one ?_;intro H14 N aj dx;rw[K_,DE C]at N;have bw:=L.agr aj (λj a=>by have:=(L.lt a).1;omega) (λ_ f=>f.elim);have M:=ab.agr B (λj a=>by have:=(ab.lt a).2;omega) (λj a=>by have:=R j a;omega);have ak:=M.agr V (λj a=>⟨(M.lt a).2,be j a⟩) (λj a=>by have:=R j a;exact⟨zO,this.2.2.2⟩);have bx:=ak.agr aj (λj a=>by have:=(ak.lt a).1;omega) (λj a=>by have:=R j a;omega);(conv=>whnf);rw[Q_ q zO];refine⟨rfl,q+1,zZ,⟨zO,?_,zO,v9,df,λj=>Sr j\/j=w,N,?_,?_,λj a=>?_,λj a aw=>?_⟩,zO⟩
     ·exact((co.trans (B.mono λj a=>zO)).trans (V.mono λj a=>⟨zO,U j a.1⟩)).trans (aj.mono λj a=>a.2)
     ·rw[Ac (x:=EA cells f row) (by rw[I',O];rfl)];exact bx
     ·rw[Ac b0];exact bw
     ·have h1:=R j a;refine⟨h1.1,zO,h1.2.2.1,λG=>?_⟩;rcases ai j G with h | h
      ·exact h1.2.2.2 h
      ·omega
     ·rcases ai j aw with h | h
      ·exact be j a h
      ·have:=(M.lt a).2;omega
  ·obtain rfl:q=next.length:=zO
   have dg:(next.map (EA cells f)).length=next.length:=k_ _
   rw[show(next.map (EA cells f)).take next.length=next.map (EA cells f) by rw[<-dg,zH]]at p;rw[show final.take next.length=final by rw[cy,zH]]at D;have dh:∀j,O_ vn j->H4.size<=j/\j<H5.size:=λj a=>p.lt a;obtain⟨xa,J,rfl,br,-⟩:=p.view (S':=λj=>H4.size<=j/\j<H5.size) dh (λj a=>by have:=I j a;omega);obtain⟨ya,W,rfl,di,-⟩:=D.view (S':=λj=>H4.size<=j/\j<H5.size) (λj a=>D.lt a) (λ_ f=>f.elim);have cr:=N.agr ap ⟨zO,zO⟩;have dj:b_ tI (λj=>H1.size<=j/\j<H2.size) H5 ra rc (U' f):=c5.frame (ap.mono λj a=>zO);refine L_ (cs:=AX ps (.slice ra f.length rc) (.slice xa (next.map (EA cells f)).length J) (.slice ya final.length W)) (by rw[b];exact Ec) (bi.cells λj v hv=>by rw[K_];exact hv) zA ?_;refine wM (cs:=AX ps (.slice ra f.length rc) (.slice xa (next.map (EA cells f)).length J) (.slice ya final.length W)) (by rw[b];rfl) cr (uK (by rw[b,Aq zZ])) (Bb rfl rfl rfl) ?_;intro H6 a4 y d3;rw[Ai (by rw[b,Aq zZ])]at a4;refine L_ (cs:=AX ps (.slice ra f.length rc) (.slice xa (next.map (EA cells f)).length J) (.slice ya final.length W)) (by rw[b];exact Ec) (a4.cells λj v hv=>by rw[K_];exact hv) zA ?_;have ct:∀j,H4.size<=j/\j<H5.size->C8 H H6 j:=λj a=>by unfold C8;have:=Bl X;omega
   refine⟨a3.trans (y.mono λj a=>by unfold H_ at a;omega),zO,⟨by simp only[Es];rw[ay];exact C,ra,rc,xa,J,ya,W,?_,?_,?_,?_⟩⟩
   ·simp only[Es,a2,ay,Cz]
   ·simp only[Es,a2];exact(dj.frame (y.mono λj a=>zO)).mono λj a=>by unfold C8;omega
   ·simp only[Es,a2];exact(br.frame (y.mono λj a=>zO)).mono ct
   ·exact(di.frame (y.mono λj a=>zO)).mono ct
def Jl(H:Aa):Aj prog 54 #[] H λv H'=>C_ (H_ H) H H'/\H.size<=H'.size/\Fb (C8 H H') H' v AC:=by refine Aj.of_vc func54 rfl (call54 _) (Ag _ (AX (Ai4 256 0) (.slice zV 0 0) (.slice zV 0 0) (.slice zV 0 0)) rfl zX ?_);intro p1 H1 C D t u;refine As AB [A_ 0] rfl rfl zQ zQ ?_;intro f H2 E F w n;refine As AB [A_ 0] rfl rfl zQ zQ ?_;intro m H3 G I y l;refine As Dt [.slice (T_ m) 1 1] rfl rfl zQ zQ ?_;intro g H4 J K A i;refine As C7 [.bool zU] rfl rfl zQ zQ ?_;intro k H5 L M B c;refine Az rfl rfl _ rfl (AX (Ai4 256 0) (.slice (T_ f) 1 1) (.slice (T_ g) 1 1) (.slice (T_ k) 1 1)) zX ?_;have o:=(((t.agr n (zO:p1<f)).agr l (zO:p1<m)).agr i (zO:p1<g)).agr c (zO:p1<k);have p:=((w.agr l (zO:f<m)).agr i (zO:f<g)).agr c (zO:f<k);have q:=(y.agr i (zO:m<g)).agr c (zO:m<k);have r:=A.agr c (zO:g<k);have a:(AX (Ai4 256 0) (.slice (T_ f) 1 1) (.slice (T_ g) 1 1) (.slice (T_ k) 1 1)).length=259:=Aq zZ;refine wM (cs:=AX (Ai4 256 0) (.slice (T_ f) 1 1) (.slice (T_ g) 1 1) (.slice (T_ k) 1 1)) (by rw[a];rfl) o (uK (by rw[a,Aq zZ])) (Bb rfl rfl rfl) ?_;intro H6 s d N;rw[Ai (by rw[a,Aq zZ])]at s;refine L_ (cs:=AX (Ai4 256 0) (.slice (T_ f) 1 1) (.slice (T_ g) 1 1) (.slice (T_ k) 1 1)) (by rw[a];exact Ec) (s.cells λj v O=>by rw[K_];exact O) zA ?_;have z:∀{b:Nat},R_ H6 b 3 [A_ 0]->C8 H H6 b->b_ tI (C8 H H6) H6 (T_ b) 1 [0]:=λh P=>b_.ofBlk h P (Ty.reps_one ⟨rfl,BK (x:=0) zQ⟩) rfl zQ;refine⟨((((((u.mono λj e=>by unfold H_ at e;omega).trans (n.mono λj e=>by unfold H_ at e;omega)).trans (l.mono λj e=>by unfold H_ at e;omega)).trans (i.mono λj e=>by unfold H_ at e;omega)).trans (c.mono λj e=>by unfold H_ at e;omega)).trans (d.mono λj e=>by unfold H_ at e;omega)),zO,by simp[AC],_,_,_,_,_,_,rfl,?_,?_,?_⟩;{exact z (p.agr d (zO:f≠p1)) ⟨zO,zO⟩};{exact b_.ofBlk (r.agr d (zO:g≠p1)) ⟨zO,zO⟩ (Ty.reps_one ⟨_,_,rfl,z (q.agr d (zO:m≠p1)) ⟨zO,zO⟩⟩) rfl zQ};{exact b_.ofBlk (B.agr d (zO:k≠p1)) ⟨zO,zO⟩ (Ty.reps_one rfl) rfl zQ}
def J9(cells:List (BitVec 256))(next:List (List Int))(final:List Bool):DM:=if BN cells next final.length then Es cells next final else AC
structure DM.Ok(D:DM):Prop where
 n1:1<=D.next.length
 n2:D.next.length<=65536
 fl:D.final.length=D.next.length
 cell:D.cell.length=256
 rows:∀row∈D.next,row.length<=256/\(∀c∈D.cell,0<=c/\c<(row.length:Int))/\∀t∈row,0<=t/\t<(D.next.length:Int)
def D0(D:DM)(q:Int)(b:Nat):Int:=if q<0\/(D.next.length:Int)<=q then -1 else((D.next[q.toNat]?).getD []).getD (D.cell.getD b 0).toNat 0
def KT(D:DM)(q:Int):Bool:=zT (0<=q)&&(D.final[q.toNat]?).getD zU
def K5{t:x_}(h:Fb S H v D)
  (k:∀ra rc na nc fa fc,v= .agg (AX D.cell (.slice ra D.reps.length rc) (.slice na D.next.length nc) (.slice fa D.final.length fc)).toArray->b_ tI S H ra rc D.reps->b_ FC S H na nc D.next->b_ AI S H fa fc D.final->
   New H (λb H'=>K (Y_ b) H') t (AX D.cell (.slice ra D.reps.length rc) (.slice na D.next.length nc) (.slice fa D.final.length fc))):BV prog (Instr.box t v) H K:=by obtain⟨e,ra,rc,na,nc,fa,fc,rfl,a,c,d⟩:=h;exact Cd (AX D.cell (.slice ra D.reps.length rc) (.slice na D.next.length nc) (.slice fa D.final.length fc)) rfl (k ra rc na nc fa fc rfl a c d)
def EY{row:List Int}(a:D.next[q]?=zY row)(d:D.cell[b]?=zY (c:Int))(e:row[c]?=zY t):D0 D (q:Int) b=t:=by have:=(V_.1 a).1;unfold D0;rw[G_ zO];simp only[zB,a,xE,d,sU,e]
def DM.Ok.at(h:D.Ok)(f:q<D.next.length)(g:b<256):∃row c t,D.next[q]?=zY row/\D.cell[b]?=zY ((c:Nat):Int)/\row[c]?=zY t/\c<256/\0<=t/\t<(D.next.length:Int)/\t∈row:=by have⟨row,d⟩:=Ab f;have⟨i,e⟩:=Ab (l:=D.cell) (k:=b) (by rw[h.cell];exact g);have⟨o,j,m⟩:=h.rows row (e_ d);have⟨n,p⟩:=j i (e_ e);obtain⟨c,rfl⟩:=xK n;have⟨t,a⟩:=Ab (l:=row) (k:=c) zO;have:=m t (e_ a);exact⟨row,c,t,d,e,a,zO,this.1,this.2,e_ a⟩
def KJ{q:Int}(A:∀k,S k->k<H.size)(h:Fb S H v D)(l:D.Ok)(m:b<256):
  BZ prog 64 #[v,A_ q,.int .u8 (b:Int)] H (.int .i64 (D0 D q b)):=by
 have f:=h.len;refine Aj.of_vc func64 rfl (call64 _) (K5 h λra rc na nc fa fc B L C M=>?_);subst B;intro pb H1 E F g o;have e:C_ (H_ H) H H1:=o.mono λj G=>by unfold H_ at G;omega
 cases q with|negSucc n=>have i:zT (Int.negSucc n<0)=zW:=m_ (oG n);(conv=>whnf);rw[i];(conv=>whnf);exact⟨by simp[D0,oG],e⟩|ofNat n=>refine F_ El ?_;refine D_ DC (by rw[g.cell,K_];exact Do f) zA ?_;by_cases p:D.next.length<=n;{have i:zT ((D.next.length:Int)<=Am2 n)=zW:=m_ (by simpa using p);(conv=>whnf);rw[i];(conv=>whnf);exact⟨by simp[D0,p],e⟩};{have i:zT ((D.next.length:Int)<=Am2 n)=zU:=j_ (by simpa using p);obtain⟨row,c,t,s,u,w,r,_⟩:=l.at (q:=n) (b:=b) zO m;(conv=>whnf);rw[i];refine Ap.lex rfl zX (F_ El ?_);refine D_ DC (by rw[g.cell,K_];exact Do f) zA ?_;refine Y' Dt (C.frame (e.mono A)) s rfl ?_;rintro N O I y a ⟨P,Q,rfl,J⟩;refine lT C9 a.one ?_;(conv=>whnf);rw[U_ (x:=(b:Int)) zO];refine F_ Va (s_ nH zO zO ?_);refine D_ (v:=A_ c) E_ (by rw[g.cell,(zO:0+0+(b:Int).toNat*1=b)];exact Wi u) zA ?_;refine Y' AB J w rfl ?_;rintro R T K z d ⟨rfl,-⟩;refine lT E_ d.one ?_;(conv=>whnf);exact⟨by rw[show Am2 n=(n:Int)from rfl,EY s u w],e⟩}
def OS{pb:Nat}{na fa:Option Addr}{rc nc fc:Nat}{K:v_->Prop}(b:R_ H pb 43 (AX D.cell (.slice ra D.reps.length rc) (.slice na D.next.length nc) (.slice fa D.final.length fc)))(a:D.cell.length=256)(c:B pb)
  (d:b_ tI S H ra rc D.reps) (e:b_ FC S H na nc D.next) (f:b_ AI S H fa fc D.final) (k:∀v,Fb S H v D->K v):AO prog (Instr.loadAt 43 (Y_ pb)) B H K:=
 L_ (cs:=AX D.cell (.slice ra D.reps.length rc) (.slice na D.next.length nc) (.slice fa D.final.length fc)) (by rw[Aq a];exact Ec) (b.cells λj v g=>by rw[K_];exact g) c (k _ ⟨a,ra,rc,na,nc,fa,fc,rfl,d,e,f⟩)
def nf(u:List Bool):Nat:=(u.filter λx=> !x).length
def ZN:∀{u:List Bool} {q:Nat},u[q]?=zY zU->nf (u.set q zW)<nf u
 | [],q,h=>by simp at h
 | x::u,0,h=>by
   simp only[wH,AjO.injEq]at h;subst h;simp[nf]
 | x::u,q+1,h=>by
   have a:=ZN (u:=u) (q:=q) (by simpa using h);unfold nf at a ⊢;simp only[List.set_cons_succ,List.filter_cons];split<;>simp<;>omega
open Classical in
noncomputable def Jx(D:DM):List Bool:=(AiN D.next.length).map λq=>zT (EC D.next D.final q)
structure U6(D:DM)(u:List Bool):Prop where
 len:u.length=D.next.length
 live:∀q:Nat,u[q]?=zY zW->EC D.next D.final q
 fin:∀q:Nat,D.final[q]?=zY zW->u[q]?=zY zW
def Iv(D:DM)(u:List Bool)(q:Nat):Prop:=u[q]?=zY zW\/∀(row:List Int) (t:Nat),D.next[q]?=zY row->(t:Int)∈row->u[t]? ≠zY zW
def P'(h:U6 D u)(hs:∀q,q<D.next.length->Iv D u q):∀{q:Nat},EC D.next D.final q->u[q]?=zY zW:=by intro q c;induction c with|fin d=>exact h.fin _ d|step b e _ f=>{rcases hs _ (V_.1 b).1 with a | a;{exact a};{exact absurd f (a _ _ b e)}}
open Classical in
def XF(h:U6 D u)(hs:∀q,q<D.next.length->Iv D u q):u=Jx D:=by apply yW;intro q;by_cases b:q<D.next.length;{have⟨x,a⟩:=Ab (l:=u) (k:=q) (by rw[h.len];exact b);unfold Jx;rw[I',wS b,a];simp only[wB,AjO.injEq];cases x with|true=>exact(m_ (h.live q a)).symm|false=>exact(j_ λc=>by have:=P' h hs c;rw[a]at this;cases this).symm};{rw[zE (by rw[h.len];omega),zE (by simp[Jx];omega)]}
def AgV{t:Nat}{row:List Int}(h:U6 D u)(b:D.next[q]?=zY row)(c:(t:Int)∈row)(d:u[t]?=zY zW):U6 D (u.set q zW):=by have f:=(V_.1 b).1;refine⟨by simp[h.len],λp a=>?_,λp a=>?_⟩;{rw[xV]at a;split at a;{rename_i e;subst e;exact .step b c (h.live t d)};{exact h.live p a}};{rw[xV];split;{rename_i e;subst e;rw[I_ (by rw[h.len];exact f)]};{exact h.fin p a}}
def fV(hS:∀k,S k->k<H.size)(h:Fb S H v D)(V:D.Ok):
  Aj prog 165 #[v] H λv H'=>C_ (H_ H) H H'/\H.size<=H'.size/\∃a cap,v= .slice a (Jx D).length cap/\b_ AI (C8 H H') H' a cap (Jx D):=by
 have s:=h.len;have cj:=V.n1;have ck:=V.n2;have a4:=V.fl;refine Aj.of_vc func165 rfl (call165 _) (K5 h λra rc na nc fa fc he h1 h2 h3=>?_);subst he;intro pb H1 cm co az b0;have b4:C_ (H_ H) H H1:=b0.mono λj g=>by unfold H_ at g;omega
 refine aC C7 ?_;intro q2 H2 cp cq b5 ag;have W:C_ (H_ H) H H2:=b4.trans (ag.mono λj g=>by unfold H_ at g;omega);have a2:=az.agr ag (zO:pb<q2);refine F_ Cl ?_;refine D_ Dn (by rw[a2.cell,K_];exact Ek s) zA ?_;refine aQ b5 (S:=S) (λk hk=>⟨Af W (hS k hk),by have:=hS k hk;omega⟩) (h3.frame (W.mono hS)) zO ?_;intro v3 H3 ah ai cr;have b6:C_ (H_ H) H H3:=W.trans (ai.mono λj g=>⟨Af W g,by unfold H_ at g;omega⟩);have aj:=a2.agr ai ⟨zO,zO⟩;have⟨f0,ct⟩:=Ab (l:=D.final) (k:=0) zO;obtain⟨T,A,ul,cu,e3,c6,a5,-,-,-,-⟩:=ah.place (i:=0) zO;subst e3;have bd:=a5.lt;(conv=>whnf);refine Ay.mk [4] (λx:Bool×List Bool=>match x with | (more,u)=>[.bool more]) (λx H4=>U6 D x.2/\C_ (λj=>j≠T) H3 H4/\H4.size=H3.size/\X_ AI (λ_=>False) H4 q2 4 (.slice (T_ T) D.final.length A) x.2/\(x.1=zU->∀q,q<D.next.length->Iv D x.2 q)) (λx _=>2*nf x.2+if x.1 then 1 else 0) ?_ ?_;{(conv=>whnf);refine⟨(zW,D.final),rfl,⟨a4,λq hq=>.fin hq,λq hq=>hq⟩,C_.refl _ _,rfl,ah,λh=>by cases h⟩};{rintro⟨more,K⟩ H4 c7 ⟨a6,a7,cw,L,ak⟩;simp only at a6 L ak;have a8:pb≠T:=zO;have am:C_ (H_ H) H H4:=b6.trans (a7.mono λj g=>by unfold H_ at g;omega);have a3:=aj.agr a7 a8;refine AD.mk (λw=>?_) (λw=>?_);{subst w;refine F_ El ?_;refine D_ DC (by rw[a3.cell,K_];exact Do s) zA ?_;(conv=>whnf);rw[U_ (x:=(D.next.length:Int)-1) zO];(conv=>whnf);refine Ay.mk [4,5] (λx:Bool×List Bool×Nat=>match x with | (mo,u,n)=>[.bool mo,A_ ((D.next.length:Int)-1-n)]) (λx H5=>x.2.2<=D.next.length/\U6 D x.2.1/\C_ (λj=>j≠T) H4 H5/\H5.size=H4.size/\X_ AI (λ_=>False) H5 q2 4 (.slice (T_ T) D.final.length A) x.2.1/\ ((x.1=zU/\x.2.1=K/\∀q,D.next.length-x.2.2<=q->q<D.next.length->Iv D K q)\/(x.1=zW/\nf x.2.1<nf K))) (λx _=>D.next.length-x.2.2) ?_ ?_;{(conv=>whnf);exact⟨(zU,K,0),zZ,zZ,a6,C_.refl _ _,rfl,L,.inl ⟨rfl,rfl,λq h1 h2=>by simp only at h1;omega⟩⟩};{rintro⟨mo,u,n⟩ H5 be ⟨bf,M,N,cx,a9,r⟩;simp only at bf M a9 r;have bg:C_ (H_ H) H H5:=am.trans (N.mono λj g=>by unfold H_ at g;omega);have ao:=a3.agr N a8;refine AD.m2 (λh=>?_) (λh=>?_);{have bh:(D.next.length:Int)-1-(n:Int)=((D.next.length-1-n:Nat):Int):=zO;rw[bh];have bi:D.next.length-1-n<D.next.length:=zO;generalize hq:D.next.length-1-n=q at*;have⟨row,m⟩:=Ab bi;have bj:=V.rows row (e_ m);(conv=>whnf);refine Ay.mk [4,6] (λx:Bool×List Bool×Nat=>match x with | (mo,u,k)=>[.bool mo,A_ k]) (λx H6=>x.2.2<=row.length/\U6 D x.2.1/\C_ (λj=>j≠T) H5 H6/\H6.size=H5.size/\X_ AI (λ_=>False) H6 q2 4 (.slice (T_ T) D.final.length A) x.2.1/\ ((x.1=zU/\x.2.1=K/\(∀U,D.next.length-n<=U->U<D.next.length->Iv D K U)/\∀(i t:Nat),i<x.2.2->row[i]?=zY (t:Int)->K[t]? ≠zY zW)\/(x.1=zW/\nf x.2.1<nf K))) (λx _=>row.length-x.2.2) ?_ ?_;{(conv=>whnf);refine⟨(mo,u,0),rfl,zZ,M,C_.refl _ _,rfl,a9,?_⟩;rcases r with⟨E,B,X⟩ | c;{exact .inl ⟨E,B,X,λi t hi=>by simp only at hi;omega⟩};{exact .inr c}};{rintro⟨O,Y,k⟩ H6 bm ⟨hk,p,F,cy,G,b⟩;simp only at hk p G b;have ab:C_ (H_ H) H H6:=bg.trans (F.mono λj g=>by unfold H_ at g;omega);have P:=ao.agr F a8;have ap:=p.len;have⟨x,hx⟩:=Ab (l:=Y) (k:=q) zO;have aq:b_ AI (λj=>j=T) H6 (T_ T) A Y:=by{obtain⟨a,cap,e,hd,-⟩:=G.view (S':=λj=>j=T) (λj g=>by have⟨o,n,c,e⟩:=g;cases e;rfl) (λ_ f=>f.elim);injection e with e1 e2 e3;subst e1;subst e3;exact hd};have done:(x=zW\/k=row.length)->((O=zU/\Y=K/\∀U,D.next.length-(n+1)<=U->U<D.next.length->Iv D K U)\/(O=zW/\nf Y<nf K)):=by{intro C;rcases b with⟨E,B,X,c4⟩ | c;{refine .inl ⟨E,B,λU h1 h2=>?_⟩;by_cases bn:U=q;{subst bn;rcases C with C | C;{rw[C]at hx;rw[<-B];exact .inl hx};{refine .inr λc8 t ar ht=>?_;rw[m]at ar;cases ar;have⟨i,hi⟩:=xI ht;exact c4 i t (by have:=(V_.1 hi).1;omega) hi}};{exact X U zO h2}};{exact .inr c}};by_cases bo:k<row.length;{have d1:zT ((k:Int)<(row.length:Int))=zW:=l_;refine F_ El ?_;refine D_ DC (by rw[P.cell,K_];exact Do s) zA ?_;refine Y' Dt (h2.frame (ab.mono hS)) m rfl ?_;rintro b7 o7 bp au d ⟨xa,xc,rfl,bq⟩;refine lT C9 d.one ?_;(conv=>whnf);rw[d1];refine EK C7 aq (by rw[ap,a4]) hx rfl ?_;rintro b8 o8 cz c9 Q rfl;refine lT M' Q.one ?_;cases x with|true=>(conv=>whnf);rw[U_ (x:=(q:Int)-1) zO];exact⟨rfl,(O,Y,n+1),by simp;omega,⟨by simp only;omega,p,N.trans F,zO,G,done (.inl rfl)⟩,by simp only;omega⟩|false=>{have⟨ti,Z⟩:=Ab bo;have br:=bj.2.2 ti (e_ Z);obtain⟨t,rfl⟩:=xK br.1;have⟨y,hy⟩:=Ab (l:=Y) (k:=t) zO;refine Au.run (F_ El ?_);refine D_ DC (by rw[P.cell,K_];exact Do s) zA ?_;refine Y' Dt (h2.frame (ab.mono hS)) m rfl ?_;rintro b9 o9 d0 cd R ⟨za,zc,rfl,bu⟩;refine D_ C9 R.one zA (Y' AB bu Z rfl ?_);rintro d2 d3 ce bv I ⟨rfl,-⟩;refine D_ E_ I.one zA (EK C7 aq (by rw[ap,a4]) hy rfl ?_);rintro d4 d5 cg bw J rfl;refine lT M' J.one ?_;cases y with|true=>{obtain⟨-,-,-,bx,a0,ay,-,a1⟩:=G.placeS (i:=q) zO;have d6:q*AI.size=q:=zG q;have ch:AI.size=1:=rfl;refine ix C7 zO zO (J_ M' a0 zO rfl ?_);intro H12 z aw ci;rw[show 0+(q:Int).toNat*1=q*AI.size by show 0+(q:Int).toNat*1=q*1;omega]at z;have ax:=a1 H12 [.bool zW] zW (by rw[<-LB (zO:q*AI.size<bx.length)]at z;exact z) (λj g=>g.elim) rfl;have bz:=ZN hx;(conv=>whnf);rw[Q_ k zO];refine⟨rfl,(zW,Y.set q zW,k+1),zZ,⟨by simp only;omega,AgV p m (e_ Z) hy,F.trans (aw.mono λj g=>g),zO,ax,.inr ⟨rfl,?_⟩⟩,by simp only;omega⟩;rcases b with⟨E,B,X,c4⟩ | c;{simp only;rw[<-B];exact bz};{simp only;omega}}|false=>{(conv=>whnf);rw[Q_ k zO];refine⟨rfl,(O,Y,k+1),zZ,⟨by simp only;omega,p,F,zO,G,?_⟩,by simp only;omega⟩;rcases b with⟨E,B,X,c4⟩ | c;{refine .inl ⟨E,B,X,λi t' hi ae=>?_⟩;simp only at hi;by_cases c5:i=k;{subst c5;rw[Z]at ae;have:t'=t:=by{have:=AjO.inj ae;omega};subst this;rw[<-B,hy];simp};{exact c4 i t' zO ae}};{exact .inr c}}}};{have d1:zT ((k:Int)<(row.length:Int))=zU:=Z_;refine F_ El ?_;refine D_ DC (by rw[P.cell,K_];exact Do s) zA ?_;refine Y' Dt (h2.frame (ab.mono hS)) m rfl ?_;rintro b7 o7 bp au d ⟨xa,xc,rfl,bq⟩;refine lT C9 d.one ?_;(conv=>whnf);rw[d1];(conv=>whnf);rw[U_ (x:=(q:Int)-1) zO];exact⟨rfl,(O,Y,n+1),by simp;omega,⟨by simp only;omega,p,N.trans F,zO,G,done (.inr zO)⟩,by simp only;omega⟩}}};{obtain rfl:n=D.next.length:=zO;(conv=>whnf);refine⟨rfl,(mo,u),rfl,⟨M,a7.trans N,zO,a9,λhm=>?_⟩,?_⟩;{rcases r with⟨E,B,X⟩ | ⟨E,_⟩;{simp only;rw[B];exact λq hq=>X q zO hq};{simp only at hm;rw[E]at hm;cases hm}};{rcases r with⟨E,B,X⟩ | ⟨E,B⟩;{subst E;subst B;simp};{subst E;simp;omega}}}}};{subst w;have hu:=XF a6 (ak rfl);(conv=>whnf);obtain⟨a,cap,e,hd,-⟩:=L.view (S':=C8 H H4) (λj g=>⟨by have:=(L.lt g).1;omega,(L.lt g).2⟩) (λ_ f=>f.elim);rw[hu]at hd e;exact⟨am,zO,a,cap,e,hd⟩}}
open Classical in
noncomputable def Ri(D:DM)(q:Int):Bool:=zT (EC D.next D.final q.toNat)
def N3(a:D.Ok){q:Int}(h0:0<=q)(j:q<D.next.length)(d:b<256):0<=D0 D q b/\D0 D q b<D.next.length:=by obtain⟨n,rfl⟩:=xK h0;obtain⟨row,c,t,e,f,g,_,h,i,_⟩:=a.at (q:=n) (b:=b) zO d;rw[EY e f g];exact⟨h,i⟩
end
section
structure MOk2(next:List (List Int))(cells:List (BitVec 256))(b:Nat)(st:MS):Prop where
 at_:∀(i p:Nat),st.cell[i]?=zY p->∃c,st.cols[p]?=zY c/\FK next c (Ba cells i)=zW
 some_:∀p,p<st.cols.length->∃i,i<b/\st.cell[i]?=zY p
def S9(next:List (List Int))(c:Nat):FK next c c=zW:=by simp[FK]
def Pe{next:List (List Int)}{cells:List (BitVec 256)}{sp:Nat->BitVec 256}(o:∀b,b<256->Ba cells b<cells.length):∀b,b<=256->MOk2 next cells b (Bt next cells sp b)
 | 0,_=>⟨(λi p h=>by simp[Bt]at h),(λp h=>by simp[Bt]at h)⟩
 | b+1,hb=>by
   have g:=Pe (next:=next) (sp:=sp) o b zO;have a:=Hd (next:=next) (sp:=sp) o b zO;unfold Bt Pf I1;cases q:Mc next (Bt next cells sp b).cols (Ba cells b)with
   | some k=>
     unfold Mc at q;obtain⟨r,l,_⟩:=vP.1 q;refine⟨λi p h=>?_,λp j=>?_⟩
     ·simp only at h ⊢;by_cases d:i<b
      ·rw[zR (by rw[a.cell];exact d)]at h;exact g.at_ i p h
      ·rw[zL (by rw[a.cell];omega),a.cell]at h;have m:=(V_.1 h).1;simp only[i_]at m;rw[(zO:i-b=0),wH]at h;cases h;rw[(zO:i=b)];exact⟨_,yI r,l⟩
     ·simp only at j ⊢;have⟨i,e,f⟩:=g.some_ p j;exact⟨i,zO,by rw[zR (by rw[a.cell];exact e)];exact f⟩
   | none=>
     refine⟨λi p h=>?_,λp j=>?_⟩
     ·simp only at h ⊢;by_cases d:i<b
      ·rw[zR (by rw[a.cell];exact d)]at h;have⟨c,e,f⟩:=g.at_ i p h;exact⟨c,by rw[zR (V_.1 e).1];exact e,f⟩
      ·rw[zL (by rw[a.cell];omega),a.cell]at h;have m:=(V_.1 h).1;simp only[i_]at m;rw[(zO:i-b=0),wH]at h;cases h;rw[(zO:i=b)];exact⟨Ba cells b,zZ,S9 _ _⟩
     ·simp only[M_,i_]at j ⊢;by_cases n:p<(Bt next cells sp b).cols.length
      ·have⟨i,e,f⟩:=g.some_ p n;exact⟨i,zO,by rw[zR (by rw[a.cell];exact e)];exact f⟩
      ·exact⟨b,zO,by rw[zL (by rw[a.cell];omega),a.cell,wP,wH];congr 1;omega⟩
attribute [local irreducible] Bt Am
def UB{next:List (List Int)}{d:Nat}{row:List Int}(h:FK next c d=zW)(a:row∈next):row[c]?=row[d]? :=by unfold FK at h;simp only[Bool.or_eq_true,beq_iff_eq,zM]at h;rcases h with h | h;{rw[h]};{exact h row a}
section
variable{cells:List (BitVec 256)}
def gY{a:Nat}(h:Ci cells a b=zW):Ba cells a=Ba cells b:=by unfold Ba;unfold Ci at h;rw[zM]at h;induction cells with|nil=>rfl|cons c g d=>have e:c.getLsbD a=c.getLsbD b:=by{simpa using h c xY};rw[hQ,hQ,e,d λx f=>h x (xQ _ f)]
def Pg{next:List (List Int)}{final:List Bool}{row:List Int}(i:next[q]?=zY row)(j:b<256):D0 (Es cells next final) (q:Int) b=row.getD (Ba cells b) 0:=by have a:=CP cells 256;have⟨p,e⟩:=Ab (l:=(Am cells 256).2) (k:=b) (by rw[a.plen];exact j);have f:=a.lt p (e_ e);have⟨g,h⟩:=Ab f;have d:=(a.sig b p g e h).1;refine EY (row:=EA cells (Am cells 256).1 row) (c:=p) (by simp only[Es];rw[I',i];rfl) (by simp only[Es];exact GX e) ?_;unfold EA;rw[I',h];simp only[wB,gY d]
end
section
variable{cells:List (BitVec 256)}{next:List (List Int)}{final:List Bool}(hs:BN cells next final.length=zW)
include hs
def MH{row:List Int}(f:next[q]?=zY row)(d:b<256):∃g p,(Cn cells next final).next[q]?=zY g/\(Cn cells next final).cell[b]?=zY p/\g[p]?=zY (row.getD (Ba cells b) 0):=by have h:=λb d=>(BQ hs (b:=b) d).1;have j:=Hd (next:=next) (sp:=λb=>AL b b) h 256 (N_ _);have m:=Pe (next:=next) (sp:=λb=>AL b b) h 256 (N_ _);have⟨p,i⟩:=Ab (l:=(Bt next cells (λb=>AL b b) 256).cell) (k:=b) (by rw[j.cell];exact d);have⟨c,a,e⟩:=m.at_ b p i;refine⟨HL (Bt next cells (λb=>AL b b) 256).cols row,p,by simp only[Cn];rw[I',f];rfl,i,?_⟩;unfold HL;rw[I',a];simp only[wB,AjO.injEq];rw[xE,xE,UB e (e_ f)]
def FT{row:List Int}(c:next[q]?=zY row)(d:b<256):AR (zY (Cn cells next final)) (q:Int) b=row.getD (Ba cells b) 0:=by have⟨g,p,a,e,f⟩:=MH hs c d;have:=(V_.1 a).1;unfold AR;rw[G_ (by simp[stN];omega)];simp only[zB,a,xE,e,sU,f]
def TG:(Es cells next final).Ok:=by have⟨j,k,l,b⟩:=E0 hs;have a:=CP cells 256;refine⟨by simpa [Es]using j,by simpa [Es]using k,by simp[Es,l],by simp[Es,Cz,a.plen],λrow d=>?_⟩;simp only[Es,yQ]at d;obtain⟨r,d,rfl⟩:=d;have⟨s,m⟩:=b r d;have e:=a.flen;refine⟨by rw[Mo];exact e,λc f=>?_,λt h=>?_⟩;{simp only[Es,U',yQ]at f;obtain⟨p,n,rfl⟩:=f;have:=a.lt p n;rw[Mo];omega};{unfold EA at h;obtain⟨g,o,rfl⟩:=yQ.1 h;have⟨i,q⟩:=xI o;have f:=(BQ hs (a.first i g q).1).1;simp only[Es,k_];rw[xE,yI zO,sU];exact m _ (hU _)}
end
def EC.sub{b c:List (List Int)}{final:List Bool}(h:∀(q:Nat) row (t:Nat),b[q]?=zY row->(t:Int)∈row->∃a,c[q]?=zY a/\(t:Int)∈a)(d:EC b final q):EC c final q:=by induction d with|fin e=>exact .fin e|step f g _ i=>have⟨a,j,k⟩:=h _ _ _ f g;exact .step j k i
def XB{cells:List (BitVec 256)}{next:List (List Int)}{final:List Bool}(hs:BN cells next final.length=zW)(q:Nat):EC (Cn cells next final).next final q↔EC (Es cells next final).next final q:=by
 have n:=CP cells 256;have A:=TH hs;have w:=λb h=>(BQ hs (b:=b) h).1;have B:=Pe (next:=next) (sp:=λb=>AL b b) w 256 (N_ _);constructor;{
 refine EC.sub λq o t d k=>?_;have l:q<next.length:=by have:=(V_.1 d).1;simpa [Cn]using this
 have⟨row,a⟩:=Ab l;have⟨p,x⟩:=xI k;have r:=(A.rows o (e_ d)).1;have s:p<(Bt next cells (λb=>AL b b) 256).cols.length:=by{have y:=(V_.1 x).1;have C:=Hd (next:=next) (sp:=λb=>AL b b) w 256 (N_ _);rw[r]at y;rw[C.len];exact y};have⟨b,h,e⟩:=B.some_ p s;have L:=FT hs a h;have⟨D,E,g1,g2,m⟩:=MH hs a h;rw[d]at g1;cases g1;have:E=p:=by{have:(Cn cells next final).cell[b]?=zY p:=e;rw[this]at g2;exact(AjO.inj g2).symm};subst this;rw[x]at m;have e2:=Pg (cells:=cells) (final:=final) a h;obtain⟨j,c,M,z,F,G,_,_,_,H⟩:=(TG hs).at (q:=q) (b:=b) (by simpa [Es]using l) h;rw[EY z F G]at e2;refine⟨j,z,?_⟩;rw[AjO.inj m,<-e2];exact H};{
 refine EC.sub λq I t d k=>?_;have l:q<next.length:=by have:=(V_.1 d).1;simpa [Es]using this
 have⟨row,a⟩:=Ab l;have u:I=EA cells (Am cells 256).1 row:=by{simp only[Es]at d;rw[I',a]at d;exact(AjO.inj d).symm};subst u;unfold EA at k;have⟨g,J,v⟩:=yQ.1 k;have⟨i,K⟩:=xI J;have f:=(n.first i g K).1;have⟨o,p,g1,g2,m⟩:=MH hs a f;exact⟨o,g1,by rw[<-v];exact e_ m⟩}
section
variable(cells:List (BitVec 256))(next:List (List Int))(final:List Bool)
def Zb:(J9 cells next final).Ok:=by unfold J9;split;{rename_i h;exact TG h};{refine⟨zQ,zQ,rfl,by simp[AC],λrow a=>?_⟩;simp only[AC,g_]at a;subst a;refine⟨zQ,λc b=>?_,λt d=>?_⟩;{simp only[AC]at b;rw[hC b];decide};{rw[g_.1 d];decide}}
def YH:(stN (Fc cells next final):Nat)=(J9 cells next final).next.length:=by unfold Fc J9;split;{simp[stN,Cn,Es]};{rfl}
def Xn(q:Int)(e:b<256):AR (Fc cells next final) q b=D0 (J9 cells next final) q b:=by
 have g:=YH cells next final
 by_cases d:q<0\/((J9 cells next final).next.length:Int)<=q;{unfold AR D0;rw[I_ d,I_ (by rw[g];exact d)]};{obtain⟨n,rfl⟩:=xK (zO:0<=q);unfold Fc J9 at*;split;{rename_i hs;rw[I_ hs]at d;have⟨row,a⟩:=Ab (l:=next) (k:=n) (by simp only[Es,k_]at d;omega);rw[FT hs a e,Pg (cells:=cells) (final:=final) a e]};{rename_i hs;rw[G_ hs]at d;have f:n=0:=by{have:AC.next.length=1:=rfl;omega};subst f;rw[EY (row:=[0]) (c:=0) (t:=0) rfl (by simp only[AC];rw[List.getElem?_replicate,I_ e]<;>rfl) rfl];rfl}}
def UL(q:Int):Bk (Fc cells next final) q=KT (J9 cells next final) q:=by unfold Fc J9;split;{rfl};{unfold Bk KT;by_cases h:q.toNat=0;{rw[h];simp[AC]};{have:AC.final[q.toNat]?=zV:=zE (by show 1<=_;omega);rw[this];simp}}
open Classical in
def UK(q:Int):Rj (Fc cells next final) q=Ri (J9 cells next final) q:=by unfold Fc J9;split;{rename_i hs;unfold Rj Ri;exact decide_eq_decide.2 (XB hs q.toNat)};{unfold Rj Ri;have:∀q,¬EC AC.next AC.final q:=λq a=>by{induction a with|@fin q hf=>have:q<1:=(V_.1 hf).1;have:q=0:=zO;subst this;simp[AC]at hf|step _ _ _ b=>exact b};exact(j_ (this _)).symm}
end
end
section
attribute [local irreducible] Bt Am
end
section
def AH(sim:Nat->Nat->Bool):Nat->List Nat×List Nat
 | 0=>([],[])
 | b+1=>match(AH sim b).1.findIdx? λg=>sim b g with
   | some k=>((AH sim b).1,(AH sim b).2++[k])
   | none=>((AH sim b).1++[b],(AH sim b).2++[(AH sim b).1.length])
structure GrOk(sim:Nat->Nat->Bool)(b:Nat)(f ps:List Nat):Prop where
 plen:ps.length=b
 flen:f.length<=b
 lt:∀p∈ps,p<f.length
 first:∀(k g:Nat),f[k]?=zY g->g<b/\ps[g]?=zY k
 sig:∀(i p g:Nat),ps[i]?=zY p->f[p]?=zY g->sim i g=zW/\g<=i
def Jh{sim:Nat->Nat->Bool}(v:∀a,sim a a=zW):∀b,GrOk sim b (AH sim b).1 (AH sim b).2
 | 0=>⟨rfl,N_ _,(λp h=>by cases h),(λk g h=>by cases h),(λi p g h=>by cases h)⟩
 | b+1=>by
   have c:=Jh v b;unfold AH;split
   ·rename_i k r;rw[vP]at r;obtain⟨j,n,_⟩:=r;refine⟨by simp[c.plen],by have:=c.flen;simp only;omega,λp o=>?_,λq g d=>?_,λi p g e d=>?_⟩
    ·rcases X'.1 o with h | h
     ·exact c.lt p h
     ·rw[g_]at h;subst h;exact j
    ·have⟨s,t⟩:=c.first q g d
     exact⟨zO,by simp only;rw[zR (by rw[c.plen];exact s)];exact t⟩
    ·simp only at e d;by_cases l:i<b
     ·rw[zR (by rw[c.plen];exact l)]at e;exact c.sig i p g e d
     ·rw[zL (by rw[c.plen];omega),c.plen]at e;have m:i-b=0:=by
       have:=(V_.1 e).1;simp only[i_]at this;omega
      rw[m,wH]at e;cases e;rw[yI j]at d;cases d;have f:i=b:=zO
      subst f;exact⟨n,by have:=(c.first _ _ (yI j)).1;omega⟩
   ·rename_i r;refine⟨by simp[c.plen],by have:=c.flen;simp;omega,λp o=>?_,λq g d=>?_,λi p g e d=>?_⟩
    ·simp only[M_,i_];rcases X'.1 o with h | h
     ·have:=c.lt p h;omega
     ·rw[g_]at h;subst h;omega
    ·simp only at d ⊢;by_cases u:q<(AH sim b).1.length
     ·rw[zR u]at d;have⟨s,t⟩:=c.first q g d
      exact⟨zO,by rw[zR (by rw[c.plen];exact s)];exact t⟩
     ·rw[zL zO]at d;have w:=(V_.1 d).1;simp only[i_]at w;rw[(zO:q-(AH sim b).1.length=0),wH]at d;cases d;exact⟨zO,by rw[zL (by rw[c.plen];omega),c.plen,wP,wH];congr 1;omega⟩
    ·simp only at e d;by_cases l:i<b
     ·rw[zR (by rw[c.plen];exact l)]at e;have o:=c.lt p (e_ e);rw[zR o]at d;exact c.sig i p g e d
     ·rw[zL (by rw[c.plen];omega),c.plen]at e;have m:i-b=0:=by
       have:=(V_.1 e).1;simp only[i_]at this;omega
      rw[m,wH]at e;cases e;rw[zL (N_ _),wP,wH]at d;cases d;have f:i=b:=zO
      subst f;exact⟨v _,N_ _⟩
def KB{k:Nat}(h:(AH sim b).1.findIdx? (λg=>sim b g)=zY k):AH sim (b+1)=((AH sim b).1,(AH sim b).2++[k]):=by rw[AH,h]
def MB(h:(AH sim b).1.findIdx? (λg=>sim b g)=zV):AH sim (b+1)=((AH sim b).1++[b],(AH sim b).2++[(AH sim b).1.length]):=by rw[AH,h]
def Q2{next:List (List Int)}{cells:List (BitVec 256)}(m:∀b,b<256->Ba cells b<cells.length):∀b,b<=256->∀(k:Nat) (x:BitVec 256),(Bt next cells (λb=>AL b b) b).sets[k]?=zY x->∀i,i<256->x.getLsbD i=Dh (Bt next cells (λb=>AL b b) b).cell k i
 | 0,_=>λk x h=>by simp[Bt]at h
 | b+1,hb=>λk x h i n=>by
   have u:=Q2 (next:=next) m b zO;have e:=Hd (next:=next) (sp:=λb=>AL b b) m b zO;generalize w:Bt next cells (λb=>AL b b) b=a at*
   rw[Bt,w]at h ⊢;unfold Pf at h ⊢;simp only at h ⊢;generalize g:I1 next a.cols a.sets (Ba cells b)=r at*
   have l:=RO (next:=next) (f:=Ba cells b) e.len e.le e.cols (m b zO);rw[g]at l;have o:r.2.2<r.2.1.length:=zO
   have hold:∀(k:Nat) (y:BitVec 256),r.2.1[k]?=zY y->y.getLsbD i=Dh a.cell k i:=by
    intro k y c;unfold I1 at g;cases v:Mc next a.cols (Ba cells b)with
    | some j=>
      rw[v]at g;subst g;exact u k y c i n
    | none=>
      rw[v]at g;subst g;simp only at c;by_cases d:k<a.sets.length
      ·rw[zR d]at c;exact u k y c i n
      ·rw[zL zO]at c;have z:=(V_.1 c).1;simp only[i_]at z;rw[(zO:k-a.sets.length=0),wH]at c;cases c;have:Dh a.cell k i=zU:=by
        unfold Dh;cases q:a.cell[i]? with
        | none=>rfl
        | some p=>
          have:=e.places p (e_ q);have:=e.len;simp;omega
       rw[this];simp
   have s:∀k,Dh (a.cell++[r.2.2]) k i=((zT (i=b)&&zT (k=r.2.2))|| Dh a.cell k i):=by
    intro k;unfold Dh;have t:=e.cell;rcases mP i b with h | h | h
    ·rw[zR zO,Z_];simp
    ·subst h;rw[zL zO,t,wP,wH,zE zO];by_cases d:k=r.2.2<;>simp[d];exact λh=>d h.symm
    ·rw[zE (by simp;omega),zE zO,Z_];simp
   rw[s];by_cases d:k=r.2.2
   ·subst d;rw[yP o]at h;cases h;rw[rF,xE,yI o,sU,hold _ _ (yI o),Dl b b i n];have:(zT (b<=i)&&zT (i<=b))=zT (i=b):=by
     by_cases h:i=b
     ·subst h;simp
     ·rw[j_ h];rcases sM i b with A | A
      ·rw[Z_];rfl
      ·rw[j_ (show¬i<=b by omega)];simp
    rw[this];simp[Bool.or_comm]
   ·rw[xC (Ne.symm d)]at h;rw[j_ d,hold k x h];simp
def Js(next:List (List Int))(cells:List (BitVec 256))(b g:Nat):Bool:=next.all λrow=>row.getD (Ba cells b) 0==row.getD (Ba cells g) 0
def Xk{cells:List (BitVec 256)}{next:List (List Int)}{fl:Nat}(hs:BN cells next fl=zW)(i:b<256)(j:g<256):FK next (Ba cells g) (Ba cells b)=Js next cells b g:=by
 obtain⟨_,_,_,a⟩:=E0 hs;have k:=(BQ hs i).1;have l:=(BQ hs j).1;have d:∀row∈next,(row[Ba cells g]?==row[Ba cells b]?)=(row.getD (Ba cells b) 0==row.getD (Ba cells g) 0):=by{intro row c;have m:=(a row c).1;rw[xE,xE,yI zO,yI zO];simp only[sU];rw[qH];simp only[beq_iff_eq,AjO.injEq];exact eq_comm}
 unfold FK Js;have e:(next.all λrow=>row[Ba cells g]?==row[Ba cells b]?)=next.all λrow=>row.getD (Ba cells b) 0==row.getD (Ba cells g) 0:=by{rw[qH,zM,zM];constructor;{intro h row c;rw[<-d row c];exact h row c};{intro h row c;rw[d row c];exact h row c}}
 rw[e];by_cases f:Ba cells g=Ba cells b;{rw[f];simp};{have:(Ba cells g==Ba cells b)=zU:=by{simpa using f};rw[this];rfl}
def MV(next:List (List Int))(cells:List (BitVec 256))(a:Nat):Js next cells a a=zW:=by simp[Js]
def Nm{α β:Type}(f:α->β)(p:β->Bool):∀l:List α,(l.map f).findIdx? p=l.findIdx? λa=>p (f a)
 | []=>rfl
 | a::l=>by
   rw[wO,uJ,uJ,Nm f p l]
def Iz{α:Type}{p q:α->Bool}:∀{l:List α},(∀a∈l,p a=q a)->l.findIdx? p=l.findIdx? q
 | [],_=>rfl
 | a::l,h=>by
   rw[uJ,uJ,h a xY,Iz λx b=>h x (xQ _ b)]
def Vl{cells:List (BitVec 256)}{next:List (List Int)}{fl:Nat}(hs:BN cells next fl=zW){sp:Nat->BitVec 256}:∀b,b<=256->(Bt next cells sp b).cols=(AH (Js next cells) b).1.map (Ba cells)/\(Bt next cells sp b).cell=(AH (Js next cells) b).2
 | 0,_=>by simp[Bt,AH]
 | b+1,hb=>by
   have⟨c,e⟩:=Vl hs (sp:=sp) b zO;have d:=Jh (MV next cells) b;have f:Mc next (Bt next cells sp b).cols (Ba cells b)=(AH (Js next cells) b).1.findIdx? λg=>Js next cells b g:=by
    unfold Mc;rw[c,Nm];exact Iz λg h=>by
     have⟨k,i⟩:=xI h;exact Xk hs zO (by have:=(d.first k g i).1;omega)
   unfold Bt Pf I1;rw[f];cases a:(AH (Js next cells) b).1.findIdx? λg=>Js next cells b g with
   | some k=>
     rw[KB a];simp only;exact⟨c,by rw[e]⟩
   | none=>
     rw[MB a];simp only;exact⟨by rw[c,xF];rfl,by rw[e,c,k_]⟩
attribute [local irreducible] Bt AH
def Ya{cells:List (BitVec 256)}{next:List (List Int)}{final:List Bool}(hs:BN cells next final.length=zW):(Cn cells next final).sets.length=(AH (Js next cells) 256).1.length/\
  ∀(k:Nat) (x:BitVec 256),(Cn cells next final).sets[k]?=zY x->∀i,i<256->x.getLsbD i=Dh (AH (Js next cells) 256).2 k i:=by have a:=λb c=>(BQ hs (b:=b) c).1;have⟨d,e⟩:=Vl hs (sp:=λb=>AL b b) 256 (N_ _);have f:=Hd (next:=next) (sp:=λb=>AL b b) a 256 (N_ _);refine⟨?_,λk x g i h=>?_⟩;{simp only[Cn];rw[<-f.len,d,k_]};{rw[<-e];exact Q2 (next:=next) a 256 (N_ _) k x g i h}
end
section
attribute [local irreducible] Bt AH
structure NI(o:Option AM)(ls:List Nat):Prop where
 len:ls.length=(A8 o).length
 up:ls.Pairwise (·<·)
 least:∀(k:Nat) (c:BitVec 256),(A8 o)[k]?=zY c->∃l,ls[k]?=zY l/\l<256/\(Bu c 0).1=l/\c.getLsbD l=zW
 keeps:∀(k:Nat) (c:BitVec 256) (l b:Nat),(A8 o)[k]?=zY c->ls[k]?=zY l->b<256->c.getLsbD b=zW->l<=b/\∀q:Int,0<=q->q<stN o->AR o q b=AR o q l
 cols:∀A,o=zY A->∀k,k<A.sets.length->∃b,b<256/\A.cell[b]?=zY k
 part:∀b,b<256->∃(k:Nat) (c:BitVec 256),(A8 o)[k]?=zY c/\c.getLsbD b=zW/\∀(k':Nat) (c':BitVec 256),(A8 o)[k']?=zY c'->c'.getLsbD b=zW->k'=k
def W6{sim:Nat->Nat->Bool}(d:∀a,sim a a=zW):∀b,(AH sim b).1.Pairwise (·<·)
 | 0=>by rw[AH];exact List.Pairwise.nil
 | b+1=>by
   have e:=W6 d b;cases f:(AH sim b).1.findIdx? (λg=>sim b g)with
   | some k=>rw[KB f];exact e
   | none=>
     rw[MB f];refine sD.2 ⟨e,rE _ _,λa i c h=>?_⟩;rw[g_]at h;subst h;have⟨k,j⟩:=xI i;exact((Jh d c).first k a j).1
def TO{c:BitVec 256}{l:Nat}(a:l<256)(d:c.getLsbD l=zW)(e:∀b,b<l->c.getLsbD b=zU):(Bu c 0).1=l:=by have f:((AiN 256).find? λb=>zT (0<=b)&&c.getLsbD b)=zY l:=by{rw[List.find?_range_eq_some];exact⟨by simp[d],by simpa using a,λj g=>by simp[e j g]⟩};unfold Bu;rw[f]
def YT(cells:List (BitVec 256))(next:List (List Int))(final:List Bool):∃D,NI (Fc cells next final) D:=by
 unfold Fc;cases hs:BN cells next final.length with|false=>refine⟨[0],rfl,rE _ _,λk c d=>?_,λk c l b d v a j=>?_,λA a=>?_,λb a=>?_⟩;{have m:k=0:=by{have:=(V_.1 d).1;simpa [A8]using this};subst m;have:c=Al9 256:=by{simpa [A8]using d.symm};subst this;exact⟨0,rfl,zQ,TO zQ zQ (λb a=>zO),zQ⟩};{have m:k=0:=by{have:=(V_.1 d).1;simpa [A8]using this};subst m;have:l=0:=by{simpa using v.symm};subst this;refine⟨q_ _,λq K o=>?_⟩;simp only[Bool.false_eq_true,if_false]at o ⊢;simp only[stN]at o;obtain rfl:q=0:=zO;rfl};{cases a};{refine⟨0,Al9 256,rfl,?_,λx B h _=>?_⟩;{rw[tV];simp[a]};{have:=(V_.1 h).1;simpa [A8]using this}}|true=>{
 simp only[if_true];have⟨o,w⟩:=Ya hs;have r:=Jh (MV next cells) 256;refine⟨(AH (Js next cells) 256).1,o.symm,W6 (MV next cells) 256,λk c d=>?_,λk c l b d v a j=>?_,λA E k m=>?_,λb a=>?_⟩;{have m:k<(AH (Js next cells) 256).1.length:=by{rw[<-o];exact(V_.1 d).1};have⟨g,e⟩:=Ab m;have⟨g1,g2⟩:=r.first k g e;have f:=w k c d;refine⟨g,e,g1,TO g1 (by rw[f g g1];simp[Dh,g2]) (λb a=>?_),by rw[f g g1];simp[Dh,g2]⟩;rw[f b zO];unfold Dh;rw[beq_eq_false_iff_ne];intro s;have:=(r.sig b k g s e).2;omega};{
 rw[w k c d b a]at j;have s:(AH (Js next cells) 256).2[b]?=zY k:=by simpa [Dh]using j
 have⟨C,F⟩:=r.sig b k l s v;refine⟨F,λq G H=>?_⟩;obtain⟨n,rfl⟩:=xK G;have t:=(r.first k l v).1;have I:n<next.length:=by simp only[stN,Cn,k_]at H;omega
 have⟨row,i⟩:=Ab I;rw[FT hs i a,FT hs i t];unfold Js at C;have:=zM.1 C row (e_ i);simpa using this};{cases E;have⟨g,e⟩:=Ab (l:=(AH (Js next cells) 256).1) (k:=k) (by rw[<-o];exact m);have⟨g1,g2⟩:=r.first k g e;refine⟨g,g1,?_⟩;have J:=(Vl hs (sp:=λb=>AL b b) 256 (N_ _)).2;simp only[Cn];rw[J];exact g2};{have⟨p,s⟩:=Ab (l:=(AH (Js next cells) 256).2) (k:=b) (by rw[r.plen];exact a);have y:=r.lt p (e_ s);have⟨c,d⟩:=Ab (l:=(Cn cells next final).sets) (k:=p) (by rw[o];exact y);refine⟨p,c,d,by rw[w p c d b a];simp[Dh,s],λx B z u=>?_⟩;rw[w x B z b a]at u;have:(AH (Js next cells) 256).2[b]?=zY x:=by{simpa [Dh]using u};rw[s]at this;exact(AjO.inj this).symm}}
end
def SK{α:Type}{T:Ty α}{e:x_}{a:Option Addr}{n cap:Nat}{xs:List α}{P:w_}{t ty by_:Nat}{z:v_}{s:Option Addr}{u d:Nat}{e2:x_}{ys:List α}(m:B_ B H0 H ps)(i j:Nat)(y:SlT P t e T.size by_ z)(A:ps[i]?=zY (pS T e a n cap xs))(w:ps[j]?=zY (pS T e2 s u d ys))
  (C:0<ys.length) (D:T.Ones) (p:xs.length+ys.length<=34359738368) (hby:by_<=1024)
  (k:∀a' f H',B_ B H0 H' (ps.set i (pS T e a' (xs.length+ys.length) f (xs++ys)))->C_ (λk=>k<H.size/\¬O_ (.slice a n cap) k) H H'->K (.slice a' (xs.length+ys.length) f) H'):
  BV P (Builtin.append_ #[t,t] ty [.slice a n cap,.slice s u d].toArray) H K:=by obtain⟨E,⟨J,h⟩,x⟩:=(m.at_ j w).1;have r:=m.len j w;rcases h with⟨h,F⟩ | ⟨b,c,l,h,F,G,L,M,N,I⟩;{omega};{injection h with g1 g2 g3;subst g1;subst g3;refine OA m i y A (q:=b) (o:=0) (ds:=E) (G.cells λj v g=>?_) x r (D.reps x) p hby k;rw[<-I]at g;rw[K_];rw[List.getElem?_take]at g;split at g;{exact g};{cases g}}
section
attribute [local irreducible] Bt AH Am
def Xr{a:List Nat}(h:NI o a):0<(A8 o).length:=by obtain⟨k,c,b,-⟩:=h.part 0 zQ;exact Nat.lt_of_le_of_lt (q_ k) (V_.1 b).1
def LK(h:Bi S H v o):(A8 o).length<=256:=by cases o with|none=>decide|some A=>obtain⟨_,_,_,a,_⟩:=h;exact a.sl
end
structure Nd where
 s:Int
 x:Int
 y:Int
deriving DecidableEq
def Nd.Ok(n:Nd):Prop:=zI .i64 n.s/\zI .i64 n.x/\zI .i64 n.y
def ndV(n:Nd):v_:=.agg #[A_ n.s,A_ n.x,A_ n.y]
def ndL(n:Nd):List v_:=[A_ n.s,A_ n.x,A_ n.y]
def tNd:Ty Nd where
 size:=3
 rep _ _ cs n:=cs=ndL n
 len h:=by rw[h];rfl
 frame h _:=h
 mono h _:=h
structure Gr where
 next:Nd->Nat->List Nd
 ends:Nd->Bool
def S4(g:Gr):List Nat->Nd->Prop
 | [],n=>g.ends n=zW
 | b::w,n=>∃t,t∈g.next n b/\S4 g w t
def Yr(g:Gr)(P:Nd->Prop)(w:List Nat):Prop:=∃n,P n/\S4 g w n
def QP(g:Gr)(P:Nd->Prop)(b:Nat):Nd->Prop:=λt=>∃n,P n/\t∈g.next n b
def ZF:List Nat->List Nat->Prop
 | a::s,b::t=>a<b\/(a=b/\ZF s t)
 | _,_=>True
def Lj(w:List Nat):Prop:=∀b∈w,b<256
def VP(g:Gr)(P:Nd->Prop)(k:Nat)(w:List Nat):Prop:=w.length=k/\Lj w/\Yr g P w/\∀u,u.length=k->Lj u->Yr g P u->ZF w u
inductive Fv(g:Gr)(by_:List Nat)(a:Nd):Nd->Prop
 | refl:Fv g by_ a a
 | step {n t:Nd} {b:Nat} (h:Fv g by_ a n) (hb:b∈by_) (ht:t∈g.next n b):Fv g by_ a t
structure DistOk(g:Gr)(by_:List Nat)(a:Nd)(left:Nd->Option Nat):Prop where
 ends:∀n,Fv g by_ a n->g.ends n=zW->left n=zY 0
 pred:∀n k,left n=zY k->∀p b,Fv g by_ a p->b∈by_->n∈g.next p b->∃j,j<=k+1/\left p=zY j
 word:∀n k,left n=zY k->Fv g by_ a n/\∃w,w.length=k/\(∀b∈w,b∈by_)/\S4 g w n
section
variable{g:Gr}{by_:List Nat}{a:Nd}{left:Nd->Option Nat}
variable(hby:∀c,c<256->∃r∈by_,r<=c/\∀n,g.next n r=g.next n c)
include hby
end
def VQ(g:Gr)(by_:List Nat)(a n:Nd)(left:Nd->Option Nat)(k:Nat):Prop:=∀p b,Fv g by_ a p->b∈by_->n∈g.next p b->∃j,j<=k+1/\left p=zY j
structure BInv(g:Gr)(by_:List Nat)(a:Nd)(left:Nd->Option Nat)(todo:List Nd)(k:Nat):Prop where
 ends:∀n,Fv g by_ a n->g.ends n=zW->left n=zY 0
 word:∀n j,left n=zY j->Fv g by_ a n/\∃w,w.length=j/\(∀b∈w,b∈by_)/\S4 g w n
 q:∀n∈todo,∃j,left n=zY j/\k<=j
 up:∀n j,left n=zY j->j<=k+1
 sorted:todo.Pairwise λn p=>∀i j,left n=zY i->left p=zY j->i<=j
 done:∀n j,left n=zY j->n∉todo->VQ g by_ a n left j
structure BMid(g:Gr)(by_:List Nat)(a:Nd)(left:Nd->Option Nat)(todo:List Nd)(n:Nd)(k:Nat)(d:Nd->Prop):Prop where
 ends:∀n,Fv g by_ a n->g.ends n=zW->left n=zY 0
 word:∀n j,left n=zY j->Fv g by_ a n/\∃w,w.length=j/\(∀b∈w,b∈by_)/\S4 g w n
 here:left n=zY k
 q:∀n∈todo,∃j,left n=zY j/\k<=j
 up:∀n j,left n=zY j->j<=k+1
 sorted:todo.Pairwise λn p=>∀i j,left n=zY i->left p=zY j->i<=j
 done:∀m j,left m=zY j->m∉todo->m≠n->VQ g by_ a m left j
 now:∀p,d p->∃j,j<=k+1/\left p=zY j
structure RInv(g:Gr)(by_:List Nat)(a:Nd)(order:List Nd)(bk:Nd->Nd->Prop)(d:Nd->Nat->Nd->Prop):Prop where
 first:order[0]?=zY a
 nodup:order.Nodup
 reach:∀n∈order,Fv g by_ a n
 back:∀t p,bk t p->Fv g by_ a p/\∃b,b∈by_/\t∈g.next p b
 done:∀n b t,d n b t->t∈order/\bk t n
def To(g:Gr):List Nat->Nd->Nd->Prop
 | [],n,t=>n=t
 | b::w,n,t=>∃m,m∈g.next n b/\To g w m t
abbrev NW:=Nd×List Nat
structure RowOk(g:Gr)(by_:List Nat)(a:Nd)(L:Nat)(F:List NW):Prop where
 nd:(F.map (·.1)).Nodup
 ok:∀x∈F,x.2.length=L/\(∀b∈x.2,b∈by_)/\To g x.2 a x.1
 all:∀w t,w.length=L->(∀b∈w,b∈by_)->To g w a t->∃x∈F,x.1=t/\ZF x.2 w
structure RowMid(g:Gr)(by_:List Nat)(a:Nd)(L:Nat)(F:List NW)(d:Nd->List Nat->Prop):Prop where
 nd:(F.map (·.1)).Nodup
 ok:∀x∈F,x.2.length=L/\(∀b∈x.2,b∈by_)/\To g x.2 a x.1
 all:∀t w,d t w->w.length=L->∃x∈F,x.1=t/\ZF x.2 w
section
variable{g:Gr}{by_:List Nat}{a n t:Nd}{L:Nat}{F F':List NW}{d d':Nd->List Nat->Prop}{w:List Nat}{r:Bool}
variable(hby:∀c,c<256->∃r∈by_,r<=c/\∀n,g.next n r=g.next n c)
include hby
end
def qZ(o:Option AM)(w:List Nat)(q:Int):Int:=w.foldl (λq b=>AR o q b) q
def pL(o:Option AM)(w:List Nat):Bool:=Bk o (qZ o w 0)
def AE:Nd:=⟨0,0,0⟩
structure Ak3(g:Gr)(by_:List Nat)(M C:Nat):Prop where
 byl:∀b∈by_,b<256
 nb:by_.length<=256
 ok:∀n,Fv g by_ AE n->n.Ok
 card:∀l:List Nd,l.Nodup->(∀n∈l,Fv g by_ AE n)->l.length<=M
 occ:∀n b t,Fv g by_ AE n->b∈by_->(g.next n b).count t<=C
 c0:1<=C
 big:C*(256*M)<=5864062014805
structure GraphV(S:Nat->Prop)(H:Aa)(v:v_)(g:Gr)(by_:List Nat):Prop where
 out:∃(pg:Nat) (ba:Option Addr) (bc:Nat) (f e:FuncId) (fs cs es ds:List v_),v= Y_ pg/\S pg/\
  R_ H pg 206 [.slice ba by_.length bc,.func (.func f) fs.toArray cs.toArray,.func (.func e) es.toArray ds.toArray]/\b_ (HT .u8) S H ba bc (by_.map fun(b:Nat)=>(b:Int))/\
  (∀H',C_ S H H'->∀n b,Fv g by_ AE n->b∈by_->Aj prog f (fs++[ndV n,.int .u8 (b:Int)]++cs).toArray H' λv H''=>C_ (H_ H') H' H''/\X_ tNd none_ H'' H'.size 208 v (g.next n b))/\
  (∀H',C_ S H H'->∀n,Fv g by_ AE n->BZ prog e (es++[ndV n]++ds).toArray H' (.bool (g.ends n)))
structure Pre(g:Gr)(a:Nd)(lf:Nd->Option Nat)(L r:Nat)(w:List Nat)(P:Nd->Prop):Prop where
 len:w.length+r=L
 fst:∀v,VP g P r v->VP g (·=a) L (w++v)
 all:∀n,P n->lf n=zY r
 ne:∃n,P n
section
variable{g:Gr}{by_:List Nat}{a:Nd}{lf:Nd->Option Nat}{L k b:Nat}{w:List Nat}{P Q:Nd->Prop}
variable(hby:∀c,c<256->∃r∈by_,r<=c/\∀n,g.next n r=g.next n c)
include hby
end
structure Seen(g:Gr)(by_:List Nat)(lf:Nd->Option Nat)(seen:List Nd):Prop where
 nd:seen.Nodup
 mem:∀n,(lf n).isSome=zW↔n∈seen
 le:∀n j,lf n=zY j->j<=seen.length
 rch:∀n∈seen,Fv g by_ AE n
section
attribute [local irreducible] Bt AH Am
def inA(o:Option AM)(q:Int):Prop:=0<=q/\q<stN o
structure Iw(o:Option AM):Prop where
 n1:1<=stN o
 n2:stN o<=65536
 step:∀q b,inA o q->b<256->inA o (AR o q b)
def Yc(h:Bi S H v o)(c:q<stN o)(e:b<256):0<=AR o (q:Int) b/\AR o (q:Int) b<stN o:=by cases o with|none=>have:q=0:=by{simp only[stN]at c;omega};subst this;decide+revert|some A=>obtain⟨pb,rfl,d,a,_⟩:=h;exact Uq a zO (by simp only[stN]at c;omega) e
def Bi.steps(h:Bi S H v o):Iw o:=
 ⟨(kN h).1,(kN h).2,λq b a c=>by
   obtain⟨n,rfl⟩:=xK a.1;exact Yc h (by have:=a.2;omega) c⟩
structure InR(K:Nat)(n:Nd):Prop where
 s0:0<=n.s
 s1:n.s<=K
 x0:0<=n.x
 x1:n.x<65536
 y0:0<=n.y
 y1:n.y<65536
 z:n.s=0->n.y=0
def eM(w:List Nat):(bA w).size=w.length:=by unfold bA;simp[ByteArray.size]
def eK(w:List Nat):(bA w).data.toList=w.map UInt8.ofNat:=by unfold bA;simp
def Y0{w:List Nat}(h:Lj w):JL o (bA w)=pL o w:=by unfold JL pL XW qZ;rw[eM,eK,uL zZ,List.foldl_map];congr 1;have:∀(w:List Nat) (q:Int),Lj w->w.foldl (λq b=>AR o q (UInt8.ofNat b).toNat) q=w.foldl (λq b=>AR o q b) q:=λw=>by{induction w with|nil=>intro q _;rfl|cons c w f=>intro q a;have i:=a c xY;have e:(UInt8.ofNat c).toNat=c:=by{simp;omega};rw[wU,wU,e];exact f _ λd g=>a d (xQ _ g)};exact this w 0 h
structure VarA(S:Nat->Prop)(H:Aa)(p:Nat)(o:Option AM):Prop where
 out:∃v,S p/\R_ H p 23 [v]/\Bi S H v o
structure VarF(S:Nat->Prop)(H:Aa)(p pa:Nat):Prop where
 in_:S p
 blk:R_ H p 269 [.func (.func 148) #[] #[Y_ pa]]
end
variable{D:DM}
section
attribute [local irreducible] Bt Am AH
def wD(sim:Nat->Nat->Bool)(b:Nat)(l:List Nat):Int:=match l.findIdx? λg=>sim b g with
 | some k=>(k:Int)
 | none=> -1
def JT:wD sim b l<0↔(l.findIdx? λg=>sim b g)=zV:=by unfold wD;split;{rename_i k h;rw[h];simp};{rename_i h;rw[h];simp}
def Zp: -1<=wD sim b l/\wD sim b l<l.length:=by unfold wD;split;{rename_i k h;have:=(vP.1 h).1;omega};{omega}
def OU(h:wD sim b l<0):wD sim b (l++[g])=if sim b g then(l.length:Int)else -1:=by have a:=JT.1 h;unfold wD;rw[tZ,a];simp only[List.findIdx?_singleton,Option.none_or];cases hs:sim b g<;>simp
def Tm{k:Nat}(h:0<=wD sim b (l.take k)):wD sim b l=wD sim b (l.take k):=by
 have c:(l.take k).findIdx? (λg=>sim b g)≠zV:=λa=>by have:=JT.2 a;omega
 cases a:(l.take k).findIdx? (λg=>sim b g)with|none=>exact absurd a c|some d=>have e:l.findIdx? (λg=>sim b g)=zY d:=by{(conv=>lhs;rw[<-uM k l]);rw[tZ,a];rfl};unfold wD;rw[a,e]
def IR(D:DM)(b g j:Nat):Bool:=(AiN j).all λq=>D0 D (q:Int) b==D0 D (q:Int) g
def Bw(D:DM)(b g:Nat):Bool:=IR D b g D.next.length
def VB(D:DM)(b g j:Nat):IR D b g (j+1)=(IR D b g j&&(D0 D (j:Int) b==D0 D (j:Int) g)):=by unfold IR;rw[wG,List.all_append];simp
def MU(D:DM)(a:Nat):Bw D a a=zW:=by simp[Bw,IR]
def fE{j:Nat}(c:j<=D.next.length)(h:IR D b g j=zU):Bw D b g=zU:=by cases hs:Bw D b g with|false=>rfl|true=>unfold Bw IR at hs;have:IR D b g j=zW:=by{unfold IR;rw[zM]at hs ⊢;exact λq a=>hs q (yG.2 (by have:=yG.1 a;omega))};rw[this]at h;cases h
def V2(hS:∀k,S k->k<H.size)(hw:Fb S H v D)(M:D.Ok):
  Aj prog 62 #[v] H λv H'=>C_ (H_ H) H H'/\H.size<=H'.size/\∃a cap,v= .slice a (AH (Bw D) 256).1.length cap/\
   X_ tF (λ_=>False) H' H.size 157 (.slice a (AH (Bw D) 256).1.length cap) (DH (AH (Bw D) 256).2 (AH (Bw D) 256).1.length):=by
 have t:=hw.len;have bh:=M.n2;refine Aj.of_vc func62 rfl (call62 _) (K5 hw λra rc na nc bi bj he h1 h2 h3=>?_);subst he;intro pb H1 bm bn a4 ar;have a5:C_ (H_ H) H H1:=ar.mono λj d=>by unfold H_ at d;omega
 (conv=>whnf);refine Ay.mk [3,4,5] (λx:Nat×v_×v_=>match x with | (b,vo,vf)=>[vo,vf,A_ b]) (λx H2=>x.1<=256/\C_ (H_ H1) H1 H2/\H1.size<=H2.size/\ X_ tF (λ_=>False) H2 H1.size 157 x.2.1 (DH (AH (Bw D) x.1).2 (AH (Bw D) x.1).1.length)/\X_ tI (λ_=>False) H2 H1.size 3 x.2.2 (U' (AH (Bw D) x.1).1)/\∀j,O_ x.2.1 j->¬O_ x.2.2 j) (λx _=>256-x.1) ?_ ?_;{(conv=>whnf);exact⟨(0,.slice zV 0 0,.slice zV 0 0),rfl,zZ,C_.refl _ _,N_ _,by unfold AH;exact X_.nil,by unfold AH;exact X_.nil,λj d=>by have⟨o,n,c,h⟩:=d;cases h⟩};{rintro⟨b,vo,vf⟩ H2 bf ⟨hb,m,a6,y,I,J⟩;simp only at hb y I J;have L:=Jh (MU D) b;have bo:=L.flen;obtain⟨fa,N,rfl,au,-⟩:=I.view (S':=H_ H2) (λj d=>(I.lt d).2) (λ_ f=>f.elim);obtain⟨oa,X,rfl,bp,-⟩:=y.view (S':=H_ H2) (λj d=>(y.lt d).2) (λ_ f=>f.elim);rw[Cz,BH]at*;have a1:C_ (H_ H) H H2:=a5.trans (m.mono λk w=>Af a5 w);have a7:=a4.agr m a4.lt;refine AD.m2 (λh=>?_) (λh=>?_);{(conv=>whnf);refine Ay.mk [6,7] (λk:Nat=>[A_ (wD (Bw D) b ((AH (Bw D) b).1.take k)),A_ k]) (λk H3=>k<=(AH (Bw D) b).1.length/\C_ (H_ H2) H2 H3) (λk _=>(AH (Bw D) b).1.length-k) ?_ ?_;{(conv=>whnf);exact⟨0,rfl,zO,C_.refl _ _⟩};{rintro k H3 aw ⟨w,E⟩;have bq:=Bl E;by_cases ax:k<(AH (Bw D) b).1.length;{have d1:zT ((k:Int)<((AH (Bw D) b).1.length:Int))=zW:=l_;(conv=>whnf);rw[d1];refine AD.mk (λz=>?_) (λz=>?_)<;>simp only[yD,oR]at z;{have⟨g,hg⟩:=Ab ax;have br:=(L.first k g hg).1;refine Au.run ?_;(conv=>whnf);refine Ay.mk [8,9] (λj:Nat=>[.bool (IR D b g j),A_ j]) (λj H4=>j<=D.next.length/\C_ (H_ H2) H2 H4) (λj _=>D.next.length-j) ?_ ?_;{(conv=>whnf);exact⟨0,rfl,zO,E⟩};{rintro j H4 ay ⟨d,q⟩;have r:=a1.trans (q.mono λk w=>Af a1 w);have A:=a7.agr q a7.lt;have up:∀{H':Aa},C_ (H_ H) H H'->∀k,S k->k<H'.size:=λh k w=>Af h (hS k w);have Y:wD (Bw D) b ((AH (Bw D) b).1.take k)= -1:=by{have:=(Zp (sim:=Bw D) (b:=b) (l:=(AH (Bw D) b).1.take k)).1;omega};refine F_ El ?_;refine D_ DC (by rw[A.cell,K_];exact Do t) zA ?_;by_cases bu:j<D.next.length;{have d2:zT ((j:Int)<(D.next.length:Int))=zW:=l_;cases a8:IR D b g j with|true=>(conv=>whnf);rw[d2];refine Ap.quiet (H_ H4) rfl zX (OS A t A.lt (h1.frame (r.mono hS)) (h2.frame (r.mono hS)) (h3.frame (r.mono hS)) λv5 az=>?_);(conv=>whnf);rw[w8 (x:=(b:Int)) zO zO];refine nA (λH' h'=>KJ (up (r.trans (h'.mono λk w=>Af r w))) (az.frame (h'.mono λk w=>up r k w)) M (zO:b<256)) (OS A t A.lt (h1.frame (r.mono hS)) (h2.frame (r.mono hS)) (h3.frame (r.mono hS)) λv6 b0=>(EK AB (au.frame q) (Cz _).symm (GX hg) rfl ?_));rintro b6 o6 bv a9 O ⟨rfl,-⟩;refine D_ E_ O.one (Af q a9) ?_;(conv=>whnf);rw[w8 (x:=(g:Int)) zO zO];refine nA (λH' h'=>KJ (up (r.trans (h'.mono λk w=>Af r w))) (b0.frame (h'.mono λk w=>up r k w)) M (zO:g<256)) ?_;(conv=>whnf);intro H5 P;(conv=>whnf);rw[Q_ j zO];exact⟨rfl,j+1,by rw[VB,a8];simp,⟨zO,q.trans (P.mono λk w=>Af q w)⟩,zO⟩|false=>have hs:=fE d a8;(conv=>whnf);rw[d2];(conv=>whnf);rw[Q_ k zO];refine⟨rfl,k+1,?_,⟨zO,q⟩,zO⟩;rw[Ac hg,OU z,hs,Y];simp};{obtain rfl:j=D.next.length:=zO;have d2:zT ((D.next.length:Int)<(D.next.length:Int))=zU:=Z_;rw[show IR D b g D.next.length=Bw D b g from rfl];cases hs:Bw D b g with|true=>(conv=>whnf);rw[d2];(conv=>whnf);rw[Q_ k zO];refine⟨rfl,k+1,?_,⟨zO,q⟩,zO⟩;rw[Ac hg,OU z,hs];simp;omega|false=>(conv=>whnf);rw[d2];(conv=>whnf);rw[Q_ k zO];refine⟨rfl,k+1,?_,⟨zO,q⟩,zO⟩;rw[Ac hg,OU z,hs,Y];simp}}};{rw[<-Tm zO];replace z:0<=wD (Bw D) b (AH (Bw D) b).1:=by{rw[Tm (k:=k) zO];omega};replace y:=y.agr E (λj d=>(y.lt d).2) (λ_ f=>f.elim);replace I:=I.agr E (λj d=>(I.lt d).2) (λ_ f=>f.elim);replace m:=m.trans (E.mono λk w=>Af m w);replace a6:H1.size<=H3.size:=zO;cases s:(AH (Bw D) b).1.findIdx? λg=>Bw D b g with|none=>exact absurd (JT.2 s) zO|some V=>{have Q:=(vP.1 s).1;have R:wD (Bw D) b (AH (Bw D) b).1=(V:Int):=by{unfold wD;rw[s]};rw[R];have e:AH (Bw D) (b+1)=((AH (Bw D) b).1,(AH (Bw D) b).2++[V]):=KB s;have⟨vb,cap,l,e1,ab,F,t,G⟩:=X_.byte y (DI Q) (zO:b<256);rw[BH]at e1;injection e1 with e2 e3 e4;subst e2;subst e4;refine Au.run (ix PB zO zO (s_ CC zO zO ?_));refine J_ M' F (by rw[show tF.size=256 from rfl];omega) rfl ?_;intro H6 K B ae;rw[show 0+((V:Nat):Int).toNat*tF.size+(b:Int).toNat*1=V*256+b by rw[show tF.size=256 from rfl];omega]at K;have C:=G H6 K;have i:=FL (ps:=(AH (Bw D) b).2) Q;rw[L.plen]at i;rw[i]at C;have U:=I.agr B (λj d=>by rintro rfl;exact J _ ⟨0,_,_,rfl⟩ d) (λ_ f=>f.elim);(conv=>whnf);rw[Q_ b zO];refine⟨rfl,(b+1,.slice (T_ vb) (AH (Bw D) b).1.length X,.slice fa (AH (Bw D) b).1.length N),zZ,⟨by simp only;omega,m.trans (B.mono λj d=>by unfold H_ at d;omega),zO,?_,?_,J⟩,by simp only;omega⟩;{simp only[e];exact C};{simp only[e];exact U}}}};{obtain rfl:k=(AH (Bw D) b).1.length:=zO;have d1:zT (((AH (Bw D) b).1.length:Int)<((AH (Bw D) b).1.length:Int))=zU:=Z_;rw[zH];replace y:=y.agr E (λj d=>(y.lt d).2) (λ_ f=>f.elim);replace I:=I.agr E (λj d=>(I.lt d).2) (λ_ f=>f.elim);replace m:=m.trans (E.mono λk w=>Af m w);replace a6:H1.size<=H3.size:=zO;(conv=>whnf);rw[d1];by_cases z:wD (Bw D) b (AH (Bw D) b).1<0;{have s:=JT.1 z;have R:wD (Bw D) b (AH (Bw D) b).1= -1:=by{have:=(Zp (sim:=Bw D) (b:=b) (l:=(AH (Bw D) b).1)).1;omega};rw[R];have e:AH (Bw D) (b+1)=((AH (Bw D) b).1++[b],(AH (Bw D) b).2++[(AH (Bw D) b).1.length]):=MB s;have ag:∀p∈(AH (Bw D) b).2,p<(AH (Bw D) b).1.length:=L.lt;refine Au.run (Ct CC (Tryz.t157.zero.getD undef) rfl (Ai4 256 (.bool zU)) rfl (As PB (Ai4 256 (.bool zU)) rfl rfl zQ zQ ?_));intro q4 H4 bw bx A q;have b4:=y.agr q (λj d=>by have:=(y.lt d).2;omega) (λ_ f=>f.elim);have ah:=I.agr q (λj d=>by have:=(I.lt d).2;omega) (λ_ f=>f.elim);refine BU (T:=tF) (S:=λ_=>False) (ys:=[λ_=>zU]) (ds:=Ai4 256 (.bool zU)) (lo:=H1.size) (xs:=DH (AH (Bw D) b).2 (AH (Bw D) b).1.length) PB b4 zO (λj d=>d.elim) (A.cells (λj v hv=>by rw[K_];exact hv)) (Ty.reps_one (show Ai4 256 (Value.bool zU)=Df (λ_=>zU)from MA.symm)) rfl (by intro u hu;rw[hC hu];rfl) (by rw[BH];simp only[maxLen,i_];omega) (by rw[BH];simp only[i_];omega) ?_;intro v5 H5 a2 P bz ai;rw[<-Ng _ _ ag]at a2;have aj:=ah.agr P (λj d=>⟨(ah.lt d).2,λh=>J j h d⟩) (λ_ f=>f.elim);have c1:R_ H5 q4 157 (Ai4 256 (.bool zU)):=A.agr P ⟨A.lt,λh=>by have:=(y.lt h).2;omega⟩;refine As AB [A_ b] rfl rfl zQ zQ ?_;intro q6 H6 c2 ae K B;have C:=a2.agr B (λj d=>by have:=(a2.lt d).2;omega) (λ_ f=>f.elim);have U:=aj.agr B (λj d=>by have:=(aj.lt d).2;omega) (λ_ f=>f.elim);refine BU (T:=tI) (S:=λ_=>False) (ys:=[(b:Int)]) (ds:=[A_ b]) (lo:=H1.size) (xs:=U' (AH (Bw D) b).1) AB U zO (λj d=>d.elim) (K.cells (λj v hv=>by simpa using hv)) (Ty.reps_one ⟨rfl,BK zO⟩) rfl (by intro u hu;cases g_.1 hu;rfl) (by rw[Cz];simp only[maxLen,i_];omega) (by rw[Cz];simp only[i_];omega) ?_;intro v7 H7 b5 ak c3 am;have Z:∀j,O_ v5 j->¬O_ (.slice fa (AH (Bw D) b).1.length N) j:=λj d W=>by{rcases ai j d with h | h;{exact J j h W};{have:=(I.lt W).2;omega}};have b7:=C.agr ak (λj d=>⟨(C.lt d).2,Z j d⟩) (λ_ f=>f.elim);have a0:∀j,O_ v5 j->¬O_ v7 j:=λj d W=>by{rcases am j W with h | h;{exact Z j d h};{have:=(C.lt d).2;omega}};have a3:(DH (AH (Bw D) b).2 ((AH (Bw D) b).1.length+1))[(AH (Bw D) b).1.length]?=zY (Dh (AH (Bw D) b).2 (AH (Bw D) b).1.length):=DI zO;have⟨vb,cap,l,e1,ab,F,t,G⟩:=X_.byte b7 a3 (zO:b<256);subst e1;rw[BH]at*;have b8:(AH (Bw D) b).1.length<(AH (Bw D) b).1.length+1:=zO;refine ix PB zO zO (s_ CC zO zO ?_);refine J_ M' F (by rw[show tF.size=256 from rfl];omega) rfl ?_;intro H8 ao ap c4;rw[show 0+(((AH (Bw D) b).1.length:Nat):Int).toNat*tF.size+(b:Int).toNat*1=(AH (Bw D) b).1.length*256+b by rw[show tF.size=256 from rfl];omega]at ao;have aq:=G H8 ao;have i:=FL (ps:=(AH (Bw D) b).2) b8;rw[L.plen]at i;rw[i]at aq;have b9:=b5.agr ap (λj d=>by rintro rfl;exact a0 _ ⟨0,_,_,rfl⟩ d) (λ_ f=>f.elim);have bd:C_ (H_ H1) H1 H8:=((((m.trans (q.mono λj d=>by have:=Af m d;omega)).trans (P.mono λj d=>⟨by have:=Af m d;omega,λh=>by have:=(y.lt h).1;unfold H_ at d;omega⟩)).trans (B.mono λj d=>by have:=Af m d;omega)).trans (ak.mono λj d=>⟨by have:=Af m d;omega,λh=>by have:=(I.lt h).1;unfold H_ at d;omega⟩)).trans (ap.mono λj d=>by unfold H_ at d;omega);(conv=>whnf);rw[Q_ b zO];refine⟨rfl,(b+1,_,_),rfl,⟨by simp only;omega,bd,zO,?_,?_,a0⟩,by simp only;omega⟩;{simp only[e,M_,i_];exact aq};{simp only[e,U',xF,wO,List.map_nil];exact b9}};{replace z:0<=wD (Bw D) b (AH (Bw D) b).1:=zO;cases s:(AH (Bw D) b).1.findIdx? λg=>Bw D b g with|none=>exact absurd (JT.2 s) zO|some V=>{have Q:=(vP.1 s).1;have R:wD (Bw D) b (AH (Bw D) b).1=(V:Int):=by{unfold wD;rw[s]};rw[R];have e:AH (Bw D) (b+1)=((AH (Bw D) b).1,(AH (Bw D) b).2++[V]):=KB s;have⟨vb,cap,l,e1,ab,F,t,G⟩:=X_.byte y (DI Q) (zO:b<256);rw[BH]at e1;injection e1 with e2 e3 e4;subst e2;subst e4;refine Au.run (ix PB zO zO (s_ CC zO zO ?_));refine J_ M' F (by rw[show tF.size=256 from rfl];omega) rfl ?_;intro H6 K B ae;rw[show 0+((V:Nat):Int).toNat*tF.size+(b:Int).toNat*1=V*256+b by rw[show tF.size=256 from rfl];omega]at K;have C:=G H6 K;have i:=FL (ps:=(AH (Bw D) b).2) Q;rw[L.plen]at i;rw[i]at C;have U:=I.agr B (λj d=>by rintro rfl;exact J _ ⟨0,_,_,rfl⟩ d) (λ_ f=>f.elim);(conv=>whnf);rw[Q_ b zO];refine⟨rfl,(b+1,.slice (T_ vb) (AH (Bw D) b).1.length X,.slice fa (AH (Bw D) b).1.length N),zZ,⟨by simp only;omega,m.trans (B.mono λj d=>by unfold H_ at d;omega),zO,?_,?_,J⟩,by simp only;omega⟩;{simp only[e];exact C};{simp only[e];exact U}}}}}};{obtain rfl:b=256:=zO;obtain⟨c5,be,e2,bg,-⟩:=y.view (S':=C8 H H2) (λj d=>⟨by have:=(y.lt d).1;omega,(y.lt d).2⟩) (λ_ f=>f.elim);rw[BH]at e2;injection e2 with e3 e4 e5;subst e3;subst e5;(conv=>whnf);exact⟨a1,zO,_,_,rfl,y.lower zO⟩}}
end
section
attribute [local irreducible] Bt Am
structure U2(o:Option AM)(D:DM):Prop where
 ok:D.Ok
 n:stN o=D.next.length
 step:∀(q:Int) (b:Nat),b<256->AR o q b=D0 D q b
 fin:∀q:Int,Bk o q=KT D q
 alive:∀q:Int,Rj o q=Ri D q
def eO(cells:List (BitVec 256))(next:List (List Int))(final:List Bool):U2 (Fc cells next final) (J9 cells next final):=
 ⟨Zb _ _ _,YH _ _ _,λq b a=>Xn _ _ _ q a,UL _ _ _,UK _ _ _⟩
end
section
attribute [local irreducible] Bt AH Am
def rN(f:Nat->Bool):Nat->BitVec 256
 | 0=>0#256
 | n+1=>if f n then rN f n ||| AL n n else rN f n
def VX(f:Nat->Bool){b:Nat}(d:b<256):∀n,(rN f n).getLsbD b=(zT (b<n)&&f b)
 | 0=>by simp[rN]
 | n+1=>by
   have e:=VX f d n;unfold rN;split
   ·rename_i a;rw[rF,e,Dl n n b d];by_cases h:b=n
    ·subst h;simp[a]
    ·have c:zT (b<n+1)=zT (b<n):=by rw[decide_eq_decide];omega
     have g:(zT (n<=b)&&zT (b<=n))=zU:=by simp;omega
     rw[c,g,Bool.or_false]
   ·rename_i a;rw[e];by_cases h:b=n
    ·subst h;simp[a]
    ·have c:zT (b<n+1)=zT (b<n):=by rw[decide_eq_decide];omega
     rw[c]
def sF(f:Nat->Bool):BitVec 256:=rN f 256
def IX(f:Nat->Bool)(a:b<256):(sF f).getLsbD b=f b:=by unfold sF;rw[VX f a,m_ a,wX]
def Qu(f:Nat->Bool):Df f=Av (sF f):=by unfold Df Av Fw;refine List.map_congr_left λb a=>?_;have a:=yG.1 a;rw[IX f a,m_ a,wX]
def QF{S:Nat->Prop}{H:Aa}:∀{cs:List v_} {fs:List (Nat->Bool)},tF.reps S H cs fs->tB.reps S H cs (fs.map sF)
 | _,[],h=>h
 | _,f::fs,⟨c,r,e,hc,hr⟩=>⟨c,r,e,(show c=Av (sF f) by rw[<-Qu];exact hc),QF hr⟩
def C6(D:DM):List (BitVec 256):=(DH (AH (Bw D) 256).2 (AH (Bw D) 256).1.length).map sF
def IP(c:∀k,S k->k<H.size)(d:Fb S H v D)(b:D.Ok):
  Aj prog 62 #[v] H λv H'=>C_ (H_ H) H H'/\X_ tB none_ H' H.size 157 v (C6 D):=by refine(V2 c d b).mono ?_;rintro i H' ⟨e,j,a,cap,rfl,f,g,h⟩;refine⟨e,f,?_,QF h⟩;unfold C6;rw[k_];exact g
def OI(D:DM):0<(C6 D).length/\(C6 D).length<=256:=by have a:=Jh (MU D) 256;unfold C6;rw[k_,BH];have c:(AH (Bw D) 256).2.length=256:=a.plen;have⟨p,b⟩:=Ab (l:=(AH (Bw D) 256).2) (k:=0) zO;have:=a.lt p (e_ b);exact⟨zO,a.flen⟩
def Kl(A B:DM):List Nat:=(Am (C6 A++C6 B) 256).1
def gR(A B:DM):∀r∈Kl A B,r<256:=λr a=>by
 have⟨k,b⟩:=xI a;exact((CP (C6 A++C6 B) 256).first k r b).1
def XU(A B:DM):(Kl A B).length<=256:=(CP (C6 A++C6 B) 256).flen
def Nh{r:Nat}(u:r<256)(m:c<256)(h:∀s∈C6 D,s.getLsbD r=s.getLsbD c)(q:Int):D0 D q r=D0 D q c:=by have d:=Jh (MU D) 256;by_cases o:q<0\/(D.next.length:Int)<=q;{unfold D0;rw[I_ o,I_ o]};{have⟨p,e⟩:=Ab (l:=(AH (Bw D) 256).2) (k:=c) (by rw[d.plen];exact m);have a:=d.lt p (e_ e);have⟨l,v⟩:=Ab a;have f:sF (Dh (AH (Bw D) 256).2 p)∈C6 D:=yQ.2 ⟨_,yQ.2 ⟨p,yG.2 a,rfl⟩,rfl⟩;have g:=h _ f;rw[IX _ u,IX _ m]at g;have i:Dh (AH (Bw D) 256).2 p c=zW:=by{unfold Dh;rw[e];simp};rw[i]at g;have j:(AH (Bw D) 256).2[r]?=zY p:=by{simpa [Dh]using g};have b:∀x,(AH (Bw D) 256).2[x]?=zY p->D0 D q x=D0 D q l:=λx w=>by{have t:=(d.sig x p l w v).1;unfold Bw IR at t;obtain⟨n,rfl⟩:=xK (zO:0<=q);have:=zM.1 t n (yG.2 zO);simpa using this};rw[b r j,b c e]}
end
def B_.cat{B:Nat->Prop}{H0 H H':Aa}{ps qs:List Pc}(e:B_ B H0 H ps)(b:St H H' qs):B_ B H0 H' (ps++qs):=by have c:=e.call b.old;refine⟨c.old,c.lt0,c.size,λp a=>?_,λp a k d=>?_,?_⟩;{rcases X'.1 a with a | a;{exact c.oks p a};{exact b.oks p a}};{rcases X'.1 a with a | a;{exact c.rng p a k d};{have⟨g,h⟩:=b.rng p a k d;exact⟨λi=>g (e.up i),h⟩}};{refine sD.2 ⟨c.dis,b.dis,λp a q j k d f=>?_⟩;exact(b.rng q j k f).1 (e.rng p a k d).2}
section
attribute [local irreducible] Bt AH Am
def Wj{la:List v_}(h:Fb S H (.agg la.toArray) D):la.length=259/\∃fa fc,la[258]?=zY (.slice fa D.final.length fc)/\b_ AI S H fa fc D.final:=by
 have⟨a,ra,rc,na,nc,fa,fc,e,c,d,b⟩:=h;injection e with e;have e:la=AX D.cell (.slice ra D.reps.length rc) (.slice na D.next.length nc) (.slice fa D.final.length fc):=by simpa using e
 subst e;exact⟨Aq a,fa,fc,Ek a,b⟩
def Zs{fa:Option Addr}{fc:Nat}{x:Int}{K:v_->Prop}(h:b_ AI S H fa fc D.final)(h0:0<=x)(g:x<D.final.length)(c:∀b o,S b->YtfbghcpdinlmcaaGreatDoor.cell H b o=zY (.bool (KT D x))->K (.pointer (zY ⟨b,o,zV⟩))):
  AO prog (Instr.indexAt 36 (.slice fa D.final.length fc) (.int .i64 x)) B H K:=by obtain⟨n,rfl⟩:=xK h0;have⟨f,a⟩:=Ab (l:=D.final) (k:=n) zO;refine Y' (i:=n) C7 h a rfl ?_;rintro b o j d e rfl;refine c b o d ?_;rw[e.one];simp[KT,a]
def pV(a:Option Addr)(cap:Nat)(xs:List Int)(S:Nat->Prop):Pc:=⟨S,λH=>b_ tI S H a cap xs,λh hp=>hp.frame h⟩
def Br{l cs:List v_}(h:l.length=cs.length):Ak l 0 cs=cs:=by apply yW;intro j;by_cases a:j<cs.length;{rw[Dd zO,I_ ⟨q_ _,zO⟩,Nat.sub_zero]};{rw[zE (by rw[DW zO];omega),zE zO]}
def mX:(prog.info? 190).bind (·.zero)=zY (.agg (Value.slice zV 0 0::Ai4 1024 (Value.slice zV 0 0)).toArray):=zX
def YG(j:Nat)(H:Aa):(IW [] j).ok H (.slice zV 0 0):=X_.nil
def EX(a:P_):List (BitVec 256):=(a.edges.filter λe=> !e.sil).map λe=>e.set
def Pz(a:P_):List Nat:=(Am (EX a) 256).1
abbrev zD:List v_:=AX (Ai4 256 0) (.slice zV 0 0) (.slice zV 0 0) (.slice zV 0 0)
def Zf(e:t_):∀(j:Nat) (v:v_),(Av e.set)[j]?=zY v->(Dp e)[3+j]?=zY v:=by intro j v h;unfold Dp;rw[zL zZ];simpa using h
def Ui{i:Nat}{e:t_}(h:a.edges[i]?=zY e):((a.edges.take (i+1)).filter λe=> !e.sil).map (λe=>e.set)=(((a.edges.take i).filter λe=> !e.sil).map λe=>e.set)++if e.sil then []else [e.set]:=by rw[Ac h,vM,xF];cases hs:e.sil<;>simp[hs]
def bE{row:List Nat}{m k t:Nat}(a:row.length=k)(e:k<m):(AK row++Ai4 (m-row.length) 0).set k (t:Int)=AK (row++[t])++Ai4 (m-(row++[t]).length) 0:=by
 have b:(AK row).length=k:=by unfold AK;rw[k_,a]
 obtain⟨d,c⟩:∃d,m-row.length=d+1:=⟨m-row.length-1,zO⟩;rw[c,List.replicate_succ,tM _ _ zO,b,wP,List.set_cons_zero];unfold AK;rw[xF,List.append_assoc,M_,show m-(row.length+[t].length)=d by simp only[c_,h_];omega];rfl
noncomputable def rY(a:P_)(budget:Nat)(H H':Aa)(r:v_):Prop:=C_ (H_ H) H H'/\
 match CS budget (Be a) (Pz a) (Da (Gm a))with
 | none=>∃l:List v_,r= .tuple #[.agg l.toArray,A_ 40]/\l.length=259/\l.all (·.oneCell')=zW/\∃x n c,l[257]?=zY (.slice x n c)
 | some (F,rows)=>∃v,r= .tuple #[v,A_ 0]/\Fb (C8 H H') H' v ⟨U' (Am (EX a) 256).2,U' (Pz a),rows.map AK,F.map λl=>zT (a.fin∈l)⟩
def aO{S0:Nat->Prop}{budget:Nat}(bf:∀k,S0 k->k<H.size)(h:rZ S0 H v a)(h8:1<=budget)(h9:budget<=4096):
  Aj prog 39 #[v,A_ budget] H λr H'=>rY a budget H H' r:=by
 have hr:=h.1;have hl:=h.2.1;have d1:zT ((budget:Int)<1)=zU:=Z_;have d2:zT ((4096:Int)<(budget:Int))=zU:=Z_;have gx:=KH a;refine Aj.of_vc func39 rfl (call39 _) (ZM h λea ec ew w=>?_);subst ew;intro p H1 hp ey d9 ez;have J_:=(St.nil H).box hp ey d9 ez;refine Ag _ zD rfl zX ?_;intro p4 H2 f0 f1 da f2;have db:=J_.box f0 f1 da f2;(conv=>whnf);rw[d1];(conv=>whnf);rw[d2];have dc:=db.nils tB 157;have de:∀i,(((a.edges.take i).filter λe=> !e.sil).map λe=>e.set).length<=i:=λi=>by{rw[k_];exact yV (uG _ _) (List.length_take_le _ _)};(conv=>whnf);refine Ay.mk [6,7] (λx:Nat×Option Addr×Nat=>match x with | (i,a5,c5)=>[.slice a5 (((a.edges.take i).filter λe=> !e.sil).map λe=>e.set).length c5,A_ i]) (λx H3=>match x with | (i,a5,c5)=>i<=a.edges.length/\St H H3 [pB 81 p (n_ a (.slice ea a.edges.length ec)),pB 43 p4 zD,pS tB 157 a5 (((a.edges.take i).filter λe=> !e.sil).map λe=>e.set).length c5 (((a.edges.take i).filter λe=> !e.sil).map λe=>e.set)]) (λx _=>a.edges.length-x.1) ?_ ?_;{(conv=>whnf);exact⟨(0,zV,0),rfl,q_ _,dc⟩};{
 rintro⟨i,a5,c5⟩ H3 f3 ⟨hi,I⟩;have ag:=de i;have ah:=I.blk 0 rfl;refine F_ Dw ?_;refine D_ (v:=.slice ea a.edges.length ec) GJ (by rw[ah.cell];rfl) zA ?_;refine AD.m2 (λhz=>?_) (λhz=>?_);{have⟨e,he⟩:=Ab (l:=a.edges) (k:=i) zO;have a7:=Ui he;refine Au.run (F_ Dw ?_);refine D_ (v:=.slice ea a.edges.length ec) GJ (by rw[ah.cell];rfl) zA ?_;refine Y' (i:=i) GD (w.frame (I.old.mono bf)) he rfl ?_;rintro b6 o6 c6 f4 c2 ⟨rfl,cd⟩;refine F_ LT (D_ (v:=.bool e.sil) M' (c2 2 _ rfl) zA ?_);cases Z:e.sil with|true=>rw[Z,I_ rfl,List.append_nil]at a7;(conv=>whnf);rw[Q_ i zO];refine⟨rfl,(i+1,a5,c5),by simp only[a7];simp,⟨zO,?_⟩,by simp only;omega⟩;rw[a7];exact I|false=>rw[Z,G_ zQ]at a7;refine F_ Dw ?_;refine D_ (v:=.slice ea a.edges.length ec) GJ (by rw[ah.cell];rfl) zA ?_;refine Y' (i:=i) GD (w.frame (I.old.mono bf)) he rfl ?_;rintro b7 o7 c7 f5 ce ⟨rfl,cd⟩;refine F_ Oa ?_;refine L_ (cs:=Av e.set) (by rw[show(Av e.set).length=256 from BT _ _];exact Nf) (λj v hv=>by rw[oE];exact ce (3+j) v (Zf e j v hv)) zA ?_;refine As WS (Av e.set) rfl (BT _ _) zQ zQ ?_;intro q8 H8 f6 ha f7 f8;refine I9 (ys:=[e.set]) (I.skip f6 f8) 2 WS rfl (f7.cells (o:=0) (cs:=Av e.set) λj v hv=>by rw[K_];exact hv) (Ty.reps_one rfl) rfl (λu hu=>zM.1 (FM e.set 256) u hu) (by unfold maxLen;simp only[c_,h_];omega) (by simp only[c_,h_];omega) λa9 c9 H9 a0 _=>?_;have e2:(((a.edges.take i).filter λe=> !e.sil).map λe=>e.set).length+[e.set].length=(((a.edges.take (i+1)).filter λe=> !e.sil).map λe=>e.set).length:=by{rw[a7];exact M_.symm};rw[<-a7,e2]at a0;rw[e2];(conv=>whnf);rw[Q_ i zO];exact⟨rfl,(i+1,a9,c9),zZ,⟨zO,a0⟩,by simp only;omega⟩};{
 obtain rfl:i=a.edges.length:=zO;rw[zH]at I ag;rw[zH];change St H H3 [_,_,pS tB 157 a5 (EX a).length c5 (EX a)]at I;change (EX a).length<=_ at ag;rw[show((a.edges.filter λe=> !e.sil).map λe=>e.set)=EX a from rfl];refine Ae.mk (Pr a5 c5 (EX a) (H_ H3) H3 (λk hk=>hk) (I.view 2 rfl) zO) ?_;rintro v5 H5 ⟨f9,-,ra,rc,rfl,ai⟩;have J:(U' (Am (EX a) 256).2).length=256:=by rw[Cz];exact(CP (EX a) 256).plen
 have bo:∀r∈(Am (EX a) 256).1,r<256:=λr hr=>by have⟨i,hi⟩:=xI hr;exact((CP (EX a) 256).first i r hi).1
 have cg:(Am (EX a) 256).1.length<=256:=(CP (EX a) 256).flen;obtain⟨reps,aj⟩:∃reps,reps=(Am (EX a) 256).1:=⟨_,rfl⟩;obtain⟨cell,ak⟩:∃cell,cell=U' (Am (EX a) 256).2:=⟨_,rfl⟩;rw[<-aj]at ai bo cg;rw[<-ak]at J;rw[<-aj,<-ak];have am:rY a budget=fun(H H':Aa) (r:v_)=>C_ (H_ H) H H'/\match CS budget (Be a) reps (Da (Gm a))with
  | none=>∃l:List v_,r= .tuple #[.agg l.toArray,A_ 40]/\l.length=259/\l.all (·.oneCell')=zW/\∃x n c,l[257]?=zY (.slice x n c)
  | some (F,rows)=>∃v,r= .tuple #[v,A_ 0]/\Fb (C8 H H') H' v ⟨cell,U' reps,rows.map AK,F.map λl=>zT (a.fin∈l)⟩:=by
  rw[aj,ak];rfl
 rw[am];clear am;have ch:=I.add f9 (pV ra rc (U' reps) (C8 H3 H5)) ai (λk hk=>hk);obtain⟨SV,fe⟩:∃SV,SV=C8 H3 H5:=⟨_,rfl⟩;rw[<-fe]at ch;have f:∀nv fv,(AX cell (.slice ra reps.length rc) nv fv).length=259:=λnv fv=>Aq J;refine Ag _ zD rfl zX ?_;intro p8 H6 ff fg fh fj;have df:=ch.box ff fg fh fj;refine A9 (cs:=AX cell (.slice ra reps.length rc) (.slice zV 0 0) (.slice zV 0 0)) df 4 (by rw[f];rfl) rfl (by rw[f];decide) (Bb rfl rfl rfl) λH7 a8=>?_;rw[Br (by rw[f];rfl)]at a8;refine cJ hr hl (a8.blk 0 rfl) PU zA (w.frame (a8.old.mono bf)) λv8 fk=>(Ae.mk (fK (λk hk=>a8.up (bf k hk)) fk) ?_);rintro _ H8 ⟨nb,tb,ma,mc,vt,rfl,u8⟩;have ci:=a8.cat u8;rw[<-cH]at ci;refine Az underlying190 rfl _ mX (Value.slice zV 0 0::Ai4 1024 (Value.slice zV 0 0)) rfl (Cd (Value.slice zV 0 0::Ai4 1024 (Value.slice zV 0 0)) rfl ?_);intro bb H9 fm fo fp fq;have a0:St H H9 [pB wJ nb (xW (AY a) (.slice (T_ tb) (AY a) (AY a)) (.slice ma (AY a) mc)),pT Eg 185 79 tb vt (I4 a),pS AI 4 ma (AY a) mc (yB (AY a) []),pN (zC a_) none_ 41 zV 0 0 [],pG HO bb (.slice zV 0 0) (Ai4 1024 (.slice zV 0 0)) (IW []),pN (zC a_) none_ 41 zV 0 0 [],pS AI 4 zV 0 0 [],pB 43 p8 (AX cell (.slice ra reps.length rc) (.slice zV 0 0) (.slice zV 0 0)),pV ra rc (U' reps) SV,pB 81 p (n_ a (.slice ea a.edges.length ec)),pB 43 p4 zD]:=(((((ci.box fm fo fp fq).gNew (ss:=IW []) 8 rfl YG).nils (zC a_) 41).nils (zC a_) 41).nils AI 4).pick [5,6,7,9,8,10,11,4,3,0,1] zQ;have dg:(Ai4 1024 (Value.slice zV 0 0)).length=1024:=zZ;generalize Ai4 1024 (Value.slice zV 0 0)=cj at*;have bp:∀q∈Da (Gm a),a.has q=zW:=λq hq=>Gq a q ((F0 (DZ (Gq a)) q).1 hq);have ck:a.has a.start=(zT (0<=a.start)&&zT (a.start<(AY a:Int))):=JW a a.start;(conv=>whnf);refine Au.cut (α:=Option Addr×Nat) [11] (λx=>[.slice x.1 (Da (Gm a)).length x.2]) (λx H10=>St H H10 [pB wJ nb (xW (AY a) (.slice (T_ tb) (AY a) (AY a)) (.slice ma (AY a) mc)),pT Eg 185 79 tb vt (I4 a),pS AI 4 ma (AY a) mc (yB (AY a) []),pS a_ 3 x.1 (Da (Gm a)).length x.2 (Da (Gm a)),pN (zC a_) none_ 41 zV 0 0 [],pG HO bb (.slice zV 0 0) cj (IW []),pN (zC a_) none_ 41 zV 0 0 [],pS AI 4 zV 0 0 [],pB 43 p8 (AX cell (.slice ra reps.length rc) (.slice zV 0 0) (.slice zV 0 0)),pV ra rc (U' reps) SV,pB 81 p (n_ a (.slice ea a.edges.length ec)),pB 43 p4 zD]) ?_ ?_;{have cm:=a0.blk 9 rfl;have fu:=a0.blk 0 rfl;have a1:a.has a.start=zU->Da (Gm a)=[]:=λK=>by{rw[KC (X:=Gm a) (l:=[]) (DZ (Gq a)) List.Pairwise.nil λq=>⟨λh=>(by cases h),λh=>by{obtain⟨r,⟨-,W⟩,-⟩:=h;rw[K]at W;cases W}⟩]};have bq:St H H9 [pB wJ nb (xW (AY a) (.slice (T_ tb) (AY a) (AY a)) (.slice ma (AY a) mc)),pT Eg 185 79 tb vt (I4 a),pS AI 4 ma (AY a) mc (yB (AY a) []),pS a_ 3 zV 0 0 [],pN (zC a_) none_ 41 zV 0 0 [],pG HO bb (.slice zV 0 0) cj (IW []),pN (zC a_) none_ 41 zV 0 0 [],pS AI 4 zV 0 0 [],pB 43 p8 (AX cell (.slice ra reps.length rc) (.slice zV 0 0) (.slice zV 0 0)),pV ra rc (U' reps) SV,pB 81 p (n_ a (.slice ea a.edges.length ec)),pB 43 p4 zD]:=(a0.nils a_ 3).pick [0,1,2,11,3,4,5,6,7,8,9,10] zQ;refine Ap.lex rfl zX (F_ M7 ?_);refine D_ (v:=A_ a.start) E_ (by rw[cm.cell];rfl) zA ?_;by_cases c0:0<=a.start;{have e0:zT (0<=a.start)=zW:=m_ c0;(conv=>whnf);rw[e0];refine F_ M7 ?_;refine D_ (v:=A_ a.start) E_ (by rw[cm.cell];rfl) zA ?_;refine F_ Je ?_;refine D_ (v:=A_ (AY a:Int)) E_ (by rw[fu.cell];rfl) zA ?_;by_cases c1:a.start<(AY a:Int);{have e1:zT (a.start<(AY a:Int))=zW:=m_ c1;have K:a.has a.start=zW:=by{rw[ck,e0,e1];rfl};(conv=>whnf);rw[e1];refine F_ M7 ?_;refine D_ (v:=A_ a.start) E_ (by rw[cm.cell];rfl) zA ?_;refine As AB [A_ a.start] rfl rfl zQ zQ ?_;intro y H10 hy dh di dj;have a2:St H H10 [pB wJ nb (xW (AY a) (.slice (T_ tb) (AY a) (AY a)) (.slice ma (AY a) mc)),pT Eg 185 79 tb vt (I4 a),pS AI 4 ma (AY a) mc (yB (AY a) []),pS a_ 3 (T_ y) [a.start].length 1 [a.start],pN (zC a_) none_ 41 zV 0 0 [],pG HO bb (.slice zV 0 0) cj (IW []),pN (zC a_) none_ 41 zV 0 0 [],pS AI 4 zV 0 0 [],pB 43 p8 (AX cell (.slice ra reps.length rc) (.slice zV 0 0) (.slice zV 0 0)),pV ra rc (U' reps) SV,pB 81 p (n_ a (.slice ea a.edges.length ec)),pB 43 p4 zD]:=(a0.new (T:=a_) (n:=1) (xs:=[a.start]) hy dh di dj (Ty.reps_one ⟨rfl,HF ⟨c0,zO⟩⟩) rfl (by unfold maxLen;omega)).pick [0,1,2,11,3,4,5,6,7,8,9,10] zQ;have e:(λq=>q∈[a.start])=λq=>q=a.start/\a.has a.start=zW:=funext λq=>propext (by simp[K]);refine QJ (X:=[a.start]) a2 (λq hq=>by rw[g_]at hq;subst hq;exact K) (by simp only[c_,h_];omega) hl λxa xc H11 E=>?_;rw[e]at E ⊢;(conv=>whnf);exact⟨rfl,(xa,xc),rfl,E⟩};{have e1:zT (a.start<(AY a:Int))=zU:=j_ c1;have K:a.has a.start=zU:=by{rw[ck,e0,e1];rfl};(conv=>whnf);rw[e1];(conv=>whnf);refine⟨rfl,(zV,0),by rw[a1 K];rfl,?_⟩;rw[a1 K];exact bq}};{have e0:zT (0<=a.start)=zU:=j_ c0;have K:a.has a.start=zU:=by{rw[ck,e0];rfl};(conv=>whnf);rw[e0];(conv=>whnf);refine⟨rfl,(zV,0),by rw[a1 K];rfl,?_⟩;rw[a1 K];exact bq}};{rintro⟨xa,xc⟩ H10 ej a2;simp only at a2;have co:(Da (Gm a)).length<=65536:=Kc _;have fw:N8 a [Da (Gm a)]:=λl hl=>by{rw[g_]at hl;subst hl;exact⟨bp,co⟩};have ao:By budget (Be a) reps (Da (Gm a)) 0=zY ([Da (Gm a)],[]):=rfl;generalize Da (Gm a)=l0 at*;refine kT (F:=[]) (S:=none_) (a2.pick [3,4,5,0,1,2,6,7,8,9,10,11] zQ) dg zZ (λq hq=>by have:=P_.has_iff.1 (bp q hq);omega) λsa sc vs S H11 D E=>?_;replace E:St H H11 [pB wJ nb (xW (AY a) (.slice (T_ tb) (AY a) (AY a)) (.slice ma (AY a) mc)),pT Eg 185 79 tb vt (I4 a),pS AI 4 ma (AY a) mc (yB (AY a) []),pN (zC a_) S 41 sa [l0].length sc [l0],pG HO bb (.slice sa [l0].length sc) vs (IW [l0]),pN (zC a_) none_ 41 zV 0 0 [],pS AI 4 zV 0 0 [],pB 43 p8 (AX cell (.slice ra reps.length rc) (.slice zV 0 0) (.slice zV 0 0)),pV ra rc (U' reps) SV,pB 81 p (n_ a (.slice ea a.edges.length ec)),pB 43 p4 zD]:=E.pick [2,3,4,0,1,5,6,7,8,9,10] zQ;clear a2 a0 ci a8 df ch I dc db J_ u8;(conv=>whnf);refine Ay.mk [5,12] (λq:Nat=>[A_ 0,A_ q]) (λq H4=>∃F rows sa sc vs S na nc fa fc Sn,q<=F.length/\F.length<=budget/\F.Nodup/\N8 a F/\rows.length=q/\By budget (Be a) reps l0 q=zY (F,rows)/\vs.length=1024/\St H H4 [pB wJ nb (xW (AY a) (.slice (T_ tb) (AY a) (AY a)) (.slice ma (AY a) mc)),pT Eg 185 79 tb vt (I4 a),pS AI 4 ma (AY a) mc (yB (AY a) []),pN (zC a_) S 41 sa F.length sc F,pG HO bb (.slice sa F.length sc) vs (IW F),pN (zC a_) Sn 41 na q nc (rows.map AK),pS AI 4 fa q fc ((F.take q).map λl=>zT (a.fin∈l)),pB 43 p8 (AX cell (.slice ra reps.length rc) (.slice na q nc) (.slice fa q fc)),pV ra rc (U' reps) SV,pB 81 p (n_ a (.slice ea a.edges.length ec)),pB 43 p4 zD]) (λq _=>budget-q) ?_ ?_;{(conv=>whnf);exact⟨0,rfl,[l0],[],sa,sc,vs,S,zV,0,zV,0,none_,q_ _,by simp only[c_,h_];omega,zZ,fw,rfl,ao,D,E⟩};{clear E D sa sc vs S;rintro q H12 ek ⟨F,rows,sa,sc,vs,S,na,nc,fa,fc,Sn,hc,dk,fx,dl,cp,br,D,G⟩;have dm:=G.gblk 4 rfl;refine F_ Fx ?_;refine D_ (v:=.slice sa F.length sc) DC (by rw[dm.cell];rfl) zA ?_;refine AD.m2 (λhz=>?_) (λhz=>?_);{have⟨x,hx⟩:=Ab (l:=F) (k:=q) zO;have⟨fy,fz⟩:=dl x (e_ hx);have P:By budget (Be a) reps l0 (q+1)=(reps.foldl (C4 budget (Be a) x) (zY (F,[]))).map λr=>(r.1,rows++[r.2]):=by{show(By budget (Be a) reps l0 q).bind _=_;rw[br];simp only[xO,hx]};refine F_ HD ?_;refine D_ (v:=.slice ra reps.length rc) C9 (by rw[(G.blk 7 rfl).cell,K_];exact ET J) zA ?_;refine EQ AB rfl zO zO zO zO ?_;intro rb H13 g0 dn bu dp;rw[zB]at bu ⊢;have g5:a_.reps none_ H13 (Ai4 reps.length (Value.int .i64 0)) (Ai4 reps.length (0:Int)):=by{have:=Ew (T:=a_) (S:=none_) (H:=H13) (c:=[Value.int .i64 0]) (v:=(0:Int)) ⟨rfl,HF ⟨zQ,zQ⟩⟩ reps.length;simpa using this};have m:=G.new (T:=a_) (n:=reps.length) (xs:=Ai4 reps.length (0:Int)) g0 dn (by simpa using bu) dp g5 zZ (by unfold maxLen;omega);(conv=>whnf);refine Ay.mk [14,15] (λi:Nat=>[.bool (zT (a.fin∈x.take i)),A_ i]) (λi H4=>i<=x.length/\St H H4 [pB wJ nb (xW (AY a) (.slice (T_ tb) (AY a) (AY a)) (.slice ma (AY a) mc)),pT Eg 185 79 tb vt (I4 a),pS AI 4 ma (AY a) mc (yB (AY a) []),pN (zC a_) S 41 sa F.length sc F,pG HO bb (.slice sa F.length sc) vs (IW F),pN (zC a_) Sn 41 na q nc (rows.map AK),pS AI 4 fa q fc ((F.take q).map λl=>zT (a.fin∈l)),pB 43 p8 (AX cell (.slice ra reps.length rc) (.slice na q nc) (.slice fa q fc)),pV ra rc (U' reps) SV,pB 81 p (n_ a (.slice ea a.edges.length ec)),pB 43 p4 zD,pS a_ 3 (T_ rb) reps.length reps.length (Ai4 reps.length (0:Int))]) (λi _=>x.length-i) ?_ ?_;{(conv=>whnf);exact⟨0,zZ,q_ _,m⟩};{clear m;rintro i H14 en ⟨hi,A⟩;have ap:=A.gblk 4 rfl;have dq:=A.blk 9 rfl;refine F_ Fx ?_;refine D_ (v:=.slice sa F.length sc) DC (by rw[ap.cell];rfl) zA ?_;refine zK (j:=q) Dt A 3 rfl hx rfl ?_;rintro b3 o3 c3 bg ab ⟨g6,g7,rfl,bh⟩;refine lT C9 ab.one ?_;refine AD.m2 (λcq=>?_) (λcq=>?_);{have⟨y,hy⟩:=Ab (l:=x) (k:=i) zO;have dr:=Ac hy;refine Ap.lex rfl zX ?_;by_cases hm:a.fin∈x.take i;{have e1:zT (a.fin∈x.take i)=zW:=m_ hm;have e2:zT (a.fin∈x.take (i+1))=zW:=m_ (by rw[dr];exact yS _ hm);(conv=>whnf);rw[e1];(conv=>whnf);rw[Q_ i zO];exact⟨rfl,i+1,by rw[e2];rfl,⟨zO,A⟩,zO⟩};{have e1:zT (a.fin∈x.take i)=zU:=j_ hm;have e2:zT (a.fin∈x.take (i+1))=(y==a.fin):=by{rw[dr,qH,yD,X',g_,beq_iff_eq];exact⟨λh=>(h.resolve_left hm).symm,λh=>.inr h.symm⟩};(conv=>whnf);rw[e1];refine F_ Fx ?_;refine D_ (v:=.slice sa F.length sc) DC (by rw[ap.cell];rfl) zA ?_;refine zK (j:=q) Dt A 3 rfl hx rfl ?_;rintro b4 o4 c4 dt bi ⟨g8,g9,rfl,a6⟩;refine D_ C9 bi.one zA (Y' (i:=i) AB a6 hy rfl ?_);rintro b5 o5 c5 du bj ⟨rfl,-⟩;refine D_ E_ bj.one zA (F_ RF ?_);refine D_ (v:=A_ a.fin) E_ (by rw[dq.cell];rfl) zA ?_;(conv=>whnf);rw[Q_ i zO];exact⟨rfl,i+1,by rw[e2];rfl,⟨zO,A⟩,zO⟩}};{obtain rfl:i=x.length:=zO;rw[zH];(conv=>whnf);refine Ay.mk [5,16] (λk:Nat=>[A_ 0,A_ k]) (λk H4=>∃F2 row sa sc vs S,k<=reps.length/\F2.length<=budget/\F2.Nodup/\N8 a F2/\F <+: F2/\row.length=k/\(reps.take k).foldl (C4 budget (Be a) x) (zY (F,[]))=zY (F2,row)/\vs.length=1024/\St H H4 [pB wJ nb (xW (AY a) (.slice (T_ tb) (AY a) (AY a)) (.slice ma (AY a) mc)),pT Eg 185 79 tb vt (I4 a),pS AI 4 ma (AY a) mc (yB (AY a) []),pN (zC a_) S 41 sa F2.length sc F2,pG HO bb (.slice sa F2.length sc) vs (IW F2),pN (zC a_) Sn 41 na q nc (rows.map AK),pS AI 4 fa q fc ((F.take q).map λl=>zT (a.fin∈l)),pB 43 p8 (AX cell (.slice ra reps.length rc) (.slice na q nc) (.slice fa q fc)),pV ra rc (U' reps) SV,pB 81 p (n_ a (.slice ea a.edges.length ec)),pB 43 p4 zD,pS a_ 3 (T_ rb) reps.length reps.length (AK row++Ai4 (reps.length-row.length) 0)]) (λk _=>reps.length-k) ?_ ?_;{(conv=>whnf);exact⟨0,rfl,F,[],sa,sc,vs,S,q_ _,dk,fx,dl,uB _,rfl,rfl,D,A⟩};{clear A ap dq bh ab bg dm D G;rintro k H15 eo ⟨F2,row,sa,sc,vs,S,hk,aq,ar,au,aw,Q,a4,D,M⟩;have cr:=E8 aw hx;refine F_ HD ?_;refine D_ (v:=.slice ra reps.length rc) C9 (by rw[(M.blk 7 rfl).cell,K_];exact ET J) zA ?_;refine AD.m2 (λcq=>?_) (λcq=>?_);{have⟨r,ct⟩:=Ab (l:=reps) (k:=k) zO;have cu:=bo r (e_ ct);have a3:=M.nils a_ 3;(conv=>whnf);refine Ay.mk [17,18] (λy:Nat×List Int×Option Addr×Nat=>match y with | (i,T,t5,t6)=>[.slice t5 T.length t6,A_ i]) (λy H4=>match y with | (i,T,t5,t6)=>i<=x.length/\T.length<=i*33554432/\(∀p,p∈T↔Ma a (·∈x.take i) r p)/\St H H4 [pB wJ nb (xW (AY a) (.slice (T_ tb) (AY a) (AY a)) (.slice ma (AY a) mc)),pT Eg 185 79 tb vt (I4 a),pS AI 4 ma (AY a) mc (yB (AY a) []),pN (zC a_) S 41 sa F2.length sc F2,pG HO bb (.slice sa F2.length sc) vs (IW F2),pN (zC a_) Sn 41 na q nc (rows.map AK),pS AI 4 fa q fc ((F.take q).map λl=>zT (a.fin∈l)),pB 43 p8 (AX cell (.slice ra reps.length rc) (.slice na q nc) (.slice fa q fc)),pV ra rc (U' reps) SV,pB 81 p (n_ a (.slice ea a.edges.length ec)),pB 43 p4 zD,pS a_ 3 (T_ rb) reps.length reps.length (AK row++Ai4 (reps.length-row.length) 0),pS a_ 3 t5 T.length t6 T]) (λy _=>x.length-y.1) ?_ ?_;{(conv=>whnf);refine⟨(0,[],zV,0),rfl,q_ _,q_ _,λp=>⟨λh=>(by cases h),λh=>?_⟩,a3⟩;obtain⟨e,-,-,-,h,-⟩:=h;simp at h};{clear a3;rintro⟨i,T,t5,t6⟩ H17 ep ⟨hi,cw,hT,g⟩;have R:=g.gblk 4 rfl;refine F_ Fx ?_;refine D_ (v:=.slice sa F2.length sc) DC (by rw[R.cell];rfl) zA ?_;refine zK (j:=q) Dt g 3 rfl cr rfl ?_;rintro b3 o3 c3 bg ab ⟨g6,g7,rfl,bh⟩;refine lT C9 ab.one ?_;refine AD.m2 (λga=>?_) (λga=>?_);{have⟨y,hy⟩:=Ab (l:=x) (k:=i) zO;have dv:=fy y (e_ hy);have⟨N,ax,O,cx⟩:=TT dv;have hd:0<=y/\y<(AY a:Int):=by{have:=JW a y;rw[dv]at this;simpa using this.symm};obtain⟨hg,hh,dw,-⟩:=g.row 1 rfl ax;refine Ap.lex rfl zX (F_ LV ?_);refine lT (v:=.slice (T_ tb) (AY a) (AY a)) Tg ((g.blk 0 rfl).ce rfl) ?_;refine F_ Fx ?_;refine D_ (v:=.slice sa F2.length sc) DC (by rw[R.cell];rfl) zA ?_;refine zK (j:=q) Dt g 3 rfl cr rfl ?_;rintro b4 o4 c4 dt bi ⟨g8,g9,rfl,a6⟩;refine D_ C9 bi.one zA (Y' (i:=i) AB a6 hy rfl ?_);rintro b5 o5 c5 du bj ⟨rfl,-⟩;refine D_ E_ bj.one zA (ix Um zO zO (D_ GJ (g.tcell 1 rfl dw (by rw[K_,zG])) zA ?_));(conv=>whnf);refine Ay.mk [17,20] (λz:Nat×List Int×Option Addr×Nat=>match z with | (j,T',t5,t6)=>[.slice t5 T'.length t6,A_ j]) (λz H4=>match z with | (j,T',t5,t6)=>j<=N.length/\T'.length<=i*33554432+j/\(∀p,p∈T'↔Ma a (·∈x.take i) r p\/∃e∈N.take j,e.sil=zU/\e.set.getLsbD r=zW/\p=e.to)/\St H H4 [pB wJ nb (xW (AY a) (.slice (T_ tb) (AY a) (AY a)) (.slice ma (AY a) mc)),pT Eg 185 79 tb vt (I4 a),pS AI 4 ma (AY a) mc (yB (AY a) []),pN (zC a_) S 41 sa F2.length sc F2,pG HO bb (.slice sa F2.length sc) vs (IW F2),pN (zC a_) Sn 41 na q nc (rows.map AK),pS AI 4 fa q fc ((F.take q).map λl=>zT (a.fin∈l)),pB 43 p8 (AX cell (.slice ra reps.length rc) (.slice na q nc) (.slice fa q fc)),pV ra rc (U' reps) SV,pB 81 p (n_ a (.slice ea a.edges.length ec)),pB 43 p4 zD,pS a_ 3 (T_ rb) reps.length reps.length (AK row++Ai4 (reps.length-row.length) 0),pS a_ 3 t5 T'.length t6 T']) (λz _=>N.length-z.1) ?_ ?_;{(conv=>whnf);exact⟨(0,T,t5,t6),rfl,q_ _,yV cw (Nat.le_add_right _ _),λp=>by rw[hT p];simp,g⟩};{clear g hT cw R a6 bi dt bj du bh ab bg;rintro⟨j,T',t5,t6⟩ H18 eu ⟨hj,gy,bm,d⟩;have⟨hn,ho,bv,cy⟩:=d.row 1 rfl ax;rw[dw]at bv;injection bv with e0;injection e0 with e1 e2 e3;subst e1;subst e3;refine AD.m2 (λgb=>?_) (λgb=>?_);{have⟨e,he⟩:=Ab (l:=N) (k:=j) zO;have⟨hw,i0,gc⟩:=(cx e).1 (e_ he);have i1:=P_.has_iff.1 gc;have cz:b_ tI SV H18 ra rc (U' reps):=d.at_ 8 rfl;have skip:(e.sil=zU->e.set.getLsbD r=zU)->∀p,p∈T'↔Ma a (·∈x.take i) r p\/∃e∈N.take (j+1),e.sil=zU/\e.set.getLsbD r=zW/\p=e.to:=λa1 p=>by{rw[bm p,Ac he];constructor;{rintro(h | ⟨e',w,W,Y,U⟩);{exact .inl h};{exact .inr ⟨e',yS _ w,W,Y,U⟩}};{rintro(h | ⟨e',w,W,Y,U⟩);{exact .inl h};{rcases X'.1 w with w | w;{exact .inr ⟨e',w,W,Y,U⟩};{rw[g_]at w;subst w;rw[a1 W]at Y;cases Y}}}};refine Au.run (Ap.lex rfl zX (Y' (i:=j) GD cy he rfl ?_));rintro b6 o6 c6 f4 c2 ⟨rfl,-⟩;refine F_ LT (D_ (v:=.bool e.sil) M' (c2 2 _ rfl) zA ?_);cases Z:e.sil with|true=>(conv=>whnf);rw[Q_ j zO];exact⟨rfl,(j+1,T',t5,t6),zZ,⟨zO,zO,skip λh=>(by rw[Z]at h;cases h),d⟩,by simp only;omega⟩|false=>{refine F_ HD ?_;refine D_ (v:=.slice ra reps.length rc) C9 (by rw[(d.blk 7 rfl).cell,K_];exact ET J) zA ?_;refine EK (i:=k) AB cz (Cz _).symm (GX ct) rfl ?_;rintro b7 o7 c7 f5 ce ⟨rfl,-⟩;refine D_ E_ ce.one zA (Y' (i:=j) GD cy he rfl ?_);rintro b8 o8 c8 i2 gd ⟨rfl,-⟩;refine F_ Oa (s_ CC zO zO ?_);refine D_ (v:=.bool (e.set.getLsbD r)) M' (by rw[(zO:o8+3+(r:Int).toNat*1=o8+(3+r))];exact gd (3+r) _ (Ze e cu)) zA ?_;cases bw:e.set.getLsbD r with|false=>(conv=>whnf);rw[Q_ j zO];exact⟨rfl,(j+1,T',t5,t6),zZ,⟨zO,zO,skip λ_=>bw,d⟩,by simp only;omega⟩|true=>{refine Y' (i:=j) GD cy he rfl ?_;rintro b9 o9 c9 i3 gf ⟨rfl,cd⟩;refine F_ Gh (D_ (v:=A_ e.to) E_ (gf 1 _ rfl) zA (As AB [A_ e.to] rfl rfl zQ zQ ?_));intro i4 H19 dx gz dy dz;refine kW (ys:=[e.to]) (d.skip dx dz) 12 AB rfl (dy.cells (o:=0) (cs:=[A_ e.to]) λj v hv=>by rw[K_];exact hv) (Ty.reps_one ⟨rfl,cd.2⟩) rfl (λu hu=>by cases g_.1 hu;rfl) (by simp only[c_,h_];omega) zQ λgg gh H20 B _=>?_;have el:T'.length+[e.to].length=(T'++[e.to]).length:=zZ;rw[el]at B ⊢;(conv=>whnf);rw[Q_ j zO];refine⟨rfl,(j+1,T'++[e.to],gg,gh),zZ,⟨zO,by simp only[M_,c_,h_];omega,λp=>?_,B⟩,by simp only;omega⟩;rw[X',bm p,Ac he,g_];constructor;{rintro((h | ⟨e',w,W,Y,U⟩) | h);{exact .inl h};{exact .inr ⟨e',yS _ w,W,Y,U⟩};{exact .inr ⟨e,zZ,Z,bw,h⟩}};{rintro(h | ⟨e',w,W,Y,U⟩);{exact .inl (.inl h)};{rcases X'.1 w with w | w;{exact .inl (.inr ⟨e',w,W,Y,U⟩)};{rw[g_]at w;subst w;exact .inr U}}}}}};{obtain rfl:j=N.length:=zO;rw[zH]at bm;(conv=>whnf);rw[Q_ i zO];refine⟨rfl,(i+1,T',t5,t6),zZ,⟨zO,zO,λp=>?_,d⟩,by simp only;omega⟩;rw[bm p,Ac hy];unfold Ma;constructor;{rintro(⟨e,w,W,Y,U,h5,h6⟩ | ⟨e,w,W,Y,U⟩);{exact⟨e,w,W,Y,yS _ U,h5,h6⟩};{have⟨g1,g2,g3⟩:=(cx e).1 w;exact⟨e,g1,W,Y,by rw[g2];simp,g3,U⟩}};{rintro⟨e,w,W,Y,U,h5,h6⟩;rcases X'.1 U with U | U;{exact .inl ⟨e,w,W,Y,U,h5,h6⟩};{rw[g_]at U;exact .inr ⟨e,(cx e).2 ⟨w,U,h5⟩,W,Y,h6⟩}}}}};{obtain rfl:i=x.length:=zO;rw[zH]at hT;have gi:∀q∈T,a.has q=zW:=λq hq=>by{obtain⟨e,-,-,-,-,h5,rfl⟩:=(hT q).1 hq;exact h5};have e4:(λq=>q∈T)=Ma a (·∈x) r:=funext λq=>propext (hT q);have e6:T.length<=2199023255552:=yV cw (by have:=Nat.mul_le_mul_right 33554432 fz;omega);have e7:Da (clS a λq=>q∈T)=Be a x r:=by{rw[e4];rfl};have V:(reps.take (k+1)).foldl (C4 budget (Be a) x) (zY (F,[]))=(L' budget F2 (Be a x r)).map λt=>(t.1,row++[t.2]):=by{rw[Ac ct,xP,a4];rfl};clear bh ab bg R;refine QJ (X:=T) (g.pick [0,1,2,12,3,4,5,6,7,8,9,10,11] zQ) gi e6 hl λla lc H18 d=>?_;rw[e7]at d ⊢;have gj:∀q∈Be a x r,a.has q=zW:=KO;have gk:(Be a x r).length<=65536:=MX;have e8:∀q∈Be a x r,0<=q/\q<65536:=λq hq=>by{have:=P_.has_iff.1 (gj q hq);omega};have e9:∀t F3,L' budget F2 (Be a x r)=zY (F3,t)->F3.length<=budget/\F3.Nodup/\N8 a F3/\F <+: F3:=λt F3 h=>by{have⟨z1,z2,z3,z4⟩:=IA h aq ar;exact⟨z2,z3,au.at_ h,aw.trans z4⟩};have d0:L' budget F2 (Be a x r)=zV->CS budget (Be a) reps l0=zV:=λh=>by{rw[h]at V;have a1:reps.foldl (C4 budget (Be a) x) (zY (F,[]))=zV:=by{have Y:=(uM (k+1) reps).symm;rw[Y,xP,V];exact Fp x _};exact K4 (n:=q) (by rw[P,a1];rfl) zO};generalize Be a x r=L at*;have ay:St H H18 [pN (zC a_) S 41 sa F2.length sc F2,pG HO bb (.slice sa F2.length sc) vs (IW F2),pB wJ nb (xW (AY a) (.slice (T_ tb) (AY a) (AY a)) (.slice ma (AY a) mc)),pT Eg 185 79 tb vt (I4 a),pS AI 4 ma (AY a) mc (yB (AY a) []),pN (zC a_) Sn 41 na q nc (rows.map AK),pS AI 4 fa q fc ((F.take q).map λl=>zT (a.fin∈l)),pB 43 p8 (AX cell (.slice ra reps.length rc) (.slice na q nc) (.slice fa q fc)),pV ra rc (U' reps) SV,pB 81 p (n_ a (.slice ea a.edges.length ec)),pB 43 p4 zD,pS a_ 3 (T_ rb) reps.length reps.length (AK row++Ai4 (reps.length-row.length) 0)]:=d.pick [4,5,0,1,2,6,7,8,9,10,11,12] zQ;refine Al (aS ay D ar zO (λz hz=>(au z hz).2) (d.view 3 rfl) e8 gk) λH19 eb=>?_;have C:=d.call eb;clear d ay;(conv=>whnf);refine Au.cut (α:=Nat) [5,22] (λt=>[A_ 0,A_ t]) (λt H4=>∃F3 sa sc vs S,L' budget F2 L=zY (F3,t)/\vs.length=1024/\St H H4 [pB wJ nb (xW (AY a) (.slice (T_ tb) (AY a) (AY a)) (.slice ma (AY a) mc)),pT Eg 185 79 tb vt (I4 a),pS AI 4 ma (AY a) mc (yB (AY a) []),pN (zC a_) S 41 sa F3.length sc F3,pG HO bb (.slice sa F3.length sc) vs (IW F3),pN (zC a_) Sn 41 na q nc (rows.map AK),pS AI 4 fa q fc ((F.take q).map λl=>zT (a.fin∈l)),pB 43 p8 (AX cell (.slice ra reps.length rc) (.slice na q nc) (.slice fa q fc)),pV ra rc (U' reps) SV,pB 81 p (n_ a (.slice ea a.edges.length ec)),pB 43 p4 zD,pS a_ 3 (T_ rb) reps.length reps.length (AK row++Ai4 (reps.length-row.length) 0)]) ?_ ?_;{(conv=>whnf);cases hf:F2.findIdx? (·=L)with|some t=>have e1:PX F2 L=(t:Int):=by{unfold PX;rw[hf]};have az:L' budget F2 L=zY (F2,t):=by{unfold L';rw[hf]};have d3:zT (PX F2 L<0)=zU:=by{rw[e1];exact Z_};(conv=>whnf);rw[d3];(conv=>whnf);exact⟨rfl,t,by rw[e1],F2,sa,sc,vs,S,az,D,C.pick [0,1,2,4,5,6,7,8,9,10,11,12] zQ⟩|none=>have e1:PX F2 L= -1:=by{unfold PX;rw[hf]};have d3:zT (PX F2 L<0)=zW:=by{rw[e1];rfl};(conv=>whnf);rw[d3];refine F_ Fx ?_;refine D_ (v:=.slice sa F2.length sc) DC (by rw[(C.gblk 5 rfl).cell];rfl) zA ?_;by_cases d5:F2.length=budget;{have d4:((F2.length:Int)==(budget:Int))=zW:=by{rw[d5];simp};have az:L' budget F2 L=zV:=by{unfold L';rw[hf];simp only;rw[G_ zO]};have b0:=d0 az;(conv=>whnf);rw[d4];refine Ae.mk (Jl H19) ?_;rintro v3 H20 ⟨bd,-,gl⟩;obtain⟨ae,x1,x2,x3,x4,x5,x6,rfl,-,-,-⟩:=gl;have B:=C.call bd;refine A9 (cs:=AX AC.cell (.slice x1 AC.reps.length x2) (.slice x3 AC.next.length x4) (.slice x5 AC.final.length x6)) B 11 (by rw[Aq ae];rfl) rfl (by rw[Aq ae];decide) (Bb rfl rfl rfl) λH21 s=>?_;rw[Br (by rw[Aq ae];rfl)]at s;refine L_ (cs:=AX AC.cell (.slice x1 AC.reps.length x2) (.slice x3 AC.next.length x4) (.slice x5 AC.final.length x6)) (by rw[Aq ae];exact Ec) ((s.blk 11 rfl).cells λj v hv=>by rw[K_];exact hv) zA ?_;refine⟨s.old,?_⟩;rw[b0];exact⟨_,rfl,Aq ae,Bb rfl rfl rfl,_,_,_,Do ae⟩};{have d4:((F2.length:Int)==(budget:Int))=zU:=beq_eq_false_iff_ne.2 zO;have az:L' budget F2 L=zY (F2++[L],F2.length):=by{unfold L';rw[hf];simp only;rw[I_ zO]};(conv=>whnf);rw[d4];refine kT (F:=F2) (S:=S) (C.pick [3,4,5,0,1,2,6,7,8,9,10,11,12] zQ) D zO e8 λgm gn gp S2 H20 ed B=>?_;(conv=>whnf);exact⟨rfl,F2.length,rfl,F2++[L],gm,gn,gp,S2,az,ed,B.pick [2,3,4,0,1,5,6,7,8,9,10,11] zQ⟩}};{rintro t H20 ev ⟨F3,sa,sc,vs,S,d6,D,B⟩;have⟨g1,g2,g3,g4⟩:=e9 t F3 d6;obtain⟨-,i5⟩:=VV d6 aq;have gq:(AK row++Ai4 (reps.length-row.length) 0).length=reps.length:=by{unfold AK;rw[M_,k_,List.length_replicate];omega};refine ix AB zO zO ?_;refine IS (j:=k) (x:=(t:Int)) B 11 E_ rfl rfl zO (by rw[gq];omega) rfl (λH' _=>⟨rfl,HF ⟨zO,zO⟩⟩) λH21 s=>?_;rw[bE Q zO]at s;rw[d6]at V;(conv=>whnf);rw[Q_ k zO];exact⟨rfl,k+1,zZ,⟨F3,row++[t],sa,sc,vs,S,zO,g1,g2,g3,g4,by simp[Q],V,D,s⟩,zO⟩}}}};{obtain rfl:k=reps.length:=zO;rw[zH]at a4;have gr:(AK row).length=reps.length:=by{unfold AK;rw[k_,Q]};have gs:AK row++Ai4 (reps.length-row.length) 0=AK row:=by{rw[Q,wP];simp};rw[gs]at M;rw[a4]at P;simp only[wB]at P;have O:(rows.map AK).length=q:=by{rw[k_];exact cp};have ee:((F2.take (q+1)).map λl=>zT (a.fin∈l))=((F.take q).map λl=>zT (a.fin∈l))++[zT (a.fin∈x)]:=by{obtain⟨t,rfl⟩:=aw;rw[oI zO,Ac hx,xF];rfl};have be:((F.take q).map λl=>zT (a.fin∈l)).length=q:=by{rw[k_,wK];omega};obtain⟨i6,i7,er,d7,-⟩:=(M.at_ 11 rfl).1.view (S':=O_ (.slice (T_ rb) reps.length reps.length)) (λb hb=>hb) (λb hb=>hb.elim);injection er with er1 er2 er3;subst er1;subst er3;have a3:=B_.absorb (M.pick [5,11,0,1,2,3,4,6,7,8,9,10] zQ);refine F_ El ?_;refine D_ (v:=.slice na q nc) DC (by rw[(a3.blk 7 rfl).cell,K_];exact Do J) zA ?_;refine As Dt [.slice (T_ rb) reps.length reps.length] rfl rfl zQ zQ ?_;intro i8 H17 ef h0 eg bx;have g:=a3.skip ef bx;have bn:b_ a_ (λk=>Sn k\/O_ (.slice (T_ rb) reps.length reps.length) k) H17 (T_ rb) reps.length (AK row):=(d7.frame (bx.mono λk hk=>by{have:=(M.in_ 11 rfl (.inl hk)).2;omega})).mono λk hk=>.inr hk;refine SJ (row:=AK row) g Dt (eg.cells λj v hv=>by rw[K_];exact hv) ⟨zY ⟨rb,0,zV⟩,reps.length,by rw[gr],bn⟩ rfl (λu hu=>by cases g_.1 hu;rfl) (by rw[O];omega) zQ λgt gu H18 d=>?_;have e5:rows.map AK++[AK row]=(rows++[row]).map AK:=zZ;rw[O,e5]at d;rw[O];refine F_ El ?_;refine AZ d 7 DC rfl (by rw[f];decide) rfl λH19 C=>?_;rw[K_,JP J]at C;refine F_ Cl ?_;refine D_ (v:=.slice fa q fc) Dn (by rw[(C.blk 7 rfl).cell,K_];exact Ek J) zA ?_;refine As C7 [.bool (zT (a.fin∈x))] rfl rfl zQ zQ ?_;intro i9 H20 eh h7 ei bd;refine GI (x:=zT (a.fin∈x)) (C.skip eh bd) 6 C7 rfl ei rfl rfl (by rw[be];omega) zQ λgv gw H21 s _=>?_;rw[be,<-ee]at s;rw[be];refine F_ Cl ?_;refine AZ s 7 Dn rfl (by rw[f];decide) rfl λH22 bz=>?_;rw[K_,DE J]at bz;(conv=>whnf);rw[Q_ q zO];refine⟨rfl,q+1,zZ,⟨F2,rows++[row],sa,sc,vs,S,gt,gu,gv,gw,_,?_,aq,ar,au,by simp[cp],P,D,bz.pick [1,2,3,4,5,0,6,7,8,9,10] zQ⟩,zO⟩;have:=(V_.1 cr).1;omega}}}}};{obtain rfl:q=F.length:=zO;have O:(rows.map AK).length=F.length:=by{rw[k_];exact cp};have b0:=K3 br rfl dk;rw[zH]at G;have d8:(F.map λl=>zT (a.fin∈l)).length=F.length:=k_ _;refine L_ (cs:=AX cell (.slice ra reps.length rc) (.slice na F.length nc) (.slice fa F.length fc)) (by rw[f];exact Ec) ((G.blk 7 rfl).cells λj v hv=>by rw[K_];exact hv) zA ?_;refine A9 (cs:=AX cell (.slice ra reps.length rc) (.slice na F.length nc) (.slice fa F.length fc)) G 10 (by rw[f];rfl) rfl (by rw[f];decide) (Bb rfl rfl rfl) λH13 m=>?_;rw[Br (by rw[f];rfl)]at m;refine L_ (cs:=AX cell (.slice ra reps.length rc) (.slice na F.length nc) (.slice fa F.length fc)) (by rw[f];exact Ec) ((m.blk 10 rfl).cells λj v hv=>by rw[K_];exact hv) zA ?_;refine⟨m.old,?_⟩;rw[b0];refine⟨_,rfl,J,ra,rc,na,nc,fa,fc,?_,?_,St.viewF m 5 rfl,St.viewF m 6 rfl⟩;{rw[Cz,O,d8]};{have cz:b_ tI SV H13 ra rc (U' reps):=m.at_ 8 rfl;refine cz.mono λk hk=>?_;have h5:=m.in_ 8 rfl hk;unfold C8;have h6:¬H_ H k:=h5.1;unfold H_ at h6;omega}}}}}}
end
def Er(cells:List (BitVec 256))(g:Nat):Bool:=(AiN g).all λh=> !Ci cells g h
section
variable{cells:List (BitVec 256)}
def BG{a:Nat}:Ci cells a b=zW↔∀c∈cells,c.getLsbD a=c.getLsbD b:=by unfold Ci;simp
def HG:Er cells g=zW↔∀h,h<g->Ci cells g h=zU:=by unfold Er;simp
def Jb:∀h,Ci cells b h=zW->∃g,g<=h/\Ci cells b g=zW/\Er cells g=zW:=by intro h;induction h using Nat.strongRecOn with|_ h ih=>{intro i;by_cases j:Er cells h=zW;{exact⟨h,N_ _,i,j⟩};{have:∃a,a<h/\Ci cells h a=zW:=by{apply Classical.byContradiction;intro d;apply j;rw[HG];intro a e;cases hs:Ci cells h a with|false=>rfl|true=>exact absurd ⟨a,e,hs⟩ d};have⟨a,f,hs⟩:=this;have⟨g,g1,g2,l⟩:=ih a f (BG.2 λc k=>(BG.1 i c k).trans (BG.1 hs c k));exact⟨g,zO,g2,l⟩}}
end
def IV(cells:List (BitVec 256)):∀b,(Am cells b).1=(AiN b).filter (Er cells)
 | 0=>rfl
 | b+1=>by
   have a:=IV cells b;rw[wG,vM];cases c:(Am cells b).1.findIdx? λg=>Ci cells b g with
   | some k=>
     rw[Lf c];obtain⟨i,f,-⟩:=vP.1 c;have d:(Am cells b).1[k]∈(AiN b).filter (Er cells):=by rw[<-a];exact hU i
     have e:=yG.1 (yH.1 d).1;have:Er cells b=zU:=by
      cases j:Er cells b with
      | false=>rfl
      | true=>rw[HG.1 j _ e]at f;cases f
     rw[vU (by rw[this];decide)];simpa using a
   | none=>
     rw[OB c];have:Er cells b=zW:=by
      rw[HG];intro h m;cases hs:Ci cells b h with
      | false=>rfl
      | true=>
        have⟨g,g1,g2,l⟩:=Jb h hs;have d:g∈(Am cells b).1:=by rw[a];exact yH.2 ⟨yG.2 zO,l⟩
        have:=mJ.1 c g d;rw[g2]at this;cases this
     rw[vC this,a];rfl
def Ir(x y:BitVec 256):Prop:=∀c,x.getLsbD c=zW->y.getLsbD c=zU
def Rw{s b:BitVec 256}(h:x∈Ln s b):x=b &&& s\/x=b &&& ~~~s:=by have:=(yH.1 h).1;simpa using this
def LJ(sets:List (BitVec 256)):(D2 sets).Pairwise Ir:=by have e:∀(rest d:List (BitVec 256)),d.Pairwise Ir->(rest.foldl Nt d).Pairwise Ir:=by{intro rest;induction rest with|nil=>exact λd h=>h|cons s rest i=>{intro d h;refine i _ ?_;unfold Nt;rw[hH];refine⟨λb n=>?_,h.imp fun{x y} f u j v k c a=>?_⟩;{refine List.Pairwise.filter _ (rG.2 ⟨λy g c a=>?_,rE _ _⟩);rw[g_]at g;subst g;rw[wT,O']at a;rw[wT,rH,a.2];simp};{have l:x.getLsbD c=zW:=by{rcases Rw j with rfl | rfl<;>· rw[wT,O']at a;exact a.1};have m:=f c l;rcases Rw k with rfl | rfl<;>rw[wT,m,Bool.false_and]}}};exact e sets _ (rE _ _)
def UJ(sets:List (BitVec 256)):∀x∈D2 sets,∀c d,c<256->d<256->(∀s∈sets,s.getLsbD c=s.getLsbD d)->x.getLsbD c=x.getLsbD d:=by have i:∀(rest g:List (BitVec 256)) (c d:Nat),c<256->d<256->(∀x∈g,x.getLsbD c=x.getLsbD d)->(∀s∈rest,s.getLsbD c=s.getLsbD d)->∀x∈rest.foldl Nt g,x.getLsbD c=x.getLsbD d:=by{intro rest;induction rest with|nil=>exact λg c d _ _ h _=>h|cons s rest n=>{intro g c d e f h k;refine n _ c d e f (λx a=>?_) λo j=>k o (xQ _ j);have⟨b,p,a⟩:=sT.1 a;have l:=h b p;have m:=k s (xY ..);rcases Rw a with rfl | rfl;{rw[wT,wT,l,m]};{rw[wT,wT,rH,rH,l,m];simp[e,f]}}};intro x a c d e f hs;refine i sets _ c d e f (λx a=>?_) hs x a;rw[g_]at a;subst a;rw[tV,tV];simp[e,f]
def ZR{l:List (BitVec 256)}(h:l.Pairwise Ir)(a:∀x∈l,x.getLsbD b=zW)(d:l≠[]):∃x,l=[x]:=by match l,d with|[x],_=>exact⟨x,rfl⟩|x::y::r,_=>have c:=(rG.1 h).1 y zZ b (a x zZ);rw[a y zZ]at c;cases c
def Mm(sets:List (BitVec 256)):F8 sets=(AiN 256).filter (Er sets):=by have a:=KI sets;have i:∀b,b<256->(CR (D2 sets) b).map (λc=>(Bu c 0).1)=if Er sets b then [b]else []:=by{intro b o;have d:∀x∈CR (D2 sets) b,x∈D2 sets/\(Bu x 0).1=b/\x.getLsbD b=zW:=λx e=>by{have⟨j,q⟩:=yH.1 e;have p:(Bu x 0).1=b:=by{simpa using q};have g:=(IJ (a.ne x j)).1;rw[p]at g;exact⟨j,p,g⟩};cases k:Er sets b with|false=>{rw[G_ zQ];have:CR (D2 sets) b=[]:=by{apply Classical.byContradiction;intro m;have⟨x,e⟩:=List.exists_mem_of_ne_nil _ m;have⟨j,q,p⟩:=d x e;have:∃h,h<b/\Ci sets b h=zW:=by{apply Classical.byContradiction;intro r;have:Er sets b=zW:=HG.2 λh s=>by{cases hs:Ci sets b h with|false=>rfl|true=>exact absurd ⟨h,s,hs⟩ r};rw[k]at this;cases this};have⟨h,s,hs⟩:=this;have g:=UJ sets x j b h o zO (BG.1 hs);rw[p]at g;have A:=(IJ (a.ne x j)).2 h (by rw[q];exact s);rw[A]at g;cases g};rw[this];rfl}|true=>{rw[I_ rfl];have⟨x,e,f⟩:=a.all b o;have⟨B,C⟩:=IJ (a.ne x e);have t:(Bu x 0).1=b:=by{apply Classical.byContradiction;intro m;have u:(Bu x 0).1<b:=by{rcases sM b (Bu x 0).1 with h | h;{rw[C b h]at f;cases f};{omega}};have hs:=a.same x e b _ f B;have:=HG.1 k _ u;rw[BG.2 hs]at this;cases this};have n:x∈CR (D2 sets) b:=yH.2 ⟨e,by rw[t];simp⟩;have⟨y,w⟩:=ZR (l:=CR (D2 sets) b) (b:=b) ((LJ sets).filter _) (λz D=>(d z D).2.2) (hO n);rw[w];have:=(d y (by rw[w];simp)).2.1;simp only[wO,List.map_nil,this]}};unfold F8 BX;rw[List.map_flatMap];have v:∀l:List Nat,(∀b∈l,b<256)->(l.flatMap λb=>(CR (D2 sets) b).map λc=>(Bu c 0).1)=l.filter (Er sets):=by{intro l;induction l with|nil=>exact λ_=>rfl|cons b l E=>{intro h;rw[List.flatMap_cons,i b (h b (xY ..)),E λx e=>h x (xQ _ e)];cases k:Er sets b with|true=>rw[vC k];rfl|false=>rw[vU (by rw[k];decide)];rfl}};exact v _ λb o=>yG.1 o
section
attribute [local irreducible] Bt AH Am
section
variable{K:Type} [DecidableEq K]{most:Nat}{step:K->Nat->K}{start:K}{P:K->Prop}{x:K}
def Ub(s:Option (List K×List Nat))(b:Nat):(C4 most step x s b).map Prod.fst=(s.map Prod.fst).bind λf=>(L' most f (step x b)).map Prod.fst:=by cases s with|none=>rfl|some p=>simp only[C4,xO,wB];cases L' most p.1 (step x b)<;>rfl
def eI{f:List K}{k:K}{i:Nat}(b:f.Nodup)(h:f[i]?=zY k):L' most f k=zY (f,i):=by unfold L';have:f.findIdx? (·=k)=zY i:=by{rw[vP];have⟨a,e⟩:=V_.1 h;refine⟨a,by simpa using e,λj c=>?_⟩;have:=(wF.1 b) j i zO a c;rw[e]at this;simpa using this};rw[this]
def LI{F F':List K}{k:K}{i:Nat}(h:L' most F k=zY (F',i)):∀y∈F',y∈F\/y=k:=by intro y a;unfold L' at h;split at h;{injection h with h;injection h with h1 h2;subst h1;exact .inl a};{split at h;{injection h with h;injection h with h1 h2;subst h1;rcases X'.1 a with a | a;{exact .inl a};{rw[g_]at a;exact .inr a}};{cases h}}
def jT(hs:∀b,P (step x b)):∀(l:List Nat) (f f':List K) (r a:List Nat),l.foldl (C4 most step x) (zY (f,r))=zY (f',a)->(∀y∈f,P y)->∀y∈f',P y
 | [],f,f',r,a,h,hf=>by
   simp only[tN,AjO.injEq,Prod.mk.injEq]at h;obtain⟨rfl,-⟩:=h;exact hf
 | b::l,f,f',r,a,h,hf=>by
   rw[wU]at h;simp only[C4,xO]at h;cases c:L' most f (step x b)with
   | none=>rw[c]at h;rw[mQ,Fp]at h;cases h
   | some p=>
     rw[c]at h;refine jT hs l p.1 f' _ a h λy d=>?_;rcases LI (i:=p.2) c y d with e | rfl
     ·exact hf y e
     ·exact hs b
def Mp:∀(l:List Nat) (f f':List K) (r a:List Nat),l.foldl (C4 most step x) (zY (f,r))=zY (f',a)->f.length<=most->f.Nodup->f'.length<=most/\f'.Nodup/\f <+: f'/\∃c,a=r++c
 | [],f,f',r,a,h,h1,h2=>by
   simp only[tN,AjO.injEq,Prod.mk.injEq]at h;obtain⟨rfl,rfl⟩:=h;exact⟨h1,h2,uB _,[],zZ⟩
 | b::l,f,f',r,a,h,h1,h2=>by
   rw[wU]at h;simp only[C4,xO]at h;cases d:L' most f (step x b)with
   | none=>rw[d]at h;rw[mQ,Fp]at h;cases h
   | some p=>
     rw[d]at h;obtain⟨-,g1,g2,e⟩:=IA (i:=p.2) d h1 h2;have⟨g,j,k,c,m⟩:=Mp l p.1 f' _ a h g1 g2;exact⟨g,j,e.trans k,p.2::c,by rw[m];simp⟩
def Ey(g:1<=most)(h0:P start)(hs:∀y b,P y->P (step y b))(bs:List Nat):∀(n:Nat) (f:List K) (rows:List (List Nat)),By most step bs start n=zY (f,rows)->f.length<=most/\f.Nodup/\f[0]?=zY start/\∀y∈f,P y
 | 0,f,rows,h=>by
   simp only[By,AjO.injEq,Prod.mk.injEq]at h;obtain⟨rfl,-⟩:=h;exact⟨g,zZ,rfl,λy i=>by rw[g_]at i;subst i;exact h0⟩
 | n+1,f,rows,h=>by
   simp only[By]at h;cases c:By most step bs start n with
   | none=>rw[c]at h;cases h
   | some p=>
     have⟨g1,g2,j,d⟩:=Ey g h0 hs bs n p.1 p.2 c;rw[c]at h;simp only[xO]at h;cases e:p.1[n]? with
     | none=>
       rw[e]at h;simp only[AjO.injEq]at h;subst h;exact⟨g1,g2,j,d⟩
     | some x=>
       rw[e]at h;simp only at h;cases a:bs.foldl (C4 most step x) (zY (p.1,[]))with
       | none=>rw[a]at h;cases h
       | some r=>
         rw[a]at h;simp only[wB,AjO.injEq,Prod.mk.injEq]at h;obtain⟨rfl,-⟩:=h;obtain⟨k,l,m,-⟩:=Mp bs p.1 r.1 [] r.2 a g1 g2;exact⟨k,l,E8 m j,jT (λb=>hs x b (d x (e_ e))) bs p.1 r.1 [] r.2 a d⟩
def Yq(P:K->Prop)(step:K->Nat->K)(p:Nat->Bool):Prop:=∀b,b<256->p b=zU->∃g,g<b/\p g=zW/\∀x,P x->step x g=step x b
def XV{p:Nat->Bool}(e:Yq P step p)(h:P x){f:List K}(i:f.length<=most)(j:f.Nodup):∀m,m<=256->
  ((AiN m).foldl (C4 most step x) (zY (f,[]))).map Prod.fst=(((AiN m).filter p).foldl (C4 most step x) (zY (f,[]))).map Prod.fst:=by intro m;induction m with|zero=>intro _;rfl|succ m a=>{intro y;have a:=a zO;rw[wG,vM,xP,xP,wU,tN,Ub,a];cases b:p m with|true=>rw[vC b,oJ,wU,tN,Ub]|false=>{rw[vU (by rw[b];decide),oJ,tN];cases c:(AiN m).foldl (C4 most step x) (zY (f,[]))with|none=>rw[<-a,c];rfl|some q=>have⟨z,n⟩:=q;have⟨A,o,B,r,s⟩:=Nn i j c;have⟨g,u,v,hs⟩:=e m zO b;rw[List.length_range]at r;have⟨t,w⟩:=Ab (l:=n) (k:=g) zO;have d:=s g g t (wS u) w;rw[hs x h]at d;rw[<-a,c];simp only[wB,xO,eI o d]}}
def P2{p:Nat->Bool}(j:Yq P step p)(k:1<=most)(h0:P start)(hs:∀y b,P y->P (step y b)):∀n,(By most step (AiN 256) start n).map Prod.fst=(By most step ((AiN 256).filter p) start n).map Prod.fst
 | 0=>rfl
 | n+1=>by
   have c:=P2 j k h0 hs n;simp only[By];cases h:By most step (AiN 256) start n with
   | none=>
     rw[h]at c;cases g:By most step ((AiN 256).filter p) start n with
     | none=>rfl
     | some q=>rw[g]at c;cases c
   | some q=>
     rw[h]at c;cases g:By most step ((AiN 256).filter p) start n with
     | none=>rw[g]at c;cases c
     | some l=>
       rw[g]at c;simp only[wB,AjO.injEq]at c;have⟨f,rows⟩:=q;have⟨s,i⟩:=l;simp only at c;subst c;have⟨g1,g2,t,m⟩:=Ey k h0 hs _ n f rows h;simp only[xO];cases o:f[n]? with
       | none=>rfl
       | some x=>
         have e:=XV j (m x (e_ o)) g1 g2 256 (N_ _);cases d:(AiN 256).foldl (C4 most step x) (zY (f,[]))with
         | none=>
           rw[d]at e;cases a:((AiN 256).filter p).foldl (C4 most step x) (zY (f,[]))with
           | none=>simp only[d,a];rfl
           | some r=>rw[a]at e;cases e
         | some r=>
           rw[d]at e;cases a:((AiN 256).filter p).foldl (C4 most step x) (zY (f,[]))with
           | none=>rw[a]at e;cases e
           | some u=>
             rw[a]at e;simp only[d,a];simpa using e
def Du(most:Nat)(step:K->Nat->K)(start:K):Option (List K):=(CS most step (AiN 256) start).map Prod.fst
def NN{p:Nat->Bool}(a:Yq P step p)(c:1<=most)(h0:P start)(hs:∀y b,P y->P (step y b)):(CS most step ((AiN 256).filter p) start).map Prod.fst=Du most step start:=(P2 a c h0 hs most).symm
def Ud(e:1<=most){bs:List Nat}:∀(k n:Nat) (f:List K) (rows:List (List Nat)),By most step bs start (n+k)=zY (f,rows)->∃b a,By most step bs start n=zY (b,a)/\b <+: f
 | 0,n,f,rows,h=>⟨f,rows,h,uB _⟩
 | k+1,n,f,rows,h=>by
   rw[<-oE]at h;simp only[By]at h;cases c:By most step bs start (n+k)with
   | none=>rw[c]at h;cases h
   | some p=>
     have⟨b,a,g,e2⟩:=Ud e k n p.1 p.2 c;obtain⟨g1,g2,-⟩:=Ey (P:=λ_=>True) e zA (λ_ _ _=>trivial) bs (n+k) p.1 p.2 c;rw[c]at h;simp only[xO]at h;cases i:p.1[n+k]? with
     | none=>
       rw[i]at h;simp only[AjO.injEq]at h;subst h;exact⟨b,a,g,e2⟩
     | some x=>
       rw[i]at h;simp only at h;cases d:bs.foldl (C4 most step x) (zY (p.1,[]))with
       | none=>rw[d]at h;cases h
       | some r=>
         rw[d]at h;simp only[wB,AjO.injEq,Prod.mk.injEq]at h;obtain⟨rfl,-⟩:=h;exact⟨b,a,g,e2.trans (Mp bs p.1 r.1 [] r.2 d g1 g2).2.2.1⟩
def LM(b:1<=most){bs:List Nat}{F:List K}{rows:List (List Nat)}(h:CS most step bs start=zY (F,rows)):By most step bs start F.length=zY (F,rows):=by obtain⟨g1,-⟩:=Ey (P:=λ_=>True) b zA (λ_ _ _=>trivial) bs most F rows h;obtain⟨f,a,c,e2⟩:=Ud b (most-F.length) F.length F rows (by rw[(zO:F.length+(most-F.length)=most)];exact h);have d:=L6 c e2.length_le most g1;have e:By most step bs start most=zY (F,rows):=h;rw[e]at d;rw[c];exact d.symm
def Y8{a:Nat}{f f':List K}{k:K}{i:Nat}(h:L' most f k=zY (f',i))(c:f'.length<=a):L' a f k=zY (f',i):=by unfold L' at h ⊢;cases b:f.findIdx? (·=k)with|some j=>rw[b]at h;exact h|none=>{rw[b]at h;simp only at h ⊢;split at h;{injection h with h;injection h with h1 h2;subst h1;simp only[M_,c_,h_]at c;rw[I_ zO,h2]};{cases h}}
def Uc{d:Nat}:∀(l:List Nat) (f f':List K) (r a:List Nat),l.foldl (C4 most step x) (zY (f,r))=zY (f',a)->f.length<=most->f.Nodup->f'.length<=d->l.foldl (C4 d step x) (zY (f,r))=zY (f',a)
 | [],f,f',r,a,h,_,_,_=>h
 | b::l,f,f',r,a,h,h1,h2,hl=>by
   rw[wU]at h ⊢;simp only[C4,xO]at h ⊢;cases c:L' most f (step x b)with
   | none=>rw[c]at h;rw[mQ,Fp]at h;cases h
   | some p=>
     rw[c]at h;obtain⟨-,g1,g2,g⟩:=IA (i:=p.2) c h1 h2;have e:=(Mp l p.1 f' _ a h g1 g2).2.2.1;rw[Y8 (i:=p.2) c (yV e.length_le hl)];exact Uc l p.1 f' _ a h g1 g2 hl
def MP{e:Nat}(d:1<=most){bs:List Nat}:∀(n:Nat) (f:List K) (rows:List (List Nat)),By most step bs start n=zY (f,rows)->f.length<=e->By e step bs start n=zY (f,rows)
 | 0,f,rows,h,_=>h
 | n+1,f,rows,h,hl=>by
   simp only[By]at h ⊢;cases a:By most step bs start n with
   | none=>rw[a]at h;cases h
   | some p=>
     obtain⟨g1,g2,-⟩:=Ey (P:=λ_=>True) d zA (λ_ _ _=>trivial) bs n p.1 p.2 a;rw[a]at h;simp only[xO]at h;cases b:p.1[n]? with
     | none=>
       rw[b]at h;simp only[AjO.injEq]at h;subst h;rw[MP d n f rows a hl];simp only[xO];rw[b]
     | some x=>
       rw[b]at h;simp only at h;cases c:bs.foldl (C4 most step x) (zY (p.1,[]))with
       | none=>rw[c]at h;cases h
       | some r=>
         rw[c]at h;simp only[wB,AjO.injEq,Prod.mk.injEq]at h;obtain⟨rfl,rfl⟩:=h;have g:=(Mp bs p.1 r.1 [] r.2 c g1 g2).2.2.1;rw[MP d n p.1 p.2 a (yV g.length_le hl)];simp only[xO];rw[b];simp only;rw[Uc bs p.1 r.1 [] r.2 c g1 g2 hl];rfl
def Xy{a:Nat}(b:1<=most){bs:List Nat}{F:List K}{rows:List (List Nat)}(h:CS most step bs start=zY (F,rows))(c:F.length<=a):CS a step bs start=zY (F,rows):=
 L6 (MP b _ F rows (LM b h) c) (N_ _) a c
def M5{b:Nat}(c:1<=most){F:List K}(h:Du most step start=zY F)(d:F.length<=b):Du b step start=zY F:=by unfold Du at h ⊢;cases a:CS most step (AiN 256) start with|none=>rw[a]at h;cases h|some p=>rw[a]at h;simp only[wB,AjO.injEq]at h;subst h;rw[Xy c (rows:=p.2) a d];rfl
def JO(c:1<=most){F:List K}(h:Du most step start=zY F):1<=F.length/\F.length<=most/\F.Nodup/\F[0]?=zY start:=by unfold Du at h;cases a:CS most step (AiN 256) start with|none=>rw[a]at h;cases h|some p=>rw[a]at h;simp only[wB,AjO.injEq]at h;subst h;obtain⟨g1,g2,b,-⟩:=Ey (P:=λ_=>True) c zA (λ_ _ _=>trivial) (AiN 256) most p.1 p.2 a;exact⟨(V_.1 b).1,g1,g2,b⟩
def Tj{b:Nat}(d:1<=most)(a:1<=b){F:List K}(h:Du most step start=zY F)(e:b<F.length):Du b step start=zV:=by cases c:Du b step start with|none=>rfl|some F'=>{have f:=(JO d h).2.1;have g:=(JO a c).2.1;rw[M5 a c zO]at h;injection h with h;subst h;omega}
end
def Ir.sym(h:Ir x y):Ir y x:=λc a=>by
 cases b:x.getLsbD c with
 | false=>rfl
 | true=>rw[h c b]at a;cases a
def Y6{l:List (BitVec 256)}(h:l.Pairwise Ir)(e:x∈l)(f:y∈l)(b:x≠y):Ir x y:=by obtain⟨i,c,rfl⟩:=hJ e;obtain⟨j,d,rfl⟩:=hJ f;rcases mP i j with a | rfl | a;{exact wF.1 h i j c d a};{exact absurd rfl b};{exact(wF.1 h j i d c a).sym}
def Mz{sets:List (BitVec 256)}:x∈BX sets↔x∈D2 sets:=by unfold BX;rw[sT];constructor;{rintro⟨b,-,a⟩;exact(yH.1 a).1};{exact λh=>⟨(Bu x 0).1,yG.2 (Et x 0),yH.2 ⟨h,zZ⟩⟩}
def SM(sets:List (BitVec 256)):(BX sets).Pairwise Ir:=by
 have a:=LJ sets;unfold BX;rw[hH];refine⟨λb _=>a.filter _,List.pairwise_lt_range.imp fun{b c} d x f y g=>?_⟩;have⟨h,i⟩:=yH.1 f;have⟨j,k⟩:=yH.1 g;refine Y6 a h j λe=>?_;subst e;have l:(Bu x 0).1=b:=by simpa using i
 have e2:(Bu x 0).1=c:=by simpa using k
 omega
def Qh(sets:List (BitVec 256))(c:b<256):cnt (BX sets) b=1:=by unfold cnt;have⟨x,d,a⟩:=(KI sets).all b c;have⟨y,e⟩:=ZR (l:=(BX sets).filter λx=>x.getLsbD b) (b:=b) ((SM sets).filter _) (λz f=>(yH.1 f).2) (hO (yH.2 ⟨Mz.2 d,a⟩));rw[e];rfl
def U4(a:P_)(l:List Int):Prop:=∀q∈l,a.has q=zW
def VS(a:P_)(sets:List (BitVec 256)):Prop:=∀e∈a.edges,e.sil=zU->xS a e=zW->e.set∈sets
def WZ(a:P_):VS a (DF a):=λe c hs b=>by
 unfold xS at b;rw[O']at b;obtain⟨row,d,-,f⟩:=Ut b.1;exact sT.2 ⟨row,e_ d,yQ.2 ⟨e,(f e).2 ⟨c,hs,rfl,b.2⟩,rfl⟩⟩
def Xa(a:P_):VS a (EX a):=λe b hs _=>yQ.2 ⟨e,yH.2 ⟨b,by rw[hs];rfl⟩,rfl⟩
section
variable{sets:List (BitVec 256)}
def PG(m:VS a sets)(hs:Ci sets g b=zW){l:List Int}(n:U4 a l):Be a l g=Be a l b:=by have d:∀g b:Nat,Ci sets g b=zW->∀q,Ma a (·∈l) g q->Ma a (·∈l) b q:=λg b hs q ⟨e,h,i,o,j,k,p⟩=>⟨e,h,i,by rw[<-BG.1 hs e.set (m e h i (by unfold xS;rw[n _ j,k];rfl))];exact o,j,k,p⟩;have f:Ci sets b g=zW:=BG.2 λc r=>(BG.1 hs c r).symm;unfold Be sH;have e:Ma a (·∈l) g=Ma a (·∈l) b:=funext λq=>propext ⟨d g b hs q,d b g f q⟩;rw[e]
def Wc(f:VS a sets):Yq (U4 a) (Be a) (Er sets):=λb l h=>by
 have⟨g,g1,g2,d⟩:=Jb (cells:=sets) (b:=b) b (L8 sets b);have i:g≠b:=λe=>by rw[e,h]at d;cases d
 exact⟨g,zO,d,λx j=>PG f (BG.2 λc k=>(BG.1 g2 c k).symm) j⟩
end
noncomputable abbrev HQ(a:P_):List Int:=Da (Gm a)
def OD(a:P_):U4 a (HQ a):=λq b=>Gq a q ((F0 (DZ (Gq a)) q).1 b)
def MY(l:List Int)(b:Nat)(_:U4 a l):U4 a (Be a l b):=KO
noncomputable def JN(a:P_)(most:Nat):Option (List (List Int)):=Du most (Be a) (HQ a)
def detA(a:P_){most:Nat}(b:1<=most):(CS most (Be a) (F8 (DF a)) (HQ a)).map Prod.fst=JN a most:=by rw[Mm];exact NN (Wc (WZ a)) b (OD a) MY
def AiO(a:P_){most:Nat}(b:1<=most):(CS most (Be a) (Pz a) (HQ a)).map Prod.fst=JN a most:=by unfold Pz;rw[IV];exact NN (Wc (Xa a)) b (OD a) MY
structure Ld(a:P_)(F:List (List Int))(st:Int->Nat->Int)(fi:Int->Bool):Prop where
 st:∀(q b:Nat) (x:List Int),F[q]?=zY x->b<256->∃t:Nat,st (q:Int) b=(t:Int)/\F[t]?=zY (Be a x b)
 fi:∀(q:Nat) (x:List Int),F[q]?=zY x->fi (q:Int)=zT (a.fin∈x)
section
variable{most:Nat}{bs:List Nat}{F:List (List Int)}{rows:List (List Nat)}
def Lp(b:1<=most)(h:CS most (Be a) bs (HQ a)=zY (F,rows)):O4 most (Be a) bs (HQ a) F.length F rows/\∀x∈F,U4 a x:=by obtain⟨-,-,-,c⟩:=Ey (P:=U4 a) b (OD a) MY bs most F rows h;exact⟨Kn b F.length F rows (LM b h) λj d=>d,c⟩
def Sj(e:O4 most (Be a) bs (HQ a) F.length F rows){row:List Nat}(f:rows[q]?=zY row):row.length=bs.length/\∀t∈row,t<F.length:=by have g:=e.cols row (e_ f);refine⟨g,λt h=>?_⟩;have⟨k,c⟩:=xI h;have i:=(V_.1 c).1;have⟨b,j⟩:=Ab (l:=bs) (k:=k) zO;have d:=(V_.1 f).1;rw[e.rl]at d;have⟨x,m⟩:=Ab (l:=F) (k:=q) d;exact(V_.1 (e.ok q k row b t x f j c m)).1
end
section
variable{most:Nat}{F:List (List Int)}{rows:List (List Nat)}
def jB(E:1<=most)(G:most<=65536)(h:CS most (Be a) (F8 (DF a)) (HQ a)=zY (F,rows)):
  BN (BX (DF a)) (rows.map AK) F.length=zW/\Ld a F (AR (zY (Cn (BX (DF a)) (rows.map AK) (F.map λl=>zT (a.fin∈l))))) (Bk (zY (Cn (BX (DF a)) (rows.map AK) (F.map λl=>zT (a.fin∈l)))))/\stN (zY (Cn (BX (DF a)) (rows.map AK) (F.map λl=>zT (a.fin∈l))))=F.length:=by
 have⟨e,H⟩:=Lp E h;have N:=(V_.1 e.zero).1;have A:=e.len;have m:(rows.map AK).length=F.length:=by rw[k_,e.rl]
 have n:(F8 (DF a)).length=(BX (DF a)).length:=k_ _;have hs:BN (BX (DF a)) (rows.map AK) F.length=zW:=by{rw[L9];refine⟨⟨zO,zO,m⟩,λb i=>Qh _ i,λr I=>?_⟩;obtain⟨row,d,rfl⟩:=yQ.1 I;have⟨q,J⟩:=xI d;have⟨B,C⟩:=Sj e J;unfold IQ;rw[O',beq_iff_eq,zM];refine⟨by unfold AK;rw[k_,B,n],λt j=>?_⟩;obtain⟨u,K,rfl⟩:=yQ.1 j;have:=C u K;simp only[O',yD];omega};have o:(F.map λl=>zT (a.fin∈l)).length=F.length:=k_ _;refine⟨hs,⟨λq b x f i=>?_,λq x f=>?_⟩,by simp only[stN,Cn,k_];exact e.rl⟩;{have⟨row,d⟩:=Ab (l:=rows) (k:=q) (by rw[e.rl];exact(V_.1 f).1);have⟨B,C⟩:=Sj e d;have⟨L,M⟩:=BQ hs i;have⟨c,p⟩:=Ab L;have v:=M c p;have⟨t,j⟩:=Ab (l:=row) (k:=Ba (BX (DF a)) b) zO;have w:(F8 (DF a))[Ba (BX (DF a)) b]?=zY (Bu c 0).1:=by{unfold F8;rw[I',p];rfl};have y:=e.ok q _ row _ t x d w j f;have g:=Mz.1 (e_ p);have D:=KI (DF a);have z:Ci (DF a) (Bu c 0).1 b=zW:=BG.2 λs hs=>D.same c g _ _ (IJ (D.ne c g)).1 v s hs;refine⟨t,?_,by rw[y,PG (WZ a) z (H x (e_ f))]⟩;rw[FT (row:=AK row) (by rw[o];exact hs) (by rw[I',d];rfl) i];unfold AK;rw[xE,I',j];rfl};{simp[Bk,Cn,f]}
def AiG(E:1<=most)(G:most<=65536)(h:CS most (Be a) (Pz a) (HQ a)=zY (F,rows))(H:D=⟨U' (Am (EX a) 256).2,U' (Pz a),rows.map AK,F.map λl=>zT (a.fin∈l)⟩):
  D.Ok/\Ld a F (D0 D) (KT D)/\D.next.length=F.length:=by
 subst H;have⟨f,I⟩:=Lp E h;have P:=(V_.1 f.zero).1;have z:=f.len;have e:=CP (EX a) 256;have m:(rows.map AK).length=F.length:=by rw[k_,f.rl]
 refine⟨⟨by simp only;omega,by simp only;omega,by simp only[k_];exact f.rl.symm,by simp only;rw[Cz,e.plen],λr A=>?_⟩,⟨λq b x i J=>?_,λq x i=>?_⟩,m⟩;{simp only at A ⊢;obtain⟨row,d,rfl⟩:=yQ.1 A;have⟨q,K⟩:=xI d;have⟨L,B⟩:=Sj f K;have M:(Pz a).length<=256:=e.flen;have N:(AK row).length=row.length:=by{unfold AK;rw[k_]};refine⟨zO,λc O=>?_,λt j=>?_⟩;{obtain⟨u,n,rfl⟩:=yQ.1 O;have:u<(Pz a).length:=e.lt u n;omega};{obtain⟨u,n,rfl⟩:=yQ.1 j;have:=B u n;omega}};{have⟨row,d⟩:=Ab (l:=rows) (k:=q) (by rw[f.rl];exact(V_.1 i).1);have⟨L,B⟩:=Sj f d;have⟨p,o⟩:=Ab (l:=(Am (EX a) 256).2) (k:=b) (by rw[e.plen];exact J);have v:p<(Pz a).length:=e.lt p (e_ o);have⟨g,C⟩:=Ab v;have⟨t,j⟩:=Ab (l:=row) (k:=p) zO;have w:=f.ok q p row g t x d C j i;have y:Ci (EX a) g b=zW:=BG.2 λs hs=>(BG.1 (e.sig b p g o C).1 s hs).symm;refine⟨t,?_,by rw[w,PG (Xa a) y (I x (e_ i))]⟩;exact EY (row:=AK row) (c:=p) (by simp only;rw[I',d];rfl) (GX o) (by unfold AK;rw[I',j];rfl)};{simp[KT,i]}
end
end
def bJ{α:Type}{P:List α->Prop}(h0:P [])(hs:∀(l:List α) (x:α),P l->P (l++[x]))(l:List α):P l:=by have a:∀m:List α,P m.reverse:=λm=>by{induction m with|nil=>exact h0|cons x m b=>rw[List.reverse_cons];exact hs _ x b};have:=a l.reverse;rwa [List.reverse_reverse]at this
section
variable{K:Type} [DecidableEq K]
def dd(l:List K):List K:=l.foldl (λf k=>if k∈f then f else f++[k]) []
def sY(f:List K)(k:K):Nat:=f.findIdx (·=k)
def ZD{f:List K}{k:K}(h:k∈f):sY f k<f.length:=by unfold sY;exact List.findIdx_lt_length_of_exists ⟨k,h,zZ⟩
def WB{f:List K}{k:K}(h:k∈f):f[sY f k]?=zY k:=by have a:=ZD h;rw[yI a];have:zT (f[sY f k]=k)=zW:=List.findIdx_getElem (p:=λx=>zT (x=k)) (xs:=f) (w:=a);rw[of_decide_eq_true this]
def aY{f:List K}(a:f.Nodup){i:Nat}{k:K}(h:f[i]?=zY k):sY f k=i:=by have e:=e_ h;have g:=WB e;have⟨b,c⟩:=V_.1 h;have⟨d,e2⟩:=V_.1 g;rcases mP (sY f k) i with h | h | h;{exact absurd (e2.trans c.symm) (wF.1 a _ _ d b h)};{exact h};{exact absurd (c.trans e2.symm) (wF.1 a _ _ b d h)}
end
structure PA where
 n:Nat
 st:Nat->Nat->Nat
 fi:Nat->Bool
structure PA.Ok(M:PA):Prop where
 pos:0<M.n
 cl:∀q b,q<M.n->b<256->M.st q b<M.n
def PA.run(M:PA)(q:Nat)(w:List Nat):Nat:=w.foldl M.st q
def YO(w:List Nat):Prop:=∀b∈w,b<256
def PA.Eqv(M:PA)(p q:Nat):Prop:=∀w,YO w->M.fi (M.run p w)=M.fi (M.run q w)
structure Reps(M:PA)(by_:List Nat):Prop where
 lt:∀b∈by_,b<256
 cov:∀b,b<256->∃g∈by_,g<=b/\∀q,q<M.n->M.st q g=M.st q b
structure Closed(M:PA)(l:List Nat):Prop where
 lt:∀q∈l,q<M.n
 st:∀q∈l,∀b,b<256->M.st q b∈l
section
variable{M:PA}{by_ l:List Nat}{P:Nat->Nat}
def lE(M:PA)(by_:List Nat)(P:Nat->Nat)(q:Nat):List Nat:=P q::by_.map λb=>P (M.st q b)
def gD(M:PA)(by_ l:List Nat)(P:Nat->Nat):List (List Nat):=dd (l.map (lE M by_ P))
def cls(l:List Nat)(P:Nat->Nat):Nat:=(dd (l.map P)).length
def bQ{K:Type} [DecidableEq K]{a b:List K}(f:a.Nodup)(h:∀x∈a,x∈b):a.length<=b.length:=by induction a generalizing b with|nil=>exact q_ _|cons x a g=>have⟨i,j⟩:=List.nodup_cons.1 f;have c:=h x zZ;have:=g (b:=b.erase x) j λy d=>(List.mem_erase_of_ne (λe=>i (by rw[<-e];exact d))).2 (h y (xQ _ d));rw[List.length_erase_of_mem c]at this;have:=List.length_pos_of_mem c;simp only[c_];omega
structure RndI(M:PA)(l:List Nat)(P:Nat->Nat):Prop where
 eqv:∀p∈l,∀q∈l,M.Eqv p q->P p=P q
 fi:∀p∈l,∀q∈l,P p=P q->M.fi p=M.fi q
def Ai0(M:PA)(l:List Nat)(P:Nat->Nat):Prop:=∀p∈l,∀q∈l,P p=P q↔M.Eqv p q
end
def cst(M:PA)(P:Nat->Nat)(k b:Nat):Nat:=match(AiN M.n).find? (λq=>P q=k)with
 | some q=>P (M.st q b)
 | none=>0
abbrev Y3(M:PA):List Nat:=AiN M.n
section
attribute [local irreducible] Bt AH Am
def paO(o:Option AM):PA:=⟨stN o,λq b=>(AR o (q:Int) b).toNat,λq=>Bk o (q:Int)⟩
structure BlkI(M:PA)(P:Nat->Nat)(cnt:Nat):Prop where
 rnd:RndI M (Y3 M) P
 lt:∀q,q<M.n->P q<65536
 cnt:cls (Y3 M) P=cnt\/∀p∈Y3 M,∀q∈Y3 M,P p=P q
structure Ag1(M:PA)(O:List Nat)(st:Int->Nat->Int)(fi:Int->Bool):Prop where
 lt:∀x∈O,x<M.n
 st:∀(i b x:Nat),O[i]?=zY x->b<256->∃t y:Nat,st (i:Int) b=(t:Int)/\O[t]?=zY y/\M.Eqv y (M.st x b)
 fi:∀(i x:Nat),O[i]?=zY x->fi (i:Int)=M.fi x
def AbQ(M:PA)(O:List Nat):Prop:=∃P,Ai0 M (Y3 M) P/\Du 65537 (cst M P) (P 0)=zY (O.map P)
def Aj5(O:List Nat):List Int:=O.map fun(x:Nat)=>(x:Int)
def UW{K:Type} [DecidableEq K]{F:List K}{k:K}(h:k∈F):F.findIdx? (·=k)=zY (sY F k):=by rw[vP];have a:=ZD h;have b:=(V_.1 (WB h)).2;refine⟨a,m_ b,λj c=>?_⟩;have:=List.not_of_lt_findIdx (p:=λx=>zT (x=k)) (xs:=F) (show j<F.findIdx (λx=>zT (x=k))from c);simpa using this
def Tu{K:Type} [DecidableEq K]{F:List K}{k:K}(h:k∉F):F.findIdx? (·=k)=zV:=by rw[mJ];intro x a;exact j_ λe=>h (by rw[<-e];exact a)
structure DocM(D:DM)(M:PA):Prop where
 n:M.n=D.next.length
 st:∀q b,q<M.n->b<256->D0 D (q:Int) b=(M.st q b:Int)
 fi:∀q,q<M.n->KT D (q:Int)=M.fi q
structure RepD(D:DM)(by_:List Nat):Prop where
 reps:D.reps=Aj5 by_
 rl:∀row∈D.next,row.length=by_.length
 le:by_.length<=256
 lt:∀b∈by_,b<256
 at_:∀(c b:Nat),by_[c]?=zY b->D.cell[b]?=zY (c:Int)
 cov:∀b,b<256->∃c g:Nat,D.cell[b]?=zY (c:Int)/\by_[c]?=zY g/\g<=b
end
section
attribute [local irreducible] Bt AH Am
end
section
attribute [local irreducible] Bt Am
end
section
attribute [local irreducible] Bt AH Am
def U2.stepOk(h:U2 o D):Iw o:=
 ⟨by rw[h.n];exact h.ok.n1,by rw[h.n];exact h.ok.n2,λq b a c=>by
  have:=N3 h.ok a.1 (by have:=a.2;rw[h.n]at this;exact this) c;unfold inA;rw[h.step q b c,h.n];exact this⟩
end
section
open Go.Shelf Go.Proofs
def TB:Go.Shelf.Ren:=⟨fun | 137=>210 | 217=>229 | 266=>240 | n=>n,fun | 9=>9 | 5=>5 | 3=>3 | n=>n,fun | n=>n⟩
def dW:Go.Proofs.Lays.n137 prog TB:={
 mixed:=zX
 f137:=func210.trans (congrArg zY zX)
 f217:=func229.trans (congrArg zY zX)
 f266:=func240.trans (congrArg zY zX)
 t3:=underlying3
 a3:=isAgg3
 z3:=sizeOf3
 v3:=zeroValue3
 t5:=underlying5
 a5:=isAgg5
 z5:=sizeOf5
 v5:=zeroValue5
 t9:=underlying9
 a9:=isAgg9
 z9:=sizeOf9
 v9:=zeroValue9}
open Go.RowKit in
theorem strings_IndexByte(s:ByteArray)(c:Int)(w:y_):
  Calls prog 210 #[.string s,.int .u8 c] w λe a=>e= .returned (.int .i64 (Lib.indexByte s.data.toList c.toNat.toUInt8))/\a=w:=Any.strings_IndexByte dW s c w
open Go.Lib in
theorem RK(s:ByteArray)(c:Nat)(H:Aa):BZ prog 210 #[.string s,.int .u8 (c:Int)] H (.int .i64 (indexByte s.data.toList (UInt8.ofNat c))):=by intro w a;refine⟨call210 _ w,?_⟩;refine(strings_IndexByte s (c:Int) w).mono ?_;rintro _ _ ⟨rfl,rfl⟩;exact⟨_,rfl,p_.refl _,rfl,by subst a;exact C_.refl _ _⟩
end
open Go.Lib
def wW(s:ByteArray)(c:Nat):Bool:=zT (0<=indexByte s.data.toList (UInt8.ofNat c))
def Zj:List v_:=[.int .u8 110,.int .u8 10,.int .u8 114,.int .u8 13,.int .u8 116,.int .u8 9]
def It(H:Aa):Prop:=Bn H 0 0 Zj/\0<H.size
def AiR:(prog.info? 335).bind (·.zero)=zY (.agg #[.int .u8 0,.int .u8 0]):=zX
def bM:(zT (indexByte s.data.toList (UInt8.ofNat c)>=0))=wW s c:=rfl
def R1(i:Nat):Nat×Nat:=match i with
 | 0=>(110,10)
 | 1=>(114,13)
 | _=>(116,9)
def AhF{i:Nat}(h:s.data.toList[i]?=zY (UInt8.ofNat c)):wW s c=zW:=by unfold wW;rw[yD];have a:=indexByte_ge s.data.toList (UInt8.ofNat c);apply Classical.byContradiction;intro b;exact absurd h (indexByte_none zO i)
def bL(h:∀i:Nat,s.data.toList[i]? ≠zY (UInt8.ofNat c)):wW s c=zU:=by unfold wW;rw[oR];intro a;have⟨o,b⟩:=xK a;exact h o (indexByte_some b).1
def qQ(hs:s.size<=1048576)(q:c<256):BZ prog 195 #[.string s,.int .u8 (c:Int)] H (.bool (wW s c)):=by
 refine Aj.of_vc func195 rfl (call195 _) ?_;have o:s.data.toList.length=s.size:=rfl;(conv=>whnf);refine Ay.mk [5] (λi:Nat=>[A_ i]) (λi H1=>i<=s.size/\(∀j,j<i->s.data.toList[j]? ≠zY (UInt8.ofNat c))/\St H H1 []) (λi _=>s.size-i) ?_ ?_
 ·(conv=>whnf);exact⟨0,rfl,zO,λj a=>zO,St.nil H⟩
 ·rintro i H1 d ⟨r,b,J_⟩;refine AD.m2 (λp=>?_) (λp=>?_)
  ·have⟨x,f⟩:=Ab (l:=s.data.toList) (k:=i) zO;have g:s.data[i]?=zY x:=by rw[<-Array.getElem?_toList];exact f
   refine ED underlying9 rfl g ?_;by_cases h:x.toNat=c
   ·have m:((x.toNat:Int)==(c:Int))=zW:=by rw[h];exact beq_self_eq_true _
    have n:x=UInt8.ofNat c:=by rw[<-h];simp
    rw[AhF (i:=i) (by rw[<-n];exact f)];(conv=>whnf);rw[m];(conv=>whnf);exact⟨rfl,J_.old⟩
   ·have m:((x.toNat:Int)==(c:Int))=zU:=beq_eq_false_iff_ne.2 zO;(conv=>whnf);rw[m];(conv=>whnf);rw[Q_ i zO];refine⟨rfl,i+1,zZ,⟨zO,λj a=>?_,J_⟩,zO⟩;rcases Nat.lt_or_eq_of_le (Nat.le_of_lt_succ a)with a | rfl
    ·exact b j a
    ·rw[f];intro e;injection e with e
     apply h;rw[e,UInt8.toNat_ofNat'];omega
  ·obtain rfl:i=s.size:=zO
   (conv=>whnf);rw[bL λj=>by
    by_cases a:j<s.size
    ·exact b j a
    ·rw[zE zO];exact λe=>by cases e]
   exact⟨rfl,J_.old⟩
def FA:ByteArray:=⟨#[40,41,91,93,123,125,124,38,45,42,43,63,46,92,47,94]⟩
def E6:ByteArray:=⟨#[92,93,91,45,94,47]⟩
def Yb(b:c<256):BZ prog 172 #[.int .u8 (c:Int)] H (.bool (wW FA c)):=by refine Aj.of_vc func172 rfl (call172 _) (Al (qQ (s:=FA) zQ b) λH1 a=>?_);(conv=>whnf);exact⟨rfl,a⟩
def dV(b:c<256):BZ prog 171 #[.int .u8 (c:Int)] H (.bool (wW E6 c)):=by refine Aj.of_vc func171 rfl (call171 _) (Al (qQ (s:=E6) zQ b) λH1 a=>?_);(conv=>whnf);exact⟨rfl,a⟩
def leL(u v:List Nat):Prop:=u.length<v.length\/(u.length=v.length/\ZF u v)
structure BfsOk(g:Gr)(by_:List Nat)(a:Nd)(F:List NW)(i:Nat)(k:Nat):Prop where
 zero:F[0]?=zY (a,[])
 nd:(F.map (·.1)).Nodup
 ok:∀x∈F,(∀b∈x.2,b∈by_)/\To g x.2 a x.1
 up:∀(j l:Nat) (x y:NW),j<l->F[j]?=zY x->F[l]?=zY y->leL x.2 y.2/\x.2≠y.2
 closed:∀(j l:Nat) (x:NW) (b:Nat) (t:Nd),F[j]?=zY x->by_[l]?=zY b->t∈g.next x.1 b->(j<i\/(j=i/\l<k))->∃y∈F,y.1=t/\leL y.2 (x.2++[b])
 par:∀(m:Nat) (y:NW),F[m]?=zY y->m=0\/∃(j l b:Nat) (x:NW),F[j]?=zY x/\by_[l]?=zY b/\y.2=x.2++[b]/\(j<i\/(j=i/\l<k))
section
variable{g:Gr}{by_:List Nat}{a t:Nd}{F F':List NW}{i k:Nat}
variable(hby:∀c,c<256->∃r∈by_,r<=c/\∀n,g.next n r=g.next n c)
include hby
end
section
attribute [local irreducible] Bt AH Am
def yN(z:Int×Int):List v_:=[A_ z.1,A_ z.2]
def wN(z:Int×Int):v_:=.agg (yN z).toArray
def S6(z:Int×Int):Prop:=zI .i64 z.1/\zI .i64 z.2
def cQ{a b:Int×Int}(h:wN a=wN b):a=b:=by have⟨x,y⟩:=a;have⟨e,f⟩:=b;simp only[wN,yN,Value.agg.injEq,Array.mk.injEq,List.cons.injEq,Value.int.injEq,true_and,and_true]at h;have⟨c,d⟩:=h;rw[c,d]
def jR{x:Int}(h:zI .i64 x):(Lit.int .i64 x).wf=zW:=by unfold Lit.wf;simp only[O',yD];exact h
structure Links(F:List NW)(W:List (Int×Nat)):Prop where
 len:W.length=F.length
 nd:(F.map λx=>(x.1.x,x.1.y)).Nodup
 s0:∀x∈F,x.1.s=0
 zero:W[0]?=zY (-1,0)
 link:∀(i:Nat) (y:NW),F[i]?=zY y->(i=0/\y.2=[])\/∃(j c:Nat) (x:NW),W[i]?=zY ((j:Int),c)/\j<i/\F[j]?=zY x/\y.2=x.2++[c]/\c<256
def Qa(x y:Bool):Bool:=x&& !y
end
section
attribute [local irreducible] Bt Am
end
section
def nM:AM:=Cn [Al9 256] [[1],[1]] [zU,zW]
attribute [local irreducible] nM Bt AH Am
end
section
attribute [local irreducible] nM Bt AH Am
end
section
attribute [local irreducible] Bt AH Am
section
variable{K K':Type} [DecidableEq K] [DecidableEq K']{most:Nat}{step:K->Nat->K}{step':K'->Nat->K'}{start:K}{f:K->K'}{I:K->Prop}
def rS(f:K->K')(p:List K×List Nat):List K'×List Nat:=(p.1.map f,p.2)
def pM(I:K->Prop)(s:Option (List K×List Nat)):Prop:=∀F r,s=zY (F,r)->∀y∈F,I y
def eG{F:List K}{k:K}(h:∀y∈F,f y=f k->y=k):(L' most F k).map (λp=>(p.1.map f,p.2))=L' most (F.map f) (f k):=by unfold L';have e:(F.map f).findIdx? (·=f k)=F.findIdx? (·=k):=by{rw[List.findIdx?_map];exact Iz λy a=>by{show zT (f y=f k)=zT (y=k);rw[decide_eq_decide];exact⟨h y a,λe=>by rw[e]⟩}};rw[e];cases F.findIdx? (·=k)with|some i=>rfl|none=>simp only[k_];split;{simp};{rfl}
def gT{x:K}{b:Nat}{s:Option (List K×List Nat)}(m:pM I s)(j:I (step x b))(a:∀y z,I y->I z->f y=f z->y=z)(c:f (step x b)=step' (f x) b):(C4 most step x s b).map (rS f)=C4 most step' (f x) (s.map (rS f)) b/\pM I (C4 most step x s b):=by cases s with|none=>exact⟨rfl,λF r h=>by cases h⟩|some p=>{have⟨F,r⟩:=p;have l:=m F r rfl;have h:=eG (most:=most) (f:=f) (F:=F) (k:=step x b) λy d=>a y _ (l y d) j;have e:(C4 most step' (f x) ((zY (F,r)).map (rS f)) b)=(L' most (F.map f) (step' (f x) b)).map λq=>(q.1,r++[q.2]):=rfl;rw[e,<-c,<-h];cases g:L' most F (step x b)with|none=>have e2:C4 most step x (zY (F,r)) b=zV:=by{show(L' most F (step x b)).map _=zV;rw[g];rfl};rw[e2];exact⟨rfl,λF r h=>by cases h⟩|some q=>{have⟨G,i⟩:=q;have e2:C4 most step x (zY (F,r)) b=zY (G,r++[i]):=by{show(L' most F (step x b)).map _=_;rw[g];rfl};rw[e2];refine⟨rfl,λF' n e y d=>?_⟩;injection e with e;injection e with e1 e3;subst e1;rcases LI g y d with h | rfl;{exact l y h};{exact j}}}
def Qt{x:K}(a:∀y z,I y->I z->f y=f z->y=z):∀(l:List Nat) (s:Option (List K×List Nat)),pM I s->(∀b∈l,I (step x b)/\f (step x b)=step' (f x) b)->(l.foldl (C4 most step x) s).map (rS f)=l.foldl (C4 most step' (f x)) (s.map (rS f))/\pM I (l.foldl (C4 most step x) s)
 | [],s,hs,_=>⟨rfl,hs⟩
 | b::l,s,hs,h=>by
   have⟨d,e⟩:=gT (most:=most) hs (h b zZ).1 a (h b zZ).2;rw[wU,wU,<-d];exact Qt a l _ e λc g=>h c (by simp[g])
def QI(a:∀y z,I y->I z->f y=f z->y=z)(h0:I start)(g:∀x b,I x->b<256->I (step x b)/\f (step x b)=step' (f x) b):∀n,(By most step (AiN 256) start n).map (λp=>(p.1.map f,p.2))=By most step' (AiN 256) (f start) n/\∀F rows,By most step (AiN 256) start n=zY (F,rows)->∀y∈F,I y
 | 0=>⟨rfl,λF rows e y c=>by
   injection e with e
   injection e with e1 e2
   subst e1;rw[g_.1 c];exact h0⟩
 | n+1=>by
   have⟨i,j⟩:=QI a h0 g n;rw[By,By,<-i];cases k:By most step (AiN 256) start n with
   | none=>exact⟨rfl,λF rows e=>by cases e⟩
   | some p=>
     have⟨F,rows⟩:=p;have h:=j F rows k;simp only[xO,wB,I'];cases l:F[n]? with
     | none=>exact⟨rfl,λF' d e y c=>by
       injection e with e
       injection e with e1 e2
       subst e1;exact h y c⟩
     | some x=>
       have m:=h x (e_ l);have⟨o,s⟩:=Qt (most:=most) (step:=step) (step':=step') (x:=x) a (AiN 256) (zY (F,[])) (λF' r e y c=>by
        injection e with e
        injection e with e1 e2
        subst e1;exact h y c) λb t=>g x b m (yG.1 t)
       simp only[wB];rw[show(zY (F.map f,([]:List Nat)))=(zY (F,([]:List Nat))).map (rS f)from rfl,<-o];cases u:(AiN 256).foldl (C4 most step x) (zY (F,[]))with
       | none=>exact⟨rfl,λF rows e=>by cases e⟩
       | some q=>
         have⟨G,r⟩:=q;refine⟨rfl,λF' d e y c=>?_⟩;injection e with e
         injection e with e1 e2
         subst e1;exact s G r u y c
def YX(a:∀y z,I y->I z->f y=f z->y=z)(h0:I start)(c:∀x b,I x->b<256->I (step x b)/\f (step x b)=step' (f x) b):(Du most step start).map (List.map f)=Du most step' (f start):=by unfold Du CS;rw[<-(QI a h0 c most).1];cases By most step (AiN 256) start most<;>rfl
end
attribute [local irreducible] Du
noncomputable instance decL:DecidableEq (List Nat->Bool):=λa b=>Classical.propDecidable (a=b)
open Classical in
noncomputable def jL(M:PA)(q:Nat)(w:List Nat):Bool:=if YO w then M.fi (M.run q w)else zU
def dvL(L:List Nat->Bool)(b:Nat)(w:List Nat):Bool:=L (b::w)
def AfY(M:PA)(O:List Nat):Prop:=Du 65537 dvL (jL M 0)=zY (O.map (jL M))
end
section
def jQ:AM:=Cn [Al9 256] [[1],[0]] [zU,zW]
attribute [local irreducible] jQ Bt AH Am
end
section
attribute [local irreducible] Bt Am
end
section
attribute [local irreducible] Bt Am AH
end
section
attribute [local irreducible] Bt AH Am jQ
def Cw(o:Option AM):Prop:=∃cells next final,o=Fc cells next final
def Cw.ok(h:Cw o):∃a,NI o a:=by obtain⟨c,n,f,rfl⟩:=h;exact YT c n f
def Cw.steps(h:Cw o):Iw o:=by obtain⟨c,n,f,rfl⟩:=h;exact(eO c n f).stepOk
structure IsCan(o:Option AM)(a:Option AM):Prop where
 made:Cw a
 ex:∃O,AfY (paO o) O/\AbQ (paO o) O/\Ag1 (paO o) O (AR a) (Bk a)/\stN a=O.length
end
section
attribute [local irreducible] Bt AH Am
section
variable{K:Type}{most:Nat}{step:K->Nat->K}{start:K}{P:K->Prop}{fin:K->Bool}{sets:List (BitVec 256)}
structure JG(step:K->Nat->K)(start:K)(P:K->Prop)(sets:List (BitVec 256)):Prop where
 beg:P start
 st:∀x b,P x->P (step x b)
 sep:∀g b,g<256->b<256->Ci sets g b=zW->∀x,P x->step x g=step x b
def JG.cov(h:JG step start P sets):Yq P step (Er sets):=λb d f=>by
 have⟨g,g1,g2,a⟩:=Jb (cells:=sets) (b:=b) b (L8 sets b);have i:g≠b:=λe=>by rw[e,f]at a;cases a
 exact⟨g,zO,a,λx j=>h.sep g b zO d (BG.2 λc k=>(BG.1 g2 c k).symm) x j⟩
def JG.detA [DecidableEq K](h:JG step start P sets)(a:1<=most):(CS most step (F8 sets) start).map Prod.fst=Du most step start:=by rw[Mm];exact NN h.cov a h.beg h.st
def JG.detD [DecidableEq K](h:JG step start P sets)(a:1<=most):(CS most step (Am sets 256).1 start).map Prod.fst=Du most step start:=by rw[IV];exact NN h.cov a h.beg h.st
structure U5(step:K->Nat->K)(fin:K->Bool)(F:List K)(st:Int->Nat->Int)(fi:Int->Bool):Prop where
 st:∀(q b:Nat) (x:K),F[q]?=zY x->b<256->∃t:Nat,st (q:Int) b=(t:Int)/\F[t]?=zY (step x b)
 fi:∀(q:Nat) (x:K),F[q]?=zY x->fi (q:Int)=fin x
def RG [DecidableEq K](h:JG step start P sets){bs:List Nat}{F:List K}{rows:List (List Nat)}(a:1<=most)(c:CS most step bs start=zY (F,rows)):O4 most step bs start F.length F rows/\∀x∈F,P x:=by obtain⟨-,-,-,d⟩:=Ey (P:=P) a h.beg (λx b e=>h.st x b e) bs most F rows c;exact⟨Kn a F.length F rows (LM a c) λj f=>f,d⟩
def Oo{bs:List Nat}{F:List K}{rows:List (List Nat)}(d:O4 most step bs start F.length F rows){q:Nat}{row:List Nat}(e:rows[q]?=zY row):row.length=bs.length/\∀t∈row,t<F.length:=by have f:=d.cols row (e_ e);refine⟨f,λt g=>?_⟩;have⟨k,a⟩:=xI g;have h:=(V_.1 a).1;have⟨b,i⟩:=Ab (l:=bs) (k:=k) zO;have c:=(V_.1 e).1;rw[d.rl]at c;have⟨x,j⟩:=Ab (l:=F) (k:=q) c;exact(V_.1 (d.ok q k row b t x e i a j)).1
def AiH [DecidableEq K](h:JG step start P sets){F:List K}{rows:List (List Nat)}(D:1<=most)(E:most<=65536)(G:CS most step (F8 sets) start=zY (F,rows)):
  BN (BX sets) (rows.map AK) F.length=zW/\U5 step fin F (AR (zY (Cn (BX sets) (rows.map AK) (F.map fin)))) (Bk (zY (Cn (BX sets) (rows.map AK) (F.map fin))))/\stN (zY (Cn (BX sets) (rows.map AK) (F.map fin)))=F.length:=by
 have⟨d,H⟩:=RG h D G;have O:=(V_.1 d.zero).1;have z:=d.len;have j:(rows.map AK).length=F.length:=by rw[k_,d.rl]
 have m:(F8 sets).length=(BX sets).length:=k_ _;have hs:BN (BX sets) (rows.map AK) F.length=zW:=by{rw[L9];refine⟨⟨zO,zO,j⟩,λb e=>Qh _ e,λr I=>?_⟩;obtain⟨row,a,rfl⟩:=yQ.1 I;have⟨q,J⟩:=xI a;have⟨A,B⟩:=Oo d J;unfold IQ;rw[O',beq_iff_eq,zM];refine⟨by unfold AK;rw[k_,A,m],λt i=>?_⟩;obtain⟨u,L,rfl⟩:=yQ.1 i;have:=B u L;simp only[O',yD];omega};have n:(F.map fin).length=F.length:=k_ _;refine⟨hs,⟨λq b x f e=>?_,λq x f=>?_⟩,by simp only[stN,Cn,k_];exact d.rl⟩;{have⟨row,a⟩:=Ab (l:=rows) (k:=q) (by rw[d.rl];exact(V_.1 f).1);have⟨A,B⟩:=Oo d a;have⟨M,N⟩:=BQ hs e;have⟨c,o⟩:=Ab M;have p:=N c o;have⟨t,i⟩:=Ab (l:=row) (k:=Ba (BX sets) b) zO;have v:(F8 sets)[Ba (BX sets) b]?=zY (Bu c 0).1:=by{unfold F8;rw[I',o];rfl};have w:=d.ok q _ row _ t x a v i f;have g:=Mz.1 (e_ o);have C:=KI sets;have y:Ci sets (Bu c 0).1 b=zW:=BG.2 λs hs=>C.same c g _ _ (IJ (C.ne c g)).1 p s hs;refine⟨t,?_,by rw[w,h.sep _ b (Et c 0) e y x (H x (e_ f))]⟩;rw[FT (row:=AK row) (by rw[n];exact hs) (by rw[I',a];rfl) e];unfold AK;rw[xE,I',i];rfl};{simp[Bk,Cn,f]}
def lA[DecidableEq K](h:JG step start P sets){F:List K}{rows:List (List Nat)}(G:1<=most)(H:most<=65536)(I:CS most step (Am sets 256).1 start=zY (F,rows))(J:D=⟨U' (Am sets 256).2,U' (Am sets 256).1,rows.map AK,F.map fin⟩):
  D.Ok/\U5 step fin F (D0 D) (KT D)/\D.next.length=F.length:=by
 subst J;have⟨e,L⟩:=RG h G I;have S:=(V_.1 e.zero).1;have A:=e.len;have d:=CP sets 256;have j:(rows.map AK).length=F.length:=by rw[k_,e.rl]
 refine⟨⟨by simp only;omega,by simp only;omega,by simp only[k_];exact e.rl.symm,by simp only;rw[Cz,d.plen],λr B=>?_⟩,⟨λq b x f C=>?_,λq x f=>?_⟩,j⟩;{simp only at B ⊢;obtain⟨row,a,rfl⟩:=yQ.1 B;have⟨q,M⟩:=xI a;have⟨N,E⟩:=Oo e M;have O:(Am sets 256).1.length<=256:=d.flen;have Q:(AK row).length=row.length:=by{unfold AK;rw[k_]};refine⟨zO,λc R=>?_,λt i=>?_⟩;{obtain⟨u,m,rfl⟩:=yQ.1 R;have:u<(Am sets 256).1.length:=d.lt u m;omega};{obtain⟨u,m,rfl⟩:=yQ.1 i;have:=E u m;omega}};{have⟨row,a⟩:=Ab (l:=rows) (k:=q) (by rw[e.rl];exact(V_.1 f).1);have⟨N,E⟩:=Oo e a;have⟨p,n⟩:=Ab (l:=(Am sets 256).2) (k:=b) (by rw[d.plen];exact C);have o:p<(Am sets 256).1.length:=d.lt p (e_ n);have⟨g,v⟩:=Ab o;have⟨t,i⟩:=Ab (l:=row) (k:=p) zO;have w:=e.ok q p row g t x a v i f;have y:Ci sets g b=zW:=BG.2 λs hs=>(BG.1 (d.sig b p g n v).1 s hs).symm;have z:g<256:=(d.first p g v).1;refine⟨t,?_,by rw[w,h.sep g b z C y x (L x (e_ f))]⟩;exact EY (row:=AK row) (c:=p) (by simp only;rw[I',a];rfl) (GX n) (by unfold AK;rw[I',i];rfl)};{simp[KT,f]}
def JA [DecidableEq K](A:1<=most)(h0:P start)(hs:∀x b,P x->P (step x b))(bs:List Nat):∀n,By most step bs start n=zV->∃L:List K,L.Nodup/\L.length=most+1/\∀x∈L,P x
 | 0,h=>by cases h
 | n+1,h=>by
   rw[By]at h;cases s:By most step bs start n with
   | none=>exact JA A h0 hs bs n s
   | some p=>
     have⟨f,rows⟩:=p;obtain⟨E,F,-,B⟩:=Ey (P:=P) A h0 hs bs n f rows s;rw[s]at h;simp only[xO]at h;cases t:f[n]? with
     | none=>rw[t]at h;cases h
     | some x=>
       rw[t]at h;simp only[Option.map_eq_none_iff]at h;have d:=B x (e_ t);have w:∀(l:List Nat) (g:List K) (r:List Nat),g.length<=most->g.Nodup->(∀y∈g,P y)->l.foldl (C4 most step x) (zY (g,r))=zV->∃L:List K,L.Nodup/\L.length=most+1/\∀y∈L,P y:=λl=>by
        induction l with
        | nil=>intro g r _ _ _ h;cases h
        | cons b l G=>
          intro g r H k C h;rw[wU]at h;cases a:L' most g (step x b)with
          | none=>
            unfold L' at a;cases o:g.findIdx? (·=step x b)with
            | some j=>rw[o]at a;cases a
            | none=>
              rw[o]at a;simp only at a;split at a
              ·cases a
              ·have z:step x b∉g:=λm=>by
                rw[mJ]at o;have:=o _ m;simp at this
               refine⟨g++[step x b],List.nodup_append.2 ⟨k,zZ,λu I v D=>?_⟩,by simp;omega,λy c=>?_⟩
               ·rw[g_]at D;subst D;exact λe=>z (e ▸ I)
               ·rcases X'.1 c with c | c
                ·exact C y c
                ·rw[g_]at c;subst c;exact hs x b d
          | some q=>
            have⟨g2,i⟩:=q;have e:C4 most step x (zY (g,r)) b=zY (g2,r++[i]):=by
             show(L' most g (step x b)).map _=_;rw[a];rfl
            rw[e]at h;obtain⟨-,J,M,-⟩:=IA a H k;exact G g2 _ J M (λy c=>by
             rcases LI a y c with h | rfl
             ·exact C y h
             ·exact hs x b d) h
       exact w bs f [] E F B h
end
def Bm(a b:Option AM)(x:Int×Int)(c:Nat):Int×Int:=if c<256 then(AR a x.1 c,AR b x.2 c)else x
def Lx(a b:Option AM)(x:Int×Int):Prop:=(0<=x.1/\x.1<stN a)/\0<=x.2/\x.2<stN b
def Qk{m:List Nat}(h:NI o m)(n:g<256)(f:b<256)(hs:∀c∈A8 o,c.getLsbD g=c.getLsbD b){q:Int}(h0:0<=q)(i:q<stN o):AR o q g=AR o q b:=by
 obtain⟨k,c,d,a,-⟩:=h.part b f;have e:c.getLsbD g=zW:=by rw[hs c (e_ d)];exact a
 obtain⟨l,j,-⟩:=h.least k c d;rw[(h.keeps k c l g d j n e).2 q h0 i,(h.keeps k c l b d j f a).2 q h0 i]
def Aj0{a b:Option AM}(m:Cw a)(n:Cw b):JG (Bm a b) ((0,0):Int×Int) (Lx a b) (A8 a++A8 b):=by have sa:=m.steps;have sb:=n.steps;have q:=sa.n1;have r:=sb.n1;have⟨la,o⟩:=m.ok;have⟨s,p⟩:=n.ok;refine⟨⟨⟨Int.le_refl _,zO⟩,Int.le_refl _,zO⟩,λx c e=>?_,λg c f i hs x e=>?_⟩;{unfold Bm;split;{rename_i h;have j:=sa.step x.1 c e.1 h;have k:=sb.step x.2 c e.2 h;exact⟨j,k⟩};{exact e}};{unfold Bm;rw[I_ f,I_ i];have j:=Qk o f i (λd l=>(BG.1 hs d (yS _ l))) e.1.1 e.1.2;have k:=Qk p f i (λd l=>(BG.1 hs d (List.mem_append_right _ l))) e.2.1 e.2.2;rw[j,k]}
def oV(a b:Option AM)(most:Nat):Option (List (Int×Int)):=Du most (Bm a b) (0,0)
def dZ(m:Nat)(h:S6 n):prog.keyLits (m+2) 224 (yN n)=zY [.int .i64 n.1,.int .i64 n.2]:=by have a:prog.cellsOf 224=2:=zX;have b:prog.cellsOf 3=1:=zX;simp[Program.keyLits,underlying224,underlying3,a,b,yN,jR h.1,jR h.2]
def VC(h:S6 n):∃l,keyOf prog 224 (wN n)=zY l:=by
 have a:prog.keyType 224=zW:=zX;have b:prog.cellsOf 224=2:=zX;have c:(wN n).formed prog 224=zW:=by simp[wN,yN,Value.formed,underlying224,b]
 obtain⟨m,d⟩:∃m,prog.types.size+1=m+2:=⟨prog.types.size-1,by{have:zT (1<=prog.types.size)=zW:=zX;have:=of_decide_eq_true this;omega}⟩;refine⟨.string (keyBytes [.int .i64 n.1,.int .i64 n.2]),?_⟩;unfold keyOf;simp only[underlying224,a,c,Bool.and_self,if_true];rw[d,show(wN n).cells.toList=yN n from rfl,dZ m h];rfl
def jI:Lc prog 224 S6 wN:=
 Lc.ofLaw (deep_law (m:=2) zQ zX zX (by simp[underlying224])) (λa b h=>cQ h) (λa h=>VC h)
def jN:KW prog 298 224 3 (.int .i64 0):=⟨rfl,rfl⟩
def tLp:Ty (Int×Int) where
 size:=2
 rep _ _ cs x:=cs=yN x
 len h:=by rw[h];rfl
 frame h _:=h
 mono h _:=h
def Us(x:Int×Int):∀u∈yN x,u.oneCell'=zW:=by intro u a;unfold yN at a;simp only[xU,List.not_mem_nil,or_false]at a;rcases a with rfl | rfl<;>rfl
def RZ:(prog.info? 224).bind (·.zero)=zY (wN (0,0)):=zX
def Re(x:Int×Int):Prop:=(0<=x.1/\x.1<65536)/\0<=x.2/\x.2<65536
def Re.ok{x:Int×Int}(h:Re x):S6 x:=⟨HF h.1,HF h.2⟩
def B_.front{q:Pc}(b:B_ B H0 H (ps++[q])):B_ B H0 H (q::ps):=by have d:=sD.1 b.dis;refine⟨b.old,b.lt0,b.size,λp a=>b.oks p ?_,λp a=>b.rng p ?_,rG.2 ⟨λp a k e c=>d.2.2 p a q zZ k c e,d.1⟩⟩;{rcases xU.1 a with rfl | a;{simp};{simp[a]}};{rcases xU.1 a with rfl | a;{simp};{simp[a]}}
def B_.tail{q:Pc}(a:B_ B H0 H (q::ps)):B_ B H0 H ps:=
 ⟨a.old,a.lt0,a.size,λp b=>a.oks p (by simp[b]),λp b=>a.rng p (by simp[b]),(rG.1 a.dis).2⟩
abbrev pD:x_:=301
def X1(F:List (Int×Int))(s:Int×Int):Option v_:=(F.findIdx? (·=s)).map fun(i:Nat)=>.int .i64 (i:Int)
def Zn{k:Int×Int}(a:F.findIdx? (·=k)=zV):put (X1 F) k (zY (.int .i64 (F.length:Int)))=X1 (F++[k]):=by funext s;unfold put X1;rw[tZ];by_cases hs:s=k;{subst hs;rw[I_ rfl,a];simp[uJ]};{rw[G_ hs];cases h:F.findIdx? (·=s)with|some i=>simp|none=>have:k≠s:=λe=>hs e.symm;simp[uJ,this]}
def NC(xb mb:Nat)(fa:Option Addr)(fc most:Nat)(F:List (Int×Int))(rest:List Pc):List Pc:=
 pB pD xb (sG mb (.slice fa F.length fc) most)::uZ S6 wN mb (X1 F)::pS tLp 224 fa F.length fc F::rest
def jA{rest:List Pc}{xb mb fc most:Nat}{fa:Option Addr}{k:Int×Int}(G:B_ B H0 H (NC xb mb fa fc most F rest))(T:S6 k)(hm:most<=4096)(X:F.length<=most)
  (Y:∀F' i g l H',L' most F k=zY (F',i)->B_ B H0 H' (NC xb mb g l most F' rest)->K (.tuple #[A_ i,.bool zW]) H')
  (Z:∀H',L' most F k=zV->B_ B H0 H' (NC xb mb fa fc most F rest)->K (.tuple #[A_ 0,.bool zU]) H'):
  Ae prog 164 #[Y_ xb,wN k] H K:=by
 refine Ae.mk (R:=λr H'=>(∃(F':List (Int×Int)) (i:Nat) (g:Option Addr) (l:Nat),r= .tuple #[A_ i,.bool zW]/\L' most F k=zY (F',i)/\B_ B H0 H' (NC xb mb g l most F' rest))\/(r= .tuple #[A_ 0,.bool zU]/\L' most F k=zV/\B_ B H0 H' (NC xb mb fa fc most F rest))) ?_ λr H' h=>by{rcases h with⟨F',i,g,l,rfl,I,J⟩ | ⟨rfl,I,J⟩;{exact Y F' i g l H' I J};{exact Z H' I J}};unfold NC at G;refine Aj.of_vc func164 rfl (call164 _) (Cd (yN k) rfl ?_);intro D Hk L M t u;have b:=(G.box L M t u).front;clear G t u;have c:=b.blk 1 rfl;have w:Bn Hk D 0 (yN k):=(b.blk 0 rfl).cells λj v x=>by rw[K_];exact x
 refine Ap.lex rfl zX (F_ W2 ?_);refine D_ (v:=.map (zY mb)) jD (by rw[c.cell];rfl) zA ?_;refine L_ (cs:=yN k) O7 w zA (TM (a:=k) jN jI T (b.mapW 2 rfl) zA ?_);rw[show X1 F k=(F.findIdx? (·=k)).map fun(i:Nat)=>.int .i64 (i:Int)from rfl];cases E:F.findIdx? (·=k)with|some i=>(conv=>whnf);exact .inl ⟨F,i,fa,fc,rfl,by unfold L';rw[E],b.tail⟩|none=>{refine Ap.lex rfl zX (F_ Ih ?_);refine D_ (v:=.slice fa F.length fc) Nk (by rw[c.cell];rfl) zA ?_;refine F_ dJ ?_;refine D_ (v:=A_ most) E_ (by rw[c.cell];rfl) zA ?_;by_cases y:F.length<most;{have N:zT ((most:Int)<=(F.length:Int))=zU:=Z_;(conv=>whnf);rw[N];refine Ap.heldZ (H_ Hk) [10] (sq [0,1,2,3,4,5,6,7,8,9] (.f 10 .e)) rfl zX (F_ W2 ?_);refine D_ (v:=.map (zY mb)) jD (by rw[c.cell];rfl) c.lt ?_;refine L_ (cs:=yN k) O7 w (b.blk 0 rfl).lt (F_ Ih ?_);refine D_ (v:=.slice fa F.length fc) Nk (by rw[c.cell];rfl) c.lt ?_;refine Vt (a:=k) b 2 jN jI T rfl (Zn E) λH1 J_=>?_;have O:=J_.blk 1 rfl;have P:Bn H1 D 0 (yN k):=(J_.blk 0 rfl).cells λj v x=>by{rw[K_];exact x};refine Ap.heldZ (λj=>j=xb\/j=D) [10] (sq [0,1,2,3,4,5] (.f 6 (.f 7 (sq [8,9] (.f 10 .e))))) rfl zX (F_ Ih ?_);refine D_ (v:=.slice fa F.length fc) Nk (by rw[O.cell];rfl) (.inl rfl) ?_;refine L_ (cs:=yN k) O7 P (.inr rfl) (As WU (yN k) rfl rfl zQ zQ ?_);intro a0 H11 z U A m;have V:=(J_.blk 1 rfl).lt;have W:=(J_.blk 0 rfl).lt;refine⟨m.mono λj C=>?_,?_⟩;{rcases C with rfl | rfl<;>omega};have n:=J_.skip z m;have Q:=n.apart2 (i:=1) (j:=3) rfl rfl zQ;have S:=n.apart2 (i:=0) (j:=3) rfl rfl zQ;refine OA (ys:=[k]) n 3 WU rfl (A.cells λj v x=>by rw[K_];exact x) (Ty.reps_one (show tLp.rep none_ H11 (yN k) k from rfl)) rfl (Us k) (by simp only[i_];omega) zQ λp q H12 o s=>?_;rw[show F.length+[k].length=(F++[k]).length by simp]at o ⊢;refine⟨(m.mono λj C=>?_).trans (s.mono λj C=>?_),?_⟩;{rcases C with rfl | rfl<;>omega};{rcases C with rfl | rfl;{exact⟨zO,λh=>Q _ rfl (.inl h)⟩};{exact⟨zO,λh=>S _ rfl (.inl h)⟩}};refine F_ Ih (AZ o 1 Nk rfl (zQ:1<3) rfl λH13 d=>?_);replace d:B_ B H0 H13 (pB 224 D (yN k)::NC xb mb p q most (F++[k]) rest):=d;refine F_ Ih ?_;refine lT (v:=.slice p (F++[k]).length q) Nk ((d.blk 1 rfl).ce rfl) ?_;have w1:IntKind.wrap .i64 (((F++[k]).length:Int)-1)=(F.length:Int):=by{rw[show(F++[k]).length=F.length+1 by simp,yE zO zO];omega};(conv=>whnf);rw[w1];(conv=>whnf);exact .inl ⟨F++[k],F.length,p,q,rfl,by unfold L';rw[E];simp only;rw[I_ y],d.tail⟩};{have N:zT ((most:Int)<=(F.length:Int))=zW:=l_;(conv=>whnf);rw[N];(conv=>whnf);exact .inr ⟨rfl,by unfold L';rw[E];simp only;rw[G_ y],b.tail⟩}}
end
section
attribute [local irreducible] nM Bt AH Am
structure PrsP(vs:List v_)(F:List NW):Prop where
 len:vs.length=1026
 nd:(F.map (·.1)).Nodup
end
section
attribute [local irreducible] Bt AH Am
def Cp(n:Int×Int):Nat:=(31*n.1.toNat+n.2.toNat) % 1024
def T0(n:Int×Int):Cp n<1024:=Nat.mod_lt _ zQ
def GL(F:List (Int×Int))(h:Nat):List Nat:=(AiN F.length).filter λi=>zT ((F[i]?.map Cp)=zY h)
def Qv(F:List (Int×Int))(x:Int×Int)(h:Nat):GL (F++[x]) h=if Cp x=h then GL F h++[F.length]else GL F h:=by unfold GL;rw[M_,i_,wG,vM];have b:(AiN F.length).filter (λi=>zT (((F++[x])[i]?.map Cp)=zY h))=(AiN F.length).filter (λi=>zT ((F[i]?.map Cp)=zY h)):=List.filter_congr λi c=>by{rw[zR (yG.1 c)]};rw[b];have e2:(F++[x])[F.length]?=zY x:=zZ;by_cases a:Cp x=h;{rw[I_ a,vC (by rw[e2];simp[a])];rfl};{rw[G_ a,vU (by rw[e2];simp[a])];simp}
def T4{h i:Nat}:i∈GL F h↔∃x,F[i]?=zY x/\Cp x=h:=by unfold GL;rw[yH,yG,yD];constructor;{rintro⟨c,b⟩;have⟨x,a⟩:=Ab c;rw[a]at b;exact⟨x,a,by simpa using b⟩};{rintro⟨x,a,rfl⟩;exact⟨(V_.1 a).1,by rw[a];rfl⟩}
def rV(F:List (Int×Int)):Nat->I7
 | 0=>HS tLp 129 F
 | h+1=>HS tI 3 ((GL F h).map fun(i:Nat)=>(i:Int))
def NF(b:Nat)(vs:List v_)(F:List (Int×Int)):Pc:=pF 127 b vs (rV F)
def cT(F:List (Int×Int))(n:Int×Int):Sv (Sv (rV F) (Cp n+1) (HS tI 3 ((GL F (Cp n)).map (fun(i:Nat)=>(i:Int))++[(F.length:Int)]))) 0 (HS tLp 129 (F++[n]))=rV (F++[n]):=by funext j;match j with|0=>rw[IT];rfl|h+1=>rw[KQ zO];by_cases a:h+1=Cp n+1;{rw[a,IT];obtain rfl:h=Cp n:=zO;show HS _ _ _=HS _ _ _;rw[Qv,I_ rfl,xF]<;>rfl};{rw[KQ a];show HS _ _ _=HS _ _ _;rw[Qv,G_ zO]}
def AjL:(prog.info? 127).bind (·.zero)=zY (.agg (Ai4 1025 (Value.slice zV 0 0)).toArray):=zX
def cV(j:Nat)(H:Aa):(rV [] j).ok H (.slice zV 0 0):=by match j with|0=>exact X_.nil|h+1=>exact X_.nil
def cU(c:St H0 H ps)(k:∀b H',St H0 H' (ps++[NF b (Ai4 1025 (.slice zV 0 0)) []])->K (Y_ b) H'):BV prog (Instr.box 127 (.agg (Ai4 1025 (Value.slice zV 0 0)).toArray)) H K:=by refine Cd (Ai4 1025 (Value.slice zV 0 0)) rfl ?_;intro b H' d hs e f;have J_:=c.box d hs e f;have a:=J_.fldNew (ss:=rV []) ps.length (by rw[zL (N_ _),wP];rfl) cV;refine k b H' ?_;rw[tM _ _ (N_ _),wP]at a;exact a
def TQ(F:List (Int×Int))(n:Int×Int):Int:=match F.findIdx? (·=n)with
 | some i=>(i:Int)
 | none=> -1
def gJ(h:Re n):31*n.1+n.2=((31*n.1.toNat+n.2.toNat:Nat):Int):=by have a:=h.1;have b:=h.2;omega
def dF(J:B_ B H H [NF b vs F])(a4:vs.length=1025)(K:F.Nodup)(L:Re n)(a2:F.length<=4096):
  BZ prog 65 #[Y_ b,A_ n.1,A_ n.2] H (.int .i64 (TQ F n)):=by have hh:=T0 n;have a5:=L.1;have a6:=L.2;have⟨vh,q⟩:=Ab (l:=vs) (k:=Cp n+1) zO;have⟨v0,r⟩:=Ab (l:=vs) (k:=0) zO;have f:R_ H b 127 vs:=J.fblk 0 rfl;obtain⟨ah,ch,rfl,p⟩:=J.fview 0 rfl q (xs:=(GL F (Cp n)).map fun(i:Nat)=>(i:Int)) (T:=tI) (e:=3) rfl;rw[k_]at q;obtain⟨a0,c0,rfl,z⟩:=J.fview 0 rfl r (xs:=F) (T:=tLp) (e:=129) rfl;have M:=f.lt;have a7:(GL F (Cp n)).length<=F.length:=by{unfold GL;exact yV (uG _ _) zZ};refine Aj.of_vc func65 rfl (call65 _) ?_;(conv=>whnf);rw[U_ (x:=31*n.1) zO];(conv=>whnf);rw[U_ (x:=31*n.1+n.2) zO];rw[gJ L];refine Yo (b:=1024) zQ ?_;rw[show(31*n.1.toNat+n.2.toNat) % 1024=Cp n from rfl];refine F_ R9 (s_ SL zO zO ?_);refine D_ (v:=.slice ah (GL F (Cp n)).length ch) C9 (by rw[f.cell,(zO:0+1+((Cp n:Nat):Int).toNat*1=Cp n+1)];exact q) zA ?_;(conv=>whnf);refine Ay.mk [8] (λk:Nat=>[A_ k]) (λk G=>k<=(GL F (Cp n)).length/\(∀i∈(GL F (Cp n)).take k,∀x,F[i]?=zY x->x≠n)/\C_ (H_ H) H G) (λk _=>(GL F (Cp n)).length-k) ?_ ?_;{(conv=>whnf);exact⟨0,rfl,q_ _,zZ,C_.refl _ _⟩};{rintro k G a3 ⟨d,s,a⟩;have h:R_ G b 127 vs:=f.agr a M;have A:=p.frame (a.mono λk d=>d);have C:=z.frame (a.mono λk d=>d);refine AD.m2 (λhz=>?_) (λhz=>?_);{have⟨i,w⟩:=Ab (l:=GL F (Cp n)) (k:=k) zO;have⟨x,y,a8⟩:=T4.1 (e_ w);have a9:=(V_.1 y).1;have t:((GL F (Cp n)).map fun(i:Nat)=>(i:Int))[k]?=zY (i:Int):=by{rw[I',w];rfl};have D:x≠n->∀N∈(GL F (Cp n)).take (k+1),∀I,F[N]?=zY I->I≠n:=λhe N j I u=>by{rw[Ac w,X',g_]at j;rcases j with j | rfl;{exact s N j I u};{rw[y]at u;cases u;exact he}};refine Ap.quiet (H_ G) rfl zX (F_ Gg ?_);refine D_ (v:=.slice a0 F.length c0) KY (by rw[h.cell];exact r) h.lt ?_;refine EK (i:=k) (x:=(i:Int)) AB A zZ t rfl ?_;rintro b3 o3 ab O P ⟨rfl,-⟩;refine D_ E_ P.one (Af a O) (EK (i:=i) (x:=x) QK C rfl y rfl ?_);rintro b4 o4 ae Q R rfl;refine s_ CW zQ zQ (D_ (v:=A_ x.1) E_ (R 0 _ rfl) (Af a Q) ?_);by_cases m:x.1=n.1;{have S:(x.1==n.1)=zW:=by{rw[m];simp};(conv=>whnf);rw[S];refine F_ Gg ?_;refine D_ (v:=.slice a0 F.length c0) KY (by rw[h.cell];exact r) h.lt ?_;refine EK (i:=k) (x:=(i:Int)) AB A zZ t rfl ?_;rintro b5 o5 ag U V ⟨rfl,-⟩;refine D_ E_ V.one (Af a U) (EK (i:=i) (x:=x) QK C rfl y rfl ?_);rintro b6 o6 ai W X rfl;refine s_ CW zQ zQ (D_ (v:=A_ x.2) E_ (X 1 _ rfl) (Af a W) ?_);by_cases o:x.2=n.2;{have Y:(x.2==n.2)=zW:=by{rw[o];simp};(conv=>whnf);rw[Y];(conv=>whnf);intro G2 g;have c:C_ (H_ H) H G2:=a.trans (g.mono λk d=>Af a d);refine EK (i:=k) (x:=(i:Int)) AB (p.frame (c.mono λk d=>d)) zZ t rfl ?_;rintro b7 o7 aj ak Z ⟨rfl,-⟩;refine lT E_ Z.one ?_;(conv=>whnf);refine⟨?_,c⟩;have a1:x=n:=Prod.ext m o;subst a1;have hf:F.findIdx? (·=x)=zY i:=by{have:=UW (F:=F) (k:=x) (e_ y);rw[this,aY K y]};unfold TQ;rw[hf]};{have Y:(x.2==n.2)=zU:=beq_eq_false_iff_ne.2 o;(conv=>whnf);rw[Y];(conv=>whnf);intro G2 g;have c:C_ (H_ H) H G2:=a.trans (g.mono λk d=>Af a d);(conv=>whnf);rw[Q_ k zO];exact⟨rfl,k+1,rfl,⟨zO,D λe=>o (by rw[e]),c⟩,zO⟩}};{have S:(x.1==n.1)=zU:=beq_eq_false_iff_ne.2 m;(conv=>whnf);rw[S];(conv=>whnf);intro G2 g;have c:C_ (H_ H) H G2:=a.trans (g.mono λk d=>Af a d);(conv=>whnf);rw[Q_ k zO];exact⟨rfl,k+1,rfl,⟨zO,D λe=>m (by rw[e]),c⟩,zO⟩}};{obtain rfl:k=(GL F (Cp n)).length:=zO;rw[zH]at s;(conv=>whnf);refine⟨?_,a⟩;have E:n∉F:=λhm=>by{have⟨i,w⟩:=xI hm;exact s i (T4.2 ⟨n,w,rfl⟩) n w rfl};unfold TQ;rw[Tu E]}}
def aI(q:B_ B H H [NF b vs F])(A:vs.length=1025)(a1:F.Nodup)(C:Re n)(Z:F.length+1<=4194304):
  Aj prog 63 #[Y_ b,A_ n.1,A_ n.2] H λv H'=>v= .int .i64 (F.length:Int)/\∃r,r.length=1025/\B_ B H H' [NF b r (F++[n])]:=by
 have hh:=T0 n;have a2:=C.1;have a3:=C.2;have⟨vh,a⟩:=Ab (l:=vs) (k:=Cp n+1) zO;have⟨v0,h⟩:=Ab (l:=vs) (k:=0) zO;have c:R_ H b 127 vs:=q.fblk 0 rfl;obtain⟨ah,ch,rfl,-⟩:=q.fview 0 rfl a (xs:=(GL F (Cp n)).map fun(i:Nat)=>(i:Int)) (T:=tI) (e:=3) rfl;rw[k_]at a;obtain⟨D,E,rfl,-⟩:=q.fview 0 rfl h (xs:=F) (T:=tLp) (e:=129) rfl;have s:=c.lt;have a4:(GL F (Cp n)).length<=F.length:=by{unfold GL;exact yV (uG _ _) zZ};have d:∀(j:Nat) (v:v_),vs[j]?=zY v->¬O_ v b:=(q.at_ 0 rfl).2.2.2;refine Aj.of_vc func63 rfl (call63 _) ?_;(conv=>whnf);rw[U_ (x:=31*n.1) zO];(conv=>whnf);rw[U_ (x:=31*n.1+n.2) zO];rw[gJ C];refine Yo (b:=1024) zQ ?_;rw[show(31*n.1.toNat+n.2.toNat) % 1024=Cp n from rfl];refine Ap.heldZ (λk=>k<H.size/\¬O_ (.slice ah (GL F (Cp n)).length ch) k) [18] (sq [0,1,2,3,4,5,6,7,8,9,10,11,12,15,16] (.f 13 (.f 14 (sq [17] (.f 18 .e))))) rfl zX (F_ R9 (s_ SL zO zO ?_));refine D_ (v:=.slice ah (GL F (Cp n)).length ch) C9 (by rw[c.cell,(zO:0+1+((Cp n:Nat):Int).toNat*1=Cp n+1)];exact a) ⟨s,d _ _ a⟩ ?_;refine F_ Gg ?_;refine D_ (v:=.slice D F.length E) KY (by rw[c.cell];exact h) ⟨s,d _ _ a⟩ ?_;refine F_ R9 (As AB [A_ (F.length:Int)] rfl rfl zQ zQ ?_);intro q3 H3 G a5 I m;have J:=q.skip G m;refine⟨m.mono λk p=>by have:=p.1;omega,?_⟩;refine qJ (ys:=[(F.length:Int)]) (ds:=[A_ (F.length:Int)]) J 0 AB rfl a (xs:=(GL F (Cp n)).map fun(i:Nat)=>(i:Int)) (T:=tI) (e:=3) rfl (I.cells λj v K=>by rw[K_];exact K) (Ty.reps_one ⟨rfl,BK zO⟩) rfl (by simp[Value.oneCell']) (by simp only[k_,i_];unfold maxLen;omega) (by simp only[k_,i_];omega) λL H4 M N O=>?_;refine⟨(m.mono λk p=>by have:=p.1;omega).trans (N.mono λk p=>⟨by have:=p.1;omega,p.2⟩),?_⟩;refine s_ SL zO zO (gF (o:=0+1+((Cp n:Nat):Int).toNat*1) (j:=Cp n+1) M 0 C9 rfl zO O λH5 t=>?_);have u:(vs.set (Cp n+1) L)[0]?=zY (.slice D F.length E):=by rw[xC zO];exact h
 have P:(vs.set (Cp n+1) L).length=1025:=by rw[yF];exact A
 generalize vs.set (Cp n+1) L=y at*;have Q:R_ H5 b 127 y:=t.fblk 0 rfl;refine F_ Gg ?_;refine D_ (v:=.slice D F.length E) KY (by rw[Q.cell];exact u) zA ?_;refine Ct CW (.agg #[A_ 0,A_ 0]) rfl (yN n) rfl (As QK (yN n) rfl rfl zQ zQ ?_);intro q6 H6 R a6 S U;have V:=t.skip R U;refine qJ (ys:=[n]) (ds:=yN n) V 0 QK rfl u (xs:=F) (T:=tLp) (e:=129) (by rw[KQ zO];rfl) (S.cells λj v K=>by rw[K_];exact K) (Ty.reps_one (show tLp.rep none_ H6 (yN n) n from rfl)) rfl (Us n) (by simp only[i_];unfold maxLen;omega) (by simp only[i_];omega) λz H7 W a7 X=>?_;refine F_ Gg (gF (o:=0+0) (j:=0) W 0 KY rfl rfl X λH8 g=>?_);rw[cT]at g;have Y:R_ H8 b 127 (y.set 0 z):=g.fblk 0 rfl;have w:(y.set 0 z)[0]?=zY z:=yP zO;obtain⟨a8,c8,e8,-⟩:=g.fview 0 rfl w (xs:=F++[n]) (T:=tLp) (e:=129) rfl;refine F_ Gg ?_;refine D_ (v:=.slice a8 (F++[n]).length c8) KY (by rw[Y.cell,<-e8];exact w) zA ?_;have w1:IntKind.wrap .i64 (((F++[n]).length:Int)-1)=(F.length:Int):=by{rw[show(F++[n]).length=F.length+1 by simp,yE zO zO];omega};(conv=>whnf);rw[w1];(conv=>whnf);exact⟨rfl,y.set 0 z,by rw[yF];exact P,g.pick [0] zQ⟩
def Y1(g:B_ B H0 H ps)(i:Nat)(h:ps[i]?=zY (NF b vs F))(j:vs.length=1025)(l:F.Nodup)(o:Re n)(d:F.length+1<=4194304)
  (k:∀c H',B_ B H0 H' (ps.set i (NF b c (F++[n])))->c.length=1025->K (.int .i64 (F.length:Int)) H'):Ae prog 63 #[Y_ b,A_ n.1,A_ n.2] H K:=by refine Ae.mk (aI (B_.start (g.at_ i h) λk e=>(g.in_ i h e).2) j l o d) ?_;rintro _ H' ⟨rfl,c,f,a⟩;refine k c H' (g.upd i h a.old _ (a.at_ 0 rfl) (λk e=>?_) (λk e=>(a.in_ 0 rfl e).2) a.size) f;have:=(a.in_ 0 rfl e).1;by_cases p:k<H.size;{by_cases m:(NF b vs F).foot k;{exact .inl m};{exact absurd ⟨p,m⟩ this}};{exact .inr zO}
def dG(c:B_ B H0 H ps)(i:Nat)(f:ps[i]?=zY (NF b vs F))(d:vs.length=1025)(e:F.Nodup)(g:Re n)(a:F.length<=4096)
  (k:∀H',B_ B H0 H' ps->K (.int .i64 (TQ F n)) H'):Ae prog 65 #[Y_ b,A_ n.1,A_ n.2] H K:=by refine Al (dF (B_.start (c.at_ i f) λk h=>(c.in_ i f h).2) d e g a) λH' j=>?_;exact k H' (c.call j)
structure Ox(S:Nat->Prop)(H:Aa)(pa pb:Nat)(va vb:v_)(a b:Option AM):Prop where
 spa:S pa
 spb:S pb
 ca:Bn H pa 0 [va]
 cb:Bn H pb 0 [vb]
 va:Bi S H va a
 vb:Bi S H vb b
def Ox.frame{H':Aa}{pa pb:Nat}{vb:v_}{a b:Option AM}(h:Ox S H pa pb va vb a b)(k:C_ S H H'):Ox S H' pa pb va vb a b:=
 ⟨h.spa,h.spb,h.ca.eq (k _ h.spa),h.cb.eq (k _ h.spb),h.va.frame k,h.vb.frame k⟩
def bP{pa pb:Nat}{vb:v_}{a b:Option AM}{x:Int×Int}(p:∀k,S k->k<H.size)(h:Ox S H pa pb va vb a b)(r:c<256):
  BZ prog 120 #[wN x,.int .u8 (c:Int),Y_ pa,Y_ pb] H (wN (Bm a b x c)):=by have e:Bm a b x c=(AR a x.1 c,AR b x.2 c):=I_ r;rw[e];refine Aj.of_vc func120 rfl (call120 _) (Cd (yN x) rfl ?_);intro F H1 s t u w;have J_:=(St.nil H).box s t u w;refine Ag (wN (0,0)) (yN (0,0)) RZ rfl ?_;intro G H2 y z A B;have d:=J_.box y z A B;have C:=h.frame (d.old.mono p);have q:=d.blk 0 rfl;have i:∀k,S k->k<H2.size:=λk n=>d.up (p k n);refine Ap.heldZ (H_ H2) [11] (sq [0,1,2,3,5,6,7,8] (.f 4 (.f 9 (sq [10] (.f 11 .e))))) rfl zX (D_ (v:=va) Xv (C.ca 0 _ rfl) (i _ h.spa) (F_ Ww ?_));refine D_ (v:=A_ x.1) E_ (by rw[q.cell];rfl) q.lt ?_;refine D_ (v:=vb) Xv (C.cb 0 _ rfl) (i _ h.spb) (F_ Wx ?_);refine D_ (v:=A_ x.2) E_ (by rw[q.cell];rfl) q.lt ?_;refine Al (LC i C.va r) λH3 g=>?_;have l:=d.call g;refine⟨g,?_⟩;refine Al (LC (λk n=>l.up (p k n)) (h.vb.frame (l.old.mono p)) r) λH4 o=>?_;have D:=l.call o;refine⟨g.trans (o.mono λk n=>Af g n),?_⟩;refine Az underlying224 rfl (wN (0,0)) RZ (yN (AR a x.1 c,AR b x.2 c)) rfl (A9 (cs:=yN (AR a x.1 c,AR b x.2 c)) D 1 rfl rfl (N_ _) rfl λH5 m=>?_);rw[Ai (show(yN (AR a x.1 c,AR b x.2 c)).length=(yN (0,0)).length from rfl)]at m;refine L_ (cs:=yN (AR a x.1 c,AR b x.2 c)) O7 ((m.blk 1 rfl).cells λj v E=>by rw[K_];exact E) zA ?_;exact⟨rfl,m.old⟩
def Zu{pa pb pf:Nat}{vb:v_}{a b:Option AM}{x:Int×Int}{ends:Bool->Bool->Bool}{f:FuncId}(p:∀k,S k->k<H.size)(h:Ox S H pa pb va vb a b)(i:S pf)(r:Bn H pf 0 [.func (.func f) #[] #[]])(C:∀(G:Aa) (x y:Bool),BZ prog f #[.bool x,.bool y] G (.bool (ends x y))):
  BZ prog 121 #[wN x,Y_ pf,Y_ pa,Y_ pb] H (.bool (ends (Bk a x.1) (Bk b x.2))):=by refine Aj.of_vc func121 rfl (call121 _) (Cd (yN x) rfl ?_);intro D H1 s t u w;have J_:=(St.nil H).box s t u w;have z:=h.frame (J_.old.mono p);have q:=J_.blk 0 rfl;have d:∀k,S k->k<H1.size:=λk j=>J_.up (p k j);refine Ap.heldZ (H_ H1) [] (sq [0,1,2,3,5,6,7] (.f 4 (.f 8 (.f 9 (.f 10 .e))))) rfl zX (D_ (v:=.func (.func f) #[] #[]) AiL ((r.eq (J_.old _ (p _ i))) 0 _ rfl) (d _ i) (D_ (v:=va) Xv (z.ca 0 _ rfl) (d _ h.spa) (F_ Ww ?_)));refine D_ (v:=A_ x.1) E_ (by rw[q.cell];rfl) q.lt ?_;refine D_ (v:=vb) Xv (z.cb 0 _ rfl) (d _ h.spb) (F_ Wx ?_);refine D_ (v:=A_ x.2) E_ (by rw[q.cell];rfl) q.lt ?_;refine Al (Jd z.va) λH3 c=>?_;have l:=J_.call c;refine⟨c,?_⟩;refine Al (Jd (h.vb.frame (l.old.mono p))) λH4 m=>?_;have A:=l.call m;have g:=c.trans (m.mono λk j=>Af c j);refine⟨g,?_⟩;refine Al (C H4 _ _) λH5 n=>?_;have B:=A.call n;have o:=g.trans (n.mono λk j=>Af g j);refine⟨o,?_⟩;(conv=>whnf);refine⟨o,?_⟩;(conv=>whnf);exact⟨rfl,B.old⟩
def Rk{K:Type} [DecidableEq K]{most:Nat}{F F':List K}{k:K}{i:Nat}(h:L' most F k=zY (F',i))(b:F.length<=most):F'.length<=most/\i<most:=by unfold L' at h;split at h;{rename_i j a;injection h with h;injection h with h1 h2;subst h1;subst h2;have:=(vP.1 a).1;omega};{split at h;{injection h with h;injection h with h1 h2;subst h1;subst h2;simp only[M_,c_,h_];omega};{cases h}}
def nT(a b:Option AM)(ends:Bool->Bool->Bool)(most:Nat)(cs:List (BitVec 256))(l0:Int×Int)(H H':Aa)(r:v_):Prop:=C_ (H_ H) H H'/\
 match CS most (Bm a b) (Ca cs) l0 with
 | none=>r= .tuple #[.pointer zV,.bool zU]
 | some (F,rows)=>∃v,r= .tuple #[v,.bool zW]/\Bi (λk=>H.size<=k/\k<H'.size) H' v (if BN cs (rows.map AK) F.length then zY (Cn cs (rows.map AK) (F.map λx=>ends (Bk a x.1) (Bk b x.2)))else zV)
def UT{pa pb pf:Nat}{vb:v_}{a b:Option AM}{ends:Bool->Bool->Bool}{f:FuncId}{ca:Option Addr}{cc most:Nat}{l0:Int×Int}(X:∀k,S k->k<H.size)(aj:Ox S H pa pb va vb a b)(ak:S pf)(c1:Bn H pf 0 [.func (.func f) #[] #[]])(hf:∀(G:Aa) (x y:Bool),BZ prog f #[.bool x,.bool y] G (.bool (ends x y)))
  (am:b_ CU S H ca cc cs) (da:cs.length<=256) (sa:Iw a) (sb:Iw b) (ao:Lx a b l0) (db:1<=most) (hm:most<=4096):
  Aj prog 122 #[wN l0,.slice ca cs.length cc,.func (.func 120) #[] #[Y_ pa,Y_ pb],.func (.func 121) #[] #[Y_ pf,Y_ pa,Y_ pb],A_ most] H λr H'=>nT a b ends most cs l0 H H' r:=by
 have ap:∀x,Lx a b x->Re x:=λx s=>by{have w:=sa.n2;have h2:=sb.n2;obtain⟨⟨x1,x2⟩,x3,x4⟩:=s;exact⟨⟨x1,zO⟩,x3,zO⟩};have aq:∀x c,Lx a b x->Lx a b (Bm a b x c):=λx c s=>by{unfold Bm;split;{rename_i h;exact⟨sa.step x.1 c s.1 h,sb.step x.2 c s.2 h⟩};{exact s}};have c2:∀x∈[l0],Lx a b x:=λx s=>by rw[g_]at s;subst s;exact ao
 refine Aj.of_vc func122 rfl (call122 _) (Cd (yN l0) rfl ?_);intro c3 H0' ar c4 au aw;have c5:=(St.nil H).box ar c4 au aw;refine Vs (Ok:=S6) (enc:=wN) λmb H1 c6 c7 ax c8=>?_;have J_:=c5.mapNewW c6 c7 ax c8;refine Az underlying301 rfl (.agg #[.map zV,.slice zV 0 0,A_ 0]) rfl (sG mb (.slice zV 0 0) most) rfl (Cd (sG mb (.slice zV 0 0) most) rfl ?_);intro xb H2 c9 cd ce cg;have ay:=(J_.box c9 cd ce cg).nils tLp 224;have ch:Bn H2 c3 0 (yN l0):=(ay.blk 0 rfl).cells λj v hv=>by rw[K_];exact hv
 have ci:St H H2 (NC xb mb zV 0 most [] []):=ay.pick [2,1,3] zQ;have Y:L' most ([]:List (Int×Int)) l0=zY ([l0],0):=by{unfold L';rw[List.findIdx?_nil];simp only;rw[I_ (by simp only[h_];omega)];rfl};refine L_ (cs:=yN l0) O7 ch zA (jA ci (ap l0 ao).ok hm (q_ _) (λF' i az b0 H3 w cj=>?_) (λH3 w _=>?_));{
 rw[Y]at w;injection w with w;injection w with w h2;subst w;subst h2;have ck:St H H3 (NC xb mb az b0 most [l0] [pN (zC a_) none_ 41 zV 0 0 [],pS AI 4 zV 0 0 []]):=(cj.nils (zC a_) 41).nils AI 4;(conv=>whnf);refine Ay.mk [15,16,17] (λx:Nat×List (Int×Int)×List (List Nat)×Option Addr×Nat×Option Addr×Nat=>match x with | (i,F,rows,na,nc,Z,bc)=>[.slice na i nc,.slice Z i bc,A_ i]) (λx H4=>match x with | (i,F,rows,na,nc,Z,bc)=>i<=F.length/\F.length<=most/\(∀x∈F,Lx a b x)/\rows.length=i/\By most (Bm a b) (Ca cs) l0 i=zY (F,rows)/\∃Sx fa fc,St H H4 (NC xb mb fa fc most F [pN (zC a_) Sx 41 na i nc (rows.map AK),pS AI 4 Z i bc ((F.take i).map λx=>ends (Bk a x.1) (Bk b x.2))])) (λx _=>most-x.1) ?_ ?_;{(conv=>whnf);exact⟨(0,[l0],[],zV,0,zV,0),rfl,q_ _,by simp only[c_,h_];omega,c2,rfl,rfl,none_,az,b0,ck⟩};{
 rintro⟨i,F,rows,na,nc,Z,bc⟩ H4 cm ⟨dc,b4,b5,a3,a0,Sx,fa,fc,m⟩;have co:=m.blk 0 rfl;refine F_ Ih ?_;refine D_ (v:=.slice fa F.length fc) Nk (by rw[co.cell];rfl) zA ?_;refine AD.m2 (λhz=>?_) (λhz=>?_);{
 have⟨x,s⟩:=Ab (l:=F) (k:=i) zO;have b6:=b5 x (e_ s);have o:By most (Bm a b) (Ca cs) l0 (i+1)=((Ca cs).foldl (C4 most (Bm a b) x) (zY (F,[]))).map λr=>(r.1,rows++[r.2]):=by{show(By most (Bm a b) (Ca cs) l0 i).bind _=_;rw[a0];simp only[xO,s]};refine EQ AB rfl zO zO zO zO ?_;intro rb H6 cp b7 b9 a4;rw[zB]at b9;rw[zB,show(0:Int).toNat=0 from rfl];have a5:=m.newCap (T:=a_) (cap:=cs.length) cp b7 b9 a4 (by simp[HT]) (by unfold maxLen;omega);(conv=>whnf);refine Ay.mk [18,51] (λy:Nat×List (Int×Int)×List Nat×Option Addr×Nat=>match y with | (j,F',row,ra,rc)=>[.slice ra row.length rc,A_ j]) (λy H7=>match y with | (j,F',row,ra,rc)=>j<=cs.length/\F'.length<=most/\(∀x∈F',Lx a b x)/\F <+: F'/\row.length=j/\((Ca cs).take j).foldl (C4 most (Bm a b) x) (zY (F,[]))=zY (F',row)/\∃fa fc,St H H7 (NC xb mb fa fc most F' [pN (zC a_) Sx 41 na i nc (rows.map AK),pS AI 4 Z i bc ((F.take i).map λx=>ends (Bk a x.1) (Bk b x.2)),pS a_ 3 ra row.length rc (AK row)])) (λy _=>cs.length-y.1) ?_ ?_;{(conv=>whnf);exact⟨(0,F,[],zY ⟨rb,0,zV⟩,cs.length),rfl,q_ _,b4,b5,uB _,rfl,rfl,fa,fc,a5⟩};{
 rintro⟨j,F',row,ra,rc⟩ H7 cq ⟨hj,J,a1,z,a6,K,E,I,L⟩;refine AD.m2 (λcr=>?_) (λcr=>?_);{
 have⟨c,hc⟩:=Ab (l:=cs) (k:=j) zO;have ct:=ST hc;have bd:=Et c 0;have A:=E8 z s;refine Y' (i:=j) Dz (am.frame (L.old.mono X)) hc rfl ?_;rintro b8 o8 de df cu rfl;refine L_ (cs:=Ah c) Bh cu zA (Ag (BL 0) (Ah 0) rfl rfl ?_);intro sx H8 cw cx cy cz;have a7:=L.box cw cx cy cz;refine A9 (cs:=Ah c) a7 6 rfl rfl (N_ _) rfl λH9 a8=>?_;rw[Ai (show(Ah c).length=(Ah 0).length from rfl)]at a8;refine L_ (cs:=Ah c) Bh ((a8.blk 6 rfl).cells λj v hv=>by rw[K_];exact hv) zA ?_;refine Al (RU c 0 zQ H9) λH10 be=>?_;have q:=a8.call be;have bf:=q.blk 0 rfl;refine F_ Ih ?_;refine D_ (v:=.slice E F'.length I) Nk (by rw[bf.cell];rfl) zA ?_;have a9:=q.view 2 rfl;refine EK (i:=i) WU a9 rfl A rfl ?_;rintro d0 d1 d2 bg M rfl;refine lN (cs:=yN x) O7 M ?_;have bh:∀k,S k->k<H10.size:=λk B=>q.up (X k B);refine Al (bP (S:=S) bh (aj.frame (q.old.mono X)) bd) λH11 bi=>?_;have N:=q.call bi;replace N:St H H11 (NC xb mb E I most F' [pN (zC a_) Sx 41 na i nc (rows.map AK),pS AI 4 Z i bc ((F.take i).map λx=>ends (Bk a x.1) (Bk b x.2)),pS a_ 3 ra row.length rc (AK row)]):=N.pick [0,1,2,3,4,5] zQ;have p:((Ca cs).take (j+1)).foldl (C4 most (Bm a b) x) (zY (F,[]))=(L' most F' (Bm a b x (Bu c 0).1)).map λr=>(r.1,row++[r.2]):=by{rw[Ac ct,xP,K];rfl};refine jA N (ap _ (aq x _ b6)).ok hm J (λF2 t bj bm H12 g O=>?_) (λH12 g O=>?_);{
 have⟨d3,dg⟩:=Rk g J;rw[g]at p;refine As AB [A_ t] rfl rfl zQ zQ ?_;intro d4 H13 P bn Q C;refine GI (x:=(t:Int)) (O.skip P C) 5 AB rfl Q ⟨rfl,HF ⟨zO,zO⟩⟩ rfl (by unfold AK;rw[k_];omega) zQ λab ae H14 d _=>?_;have e1:(AK row).length+1=(row++[t]).length:=by unfold AK;simp
 have e2:AK row++[(t:Int)]=AK (row++[t]):=by unfold AK;simp
 rw[e1,e2]at d;rw[e1];(conv=>whnf);rw[Q_ j zO];exact⟨rfl,(j+1,F2,row++[t],ab,ae),zZ,⟨zO,d3,λy hy=>(LI g y hy).elim (a1 y) λe=>by rw[e];exact aq x _ b6,z.trans (by
  unfold L' at g;split at g
  ·injection g with h;injection h with w h2;subst w;exact uB _
  ·split at g
   ·injection g with h;injection h with w h2;subst w;exact List.prefix_append _ _
   ·cases g),by simp[a6],p,bj,bm,d⟩,by simp only;omega⟩};{rw[g]at p;have ag:(Ca cs).foldl (C4 most (Bm a b) x) (zY (F,[]))=zV:=by{have h3:=(uM (j+1) (Ca cs)).symm;rw[h3,xP,p];exact Fp x _};have R:CS most (Bm a b) (Ca cs) l0=zV:=K4 (n:=i) (by rw[o,ag];rfl) zO;(conv=>whnf);refine⟨O.old,?_⟩;rw[R]}};{obtain rfl:j=cs.length:=zO;have ah:(Ca cs).foldl (C4 most (Bm a b) x) (zY (F,[]))=zY (F',row):=by{rw[<-K,uL (by unfold Ca;rw[k_];exact N_ _)]};rw[ah]at o;simp only[wB]at o;have A:=E8 z s;have d5:(AK row).length=row.length:=by{unfold AK;rw[k_]};have D:(rows.map AK).length=i:=by{rw[k_];exact a3};have bo:((F'.take (i+1)).map λx=>ends (Bk a x.1) (Bk b x.2))=((F.take i).map λx=>ends (Bk a x.1) (Bk b x.2))++[ends (Bk a x.1) (Bk b x.2)]:=by{obtain⟨t,rfl⟩:=z;rw[oI zO,Ac s,xF];rfl};have U:((F.take i).map λx=>ends (Bk a x.1) (Bk b x.2)).length=i:=by{rw[k_,wK];omega};obtain⟨dh,di,er,ai,-⟩:=(L.at_ 5 rfl).1.view (S':=O_ (.slice ra row.length rc)) (λb hb=>hb) (λb hb=>hb.elim);injection er with er1 er2 er3;subst er1;subst er3;have a7:St H H7 (pN (zC a_) (λk=>Sx k\/O_ (.slice ra row.length rc) k) 41 na i nc (rows.map AK)::[pB pD xb (sG mb (.slice E F'.length I) most),uZ S6 wN mb (X1 F'),pS tLp 224 E F'.length I F',pS AI 4 Z i bc ((F.take i).map λx=>ends (Bk a x.1) (Bk b x.2))]):=B_.absorb (L.pick [3,5,0,1,2,4] zQ);refine As Dt [.slice ra row.length rc] rfl rfl zQ zQ ?_;intro d4 H13 P bn Q C;have bp:=a7.skip P C;have W:b_ a_ (λk=>Sx k\/O_ (.slice ra row.length rc) k) H13 ra rc (AK row):=(ai.frame (C.mono λk B=>by{have:=(L.in_ 5 rfl (.inl B)).2;omega})).mono λk B=>.inr B;refine SJ (row:=AK row) bp Dt (Q.cells λj v hv=>by rw[K_];exact hv) ⟨ra,rc,by rw[d5],W⟩ rfl (λu hu=>by cases g_.1 hu;rfl) (by rw[D];omega) zQ λab ae H14 d=>?_;rw[D]at d ⊢;have bq:=d.blk 1 rfl;refine F_ Ih ?_;refine D_ (v:=.slice E F'.length I) Nk (by rw[bq.cell];rfl) zA ?_;refine EK (i:=i) WU (d.view 3 rfl) rfl A rfl ?_;rintro d0 d1 d2 bg M rfl;refine lN (cs:=yN x) O7 M ?_;have br:∀k,S k->k<H14.size:=λk B=>d.up (X k B);refine Al (Zu (S:=S) br (aj.frame (d.old.mono X)) ak (c1.eq (d.old pf (X pf ak))) hf) λH15 bu=>?_;have bv:=d.call bu;refine As C7 [.bool (ends (Bk a x.1) (Bk b x.2))] rfl rfl zQ zQ ?_;intro dj H16 bw d9 bx bz;refine GI (x:=ends (Bk a x.1) (Bk b x.2)) (bv.skip bw bz) 4 C7 rfl bx rfl rfl (by rw[U];omega) zQ λd6 d7 H17 V _=>?_;rw[U,<-bo]at V;rw[U];(conv=>whnf);rw[Q_ i zO];refine⟨rfl,(i+1,F',rows++[row],ab,ae,d6,d7),zZ,⟨?_,J,a1,by simp[a3],o,(λk=>Sx k\/O_ (.slice ra row.length rc) k),E,I,?_⟩,by simp only;omega⟩;{have:=(V_.1 A).1;omega};{have e5:rows.map AK++[AK row]=(rows++[row]).map AK:=zZ;rw[e5]at V;exact V.pick [1,2,3,0,4] zQ}}}};{obtain rfl:i=F.length:=zO;rw[zH]at m;have D:(rows.map AK).length=F.length:=by{rw[k_];exact a3};have R:=K3 a0 rfl b4;have a2:=jP ca na Z cc nc bc cs (rows.map AK) (F.map λx=>ends (Bk a x.1) (Bk b x.2)) (H_ H4) H4 (λk B=>B) ((am.frame (m.old.mono X)).mono λk B=>m.up (X k B)) (m.view 3 rfl) (m.view 4 rfl);rw[D,k_]at a2;refine Ae.mk a2 ?_;rintro v H6 ⟨a4,b7,d8⟩;have a5:=m.call a4;(conv=>whnf);refine⟨a5.old,?_⟩;rw[R];exact⟨v,rfl,d8.mono λk B=>⟨yV (Bl m.old) B.1,B.2⟩⟩}}};{rw[Y]at w;cases w}
end
end Go.Proofs.YtfbghcpdinlmcaaGreatDoor
