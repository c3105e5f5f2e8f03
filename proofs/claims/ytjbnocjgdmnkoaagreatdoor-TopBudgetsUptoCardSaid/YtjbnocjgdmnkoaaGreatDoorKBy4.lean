import Derived.Test.YtjbnocjgdmnkoaaGreatDoorKBy3
import Derived.Recover
set_option maxHeartbeats 100000000
open Array renaming replicate -> AqC, map -> ArL
open BitVec renaming allOnes -> ArI
open List renaming range -> ApS, replicate -> Aq7, cons -> ArK
set_option maxRecDepth 100000
open Go.Proofs.Tryz
open Go renaming Value -> v_, Program -> w_, TypeId -> x_, Operand -> z_, World -> y_
open Option renaming some -> zY, none -> zV
open Bool renaming true -> zW, false -> zU
open Decidable renaming decide -> zT
set_option linter.unusedVariables false
set_option linter.unusedSimpArgs false
set_option linter.defProp false
namespace Go.Proofs.YtjbnocjgdmnkoaaGreatDoor
variable{F:List NW}{W:List (Int×Nat)}{l:List Nat}{n c q j p:Nat}{S:Nat->Prop}{H H0:Aa}{ps:List Pc}{P:w_}{oa:Option Addr}{b J:Option AM}{K:v_->Prop}{T A:x_}{x:z_}{e m:Int}{k:Int×Int}{va vb:v_}{f:FuncId}{N:O_}{es:List U'}{cap:Array v_}{R E' R' Y:v_->Aa->Prop}{a:Act}{ds:List Deferred}{w:y_}{E:Fr->v_->Aa->Prop}{X:List (Nat×(Fr->Aa->Prop))}{kr kn:Fr->Aa->Prop}{y B:Code}{Q:Exit->Fr->Aa->Prop}{t:ByteArray}
def leL(u v:List Nat):Prop:=u.length<v.length\/(u.length=v.length/\D8 u v)
def NR(u:List Nat):leL u u:=.inr ⟨rfl,GS u⟩
def Ji{u v w:List Nat}(h:leL u v)(k:leL v w):leL u w:=by rcases h with h | ⟨a,b⟩<;>rcases k with k | ⟨c,d⟩;{exact .inl zO};{exact .inl zO};{exact .inl zO};exact .inr ⟨zO,NY a c b d⟩
def ZE{u v:List Nat}(b:Nat)(h:leL u v):leL (u++[b]) (v++[b]):=by rcases h with h | ⟨a,c⟩;{exact .inl (by simpa using h)};exact .inr ⟨by simp[a],PB b a c⟩
def P9:∀(u:List Nat) {b c:Nat},b<=c->D8 (u++[b]) (u++[c])
 | [],b,c,h=>by
   show D8 [b] [c];unfold D8;rcases tT h with h | h
   ·exact .inl h
   ·exact .inr ⟨h,GS _⟩
 | a::u,b,c,h=>by
   show D8 (a::(u++[b])) (a::(u++[c]));unfold D8;exact .inr ⟨rfl,P9 u h⟩
def PC:∀{u v:List Nat} (b c:Nat),u.length=v.length->D8 u v->u≠v->D8 (u++[b]) (v++[c])
 | [],[],_,_,_,_,h=>absurd rfl h
 | [],_::_,_,_,h,_,_=>by simp at h
 | _::_,[],_,_,h,_,_=>by simp at h
 | a::u,d::v,b,c,h,f,h2=>by
   unfold D8 at f;show D8 (a::(u++[b])) (d::(v++[c]));unfold D8;rcases f with f | ⟨rfl,f⟩
   ·exact .inl f
   ·exact .inr ⟨rfl,PC b c (by simpa using h) f λe=>h2 (by rw[e])⟩
def ZF{u v:List Nat}(b c:Nat)(h:leL u v)(a:u≠v):leL (u++[b]) (v++[c]):=by rcases h with h | ⟨d,e⟩;{exact .inl (by simpa using h)};exact .inr ⟨by simp[d],PC b c d e a⟩
structure Dw(g:Gr)(by_:List Nat)(a:Nd)(F:List NW)(i:Nat)(k:Nat):Prop where
 zero:F[0]?=zY (a,[])
 nd:(F.map (·.1)).Nodup
 ok:∀x∈F,(∀b∈x.2,b∈by_)/\To g x.2 a x.1
 up:∀(j l:Nat) (x y:NW),j<l->F[j]?=zY x->F[l]?=zY y->leL x.2 y.2/\x.2≠y.2
 closed:∀(j l:Nat) (x:NW) (b:Nat) (t:Nd),F[j]?=zY x->by_[l]?=zY b->t∈g.next x.1 b->(j<i\/(j=i/\l<k))->∃y∈F,y.1=t/\leL y.2 (x.2++[b])
 par:∀(m:Nat) (y:NW),F[m]?=zY y->m=0\/∃(j l b:Nat) (x:NW),F[j]?=zY x/\by_[l]?=zY b/\y.2=x.2++[b]/\(j<i\/(j=i/\l<k))
section
variable{g:Gr}{by_:List Nat}{a t:Nd}{F F':List NW}{i k:Nat}
def Dw.start:Dw g by_ a [(a,[])] 0 0:=by refine⟨rfl,zZ,λx c=>?_,λj l x y f c d=>?_,λj l x b t c e k h=>zO,λm y d=>.inl ?_⟩;{rw[Q_]at c;subst c;exact⟨λb e=>(by cases e),rfl⟩};{have:=(P_.1 d).1;simp at this;omega};have:=(P_.1 d).1;simp at this;omega
def Dw.turn(h:Dw g by_ a F i k)(u:by_.length<=k):Dw g by_ a F (i+1) 0:=by refine⟨h.zero,h.nd,h.ok,h.up,λj l x b t d c e w=>h.closed j l x b t d c e ?_,λm y f=>?_⟩;{have:=(P_.1 c).1;omega};rcases h.par m y f with n | ⟨j,l,b,x,p,q,r,z⟩;{exact .inl n};exact .inr ⟨j,l,b,x,p,q,r,zO⟩
def Dw.ahead(h:Dw g by_ a F i k)(d:by_.Pairwise (·<·)){x:NW}(t:F[i]?=zY x){b:Nat}(w:by_[k]?=zY b){m:Nat}{y:NW}(f:F[m]?=zY y):leL y.2 (x.2++[b])/\y.2≠x.2++[b]:=by rcases h.par m y f with rfl | ⟨j,l,c,z,n,A,e,p⟩;{rw[h.zero]at f;cases f;exact⟨.inl zZ,λe=>by simp at e⟩};rw[e];rcases p with p | ⟨rfl,q⟩;{have⟨B,u⟩:=h.up j i z x p n t;exact⟨ZF c b B u,λe=>u (dR e rfl).1⟩};rw[t]at n;cases n;have r:c<b:=by{have⟨p1,p2⟩:=P_.1 A;have⟨C,D⟩:=P_.1 w;have:=xT.1 d l k p1 C q;rw[p2,D]at this;exact this};refine⟨.inr ⟨zZ,P9 _ (nW r)⟩,λe=>?_⟩;have:=dR e rfl;simp at this;omega
def Dw.add(h:Dw g by_ a F i k)(C:by_.Pairwise (·<·)){x:NW}(w:F[i]?=zY x){b:Nat}(B:by_[k]?=zY b)(E:g.next x.1 b=[t])
  (P:((∃y∈F,y.1=t)/\F'=F)\/((∀y∈F,y.1≠t)/\F'=F++[(t,x.2++[b])])):Dw g by_ a F' i (k+1):=by
 have Q:=(P_.1 w).1;rcases P with⟨⟨z,n,G⟩,rfl⟩ | ⟨H,rfl⟩
 ·refine⟨h.zero,h.nd,h.ok,h.up,λj l y c u d f A D=>?_,λm y d=>?_⟩
  ·by_cases hold:j<i\/(j=i/\l<k)
   ·exact h.closed j l y c u d f A hold
   ·obtain⟨rfl,rfl⟩:j=i/\l=k:=zO
    rw[w]at d;cases d;rw[B]at f;cases f;rw[E,Q_]at A;subst A;have⟨m,I⟩:=xB n;exact⟨z,n,G,(h.ahead C w B I).1⟩
  ·rcases h.par m y d with J | ⟨j,l,c,K,L,M,N,R⟩
   ·exact .inl J
   ·exact .inr ⟨j,l,c,K,L,M,N,zO⟩
 ·have r:∀(m:Nat) (y:NW),(F++[(t,x.2++[b])])[m]?=zY y->F[m]?=zY y\/(m=F.length/\y=(t,x.2++[b])):=λm y d=>by
   by_cases I:m<F.length
   ·rw[zE I]at d;exact .inl d
   ·have O:=(P_.1 d).1;simp only[M_,g_]at O;obtain rfl:m=F.length:=zO
    simp at d;exact .inr ⟨rfl,d.symm⟩
  have old:∀{m:Nat} {y:NW},F[m]?=zY y->(F++[(t,x.2++[b])])[m]?=zY y:=fun{m y} d=>by
   rw[zE (P_.1 d).1];exact d
  have q:∀{j:Nat} {y:NW},j<=i->(F++[(t,x.2++[b])])[j]?=zY y->F[j]?=zY y:=fun{j y} D d=>by
   rw[zE zO]at d;exact d
  refine⟨old h.zero,?_,λy d=>?_,λj l y z D d n=>?_,λj l y c u d f A D=>?_,λm y d=>?_⟩
  ·rw[xV];refine rG.2 ⟨h.nd,zZ,λy d z n=>?_⟩;simp only[xY,rJ,Q_]at n;subst n;obtain⟨p,S,rfl⟩:=yT.1 d;exact H p S
  ·rcases n_.1 d with d | d
   ·exact h.ok y d
   ·rw[Q_]at d;subst d;have⟨T,U⟩:=h.ok x (Y_ w);refine⟨λc f=>?_,Nq.2 ⟨_,U,by rw[E];exact Q_.2 rfl⟩⟩;rcases n_.1 f with f | f
    ·exact T c f
    ·rw[Q_]at f;subst f;exact Y_ B
  ·rcases r l z n with n | ⟨rfl,rfl⟩
   ·exact h.up j l y z D (by
     rcases r j y d with d | ⟨rfl,-⟩
     ·exact d
     ·have:=(P_.1 n).1;omega) n
   ·rcases r j y d with d | ⟨rfl,-⟩
    ·exact h.ahead C w B d
    ·omega
  ·by_cases hold:j<i\/(j=i/\l<k)
   ·have⟨z,n,e,V⟩:=h.closed j l y c u (q zO d) f A hold;exact⟨z,n_.2 (.inl n),e,V⟩
   ·obtain⟨rfl,rfl⟩:j=i/\l=k:=zO
    have d:=q (I_ _) d;rw[w]at d;cases d;rw[B]at f;cases f;rw[E,Q_]at A;subst A;exact⟨_,n_.2 (.inr (Q_.2 rfl)),rfl,NR _⟩
  ·rcases r m y d with d | ⟨rfl,rfl⟩
   ·rcases h.par m y d with J | ⟨j,l,c,K,L,M,N,R⟩
    ·exact .inl J
    ·exact .inr ⟨j,l,c,K,old L,M,N,zO⟩
   ·exact .inr ⟨i,k,b,x,old w,B,rfl,zO⟩
def Dw.covers(h:Dw g by_ a F i 0):∀(n:Nat) {u:List Nat} {t:Nd},u.length=n->(∀b∈u,b∈by_)->To g u a t->(∃(j:Nat) (x:NW),j<i/\F[j]?=zY x/\x.1=t/\leL x.2 u)\/∃x,F[i]?=zY x/\leL x.2 u
 | 0,u,t,hu,_,ht=>by
   obtain rfl:=wL hu;obtain rfl:a=t:=ht;cases i with
   | zero=>exact .inr ⟨_,h.zero,NR _⟩
   | succ i=>exact .inl ⟨0,_,zO,h.zero,rfl,NR _⟩
 | n+1,u,t,hu,hb,ht=>by
   obtain⟨w,b,rfl⟩:∃w b,u=w++[b]:=⟨u.dropLast,u.getLast (by rintro rfl;simp at hu),(List.dropLast_concat_getLast _).symm⟩;rw[M_,g_,Nat.add_right_cancel_iff]at hu;have⟨p,D,r⟩:=Nq.1 ht;rcases h.covers n hu (λc E=>hb c (n_.2 (.inl E))) D with⟨j,x,G,z,rfl,A⟩ | ⟨x,z,A⟩
   ·have⟨l,B⟩:=xB (hb b zZ);have⟨y,H,e,C⟩:=h.closed j l x b t z B r (.inl G);have d:=Ji C (ZE b A);have⟨m,q⟩:=xB H;rcases pH m i with f | rfl | f
    ·exact .inl ⟨m,y,f,q,e,d⟩
    ·exact .inr ⟨y,q,d⟩
    ·have k:i<F.length:=by have:=(P_.1 q).1;omega
     exact .inr ⟨_,zH k,Ji (h.up i m _ y f (zH k) q).1 d⟩
   ·exact .inr ⟨x,z,Ji A (.inl zZ)⟩
variable(hby:∀c,c<256->∃r∈by_,r<=c/\∀n,g.next n r=g.next n c)
include hby
def Dw.found(d:∀b∈by_,b<256)(h:Dw g by_ a F i 0){x:NW}(p:F[i]?=zY x)(r:g.ends x.1=zW)(m:∀(j:Nat) (y:NW),j<i->F[j]?=zY y->g.ends y.1=zU):D0 g (·=a) x.2:=by have e:∀u,BG u->DD g (·=a) u->leL x.2 u:=λu w f=>by{obtain⟨n,rfl,z⟩:=f;have⟨v,A,B,C,D⟩:=Kh hby w z;have⟨t,E,q⟩:=I3.1 C;rcases h.covers _ rfl B E with⟨j,y,G,l,rfl,-⟩ | ⟨y,l,k⟩;{rw[m j y G l]at q;cases q};rw[p]at l;cases l;exact Ji k (.inr ⟨A,D⟩)};have⟨H,I⟩:=h.ok x (Y_ p);refine⟨⟨rfl,λb J=>d b (H b J),⟨a,rfl,I3.2 ⟨_,I,r⟩⟩,λu f c k=>?_⟩,λu c k=>?_⟩;{rcases e u c k with h | ⟨-,h⟩;{omega};exact h};rcases e u c k with h | ⟨h,-⟩<;>omega
def Dw.none(h:Dw g by_ a F F.length 0)(c:∀y∈F,g.ends y.1=zU):∀u,BG u->¬DD g (·=a) u:=by rintro u e ⟨n,rfl,f⟩;have⟨v,p,k,l,q⟩:=Kh hby e f;have⟨t,m,d⟩:=I3.1 l;rcases h.covers _ rfl k m with⟨j,y,r,b,rfl,-⟩ | ⟨y,b,w⟩;{rw[c y (Y_ b)]at d;cases d};rw[yR (I_ _)]at b;cases b
end
section
attribute [local irreducible] Bh By AJ
def r_(z:Int×Int):List v_:=[B_ z.1,B_ z.2]
def z'(z:Int×Int):v_:=.agg (r_ z).toArray
def Gn(z:Int×Int):Prop:=zC .i64 z.1/\zC .i64 z.2
def WD{a b:Int×Int}(h:z' a=z' b):a=b:=by have⟨x,y⟩:=a;have⟨e,f⟩:=b;simp only[z',r_,Value.agg.injEq,Array.mk.injEq,ArK.injEq,Value.int.injEq,true_and,and_true]at h;have⟨c,d⟩:=h;rw[c,d]
def WE{x:Int}(h:zC .i64 x):(Lit.int .i64 x).wf=zW:=by unfold Lit.wf;simp only[o_,yL];exact h
def Af6(m:Nat){n:Int×Int}(h:Gn n):prog.keyLits (m+2) 257 (r_ n)=zY [.int .i64 n.1,.int .i64 n.2]:=by have a:prog.cellsOf 257=2:=zX;have b:prog.cellsOf 3=1:=zX;simp[Program.keyLits,underlying257,underlying3,a,b,r_,WE h.1,WE h.2]
def AjB{n:Int×Int}(h:Gn n):∃l,keyOf prog 257 (z' n)=zY l:=by
 have a:prog.keyType 257=zW:=zX;have b:prog.cellsOf 257=2:=zX;have c:(z' n).formed prog 257=zW:=by simp[z',r_,Value.formed,underlying257,b]
 obtain⟨m,d⟩:∃m,prog.types.size+1=m+2:=⟨prog.types.size-1,by{have:zT (1<=prog.types.size)=zW:=zX;have:=of_decide_eq_true this;omega}⟩;refine⟨.string (keyBytes [.int .i64 n.1,.int .i64 n.2]),?_⟩;unfold keyOf;simp only[underlying257,a,c,nV,if_true];rw[d,show(z' n).cells.toList=r_ n from rfl,Af6 m h];rfl
def SA:Fv prog 257 Gn z':=Fv.ofLaw (deep_law (m:=2) zQ zX zX (by simp[underlying257])) (λa b h=>WD h) (λa h=>AjB h)
def wA(w:Int×Nat):List v_:=[B_ w.1,.int .u8 (w.2:Int)]
def uR(w:Int×Nat):v_:=.agg (wA w).toArray
def SM:D4 prog 260 257 259 (uR (0,0)):=⟨rfl,rfl⟩
def qO:Ty Nd where
 size:=2
 rep _ _ cs n:=n.s=0/\cs=r_ (n.x,n.y)
 len h:=by rw[h.2];rfl
 frame h _:=h
 mono h _:=h
def Gg(F:List NW)(W:List (Int×Nat))(z:Int×Int):Option v_:=(F.findIdx? λx=>zT ((x.1.x,x.1.y)=z)).bind λi=>(W[i]?).map uR
structure Im(F:List NW)(W:List (Int×Nat)):Prop where
 len:W.length=F.length
 nd:(F.map λx=>(x.1.x,x.1.y)).Nodup
 s0:∀x∈F,x.1.s=0
 zero:W[0]?=zY (-1,0)
 link:∀(i:Nat) (y:NW),F[i]?=zY y->(i=0/\y.2=[])\/∃(j c:Nat) (x:NW),W[i]?=zY ((j:Int),c)/\j<i/\F[j]?=zY x/\y.2=x.2++[c]/\c<256
def Yc{W:List (Int×Nat)}(b:(F.map λx=>(x.1.x,x.1.y)).Nodup){i:Nat}{y:NW}(h:F[i]?=zY y):F.findIdx? (λx=>zT ((x.1.x,x.1.y)=(y.1.x,y.1.y)))=zY i:=by rw[uT];have⟨a,e⟩:=P_.1 h;refine⟨a,by rw[e];exact a_ rfl,λj c=>?_⟩;have:=(xT.1 b) j i (by rw[d_];omega) (by rw[d_];exact a) c;rw[dS,dS,e]at this;simpa using this
def Im.seen(h:Im F W){i:Nat}{y:NW}{w:Int×Nat}(a:F[i]?=zY y)(b:W[i]?=zY w):Gg F W (y.1.x,y.1.y)=zY (uR w):=by unfold Gg;rw[Yc (W:=W) h.nd a];simp[b]
def Gj(l:List Nat)(i:Nat):List Nat:=(ApS l.length).map λp=>if p<i\/l.length<=p+i then l.getD (l.length-1-p) 0 else l.getD p 0
def E6(l:List Nat)(i:Nat):(Gj l i).length=l.length:=by simp[Gj]
def Hd{i:Nat}(h:p<l.length):(Gj l i)[p]?=zY (if p<i\/l.length<=p+i then l.getD (l.length-1-p) 0 else l.getD p 0):=by unfold Gj;rw[I',tD h];rfl
def V8(l:List Nat):Gj l 0=l:=by apply wR;intro p;by_cases a:p<l.length;{rw[Hd a,G_ zO,yV,zH a]<;>rfl};rw[yR (by rw[E6];omega),yR zO]
def Ys{i:Nat}(h:l.length<=i+i+1):Gj l i=l.reverse:=by apply wR;intro p;by_cases a:p<l.length;{rw[Hd a,List.getElem?_reverse a,zH zO];by_cases b:p<i\/l.length<=p+i;{rw[H_ b,yV,zH zO]<;>rfl};rw[G_ b,yV,zH a];have:l.length-1-p=p:=zO;simp only[this,Option.getD_some]};rw[yR (by rw[E6];omega),yR (by rw[List.length_reverse];omega)]
def V7{i:Nat}(h:i+i+1<l.length):((Gj l i).set i (l.getD (l.length-1-i) 0)).set (l.length-1-i) (l.getD i 0)=Gj l (i+1):=by apply wR;intro p;by_cases a:p<l.length;{rw[Hd a,vD,wM,E6];by_cases b:l.length-1-i=p;{subst b;rw[H_ rfl,H_ a,H_ (.inr zO),(zO:l.length-1-(l.length-1-i)=i)]};rw[G_ b,vD,E6];by_cases c:i=p;{subst c;rw[H_ rfl,H_ a,H_ (.inl zO)]};rw[G_ c,Hd a];by_cases d:p<i\/l.length<=p+i;{rw[H_ d,H_ zO]};rw[G_ d,G_ zO]};rw[yR (by rw[wM,wM,E6];omega),yR (by rw[E6];omega)]
def AhD{α:Type}{T:Ty α}{B:Nat->Prop}{cap:Nat}{xs:List α}{t b o:Nat}{v:v_}{x:α}{K:Aa->Prop}(q:D_ B H0 H ps)(i:Nat) [ht:CellT P t](r:ps[i]?=zY (pN T S t (k_ b) n cap xs))(u:T.size=1)(z:o=j)(A:j<xs.length)(C:v.oneCell'=zW) (D:∀H',A_ S H H'->T.rep S H' [v] x) (k:∀H',D_ B H0 H' (ps.set i (pN T S t (k_ b) n cap (xs.set j x)))->A_ (λk=>k<H.size/\k≠b) H H'->H.size<=H'.size->K H'):BK P (Instr.storeAt t (.pointer (zY ⟨b,o,zV⟩)) v) H K:=by subst z;have d:=q.at_ i r;obtain⟨-,-,-,l,g,h,-,c⟩:=d.1.placeS A;rw[u,yW]at h c;refine yO g zO C ?_;intro H' w e y;have m:A_ S H H':=e.mono λk a f=>d.2 k a (by subst f;exact⟨0,n,cap,rfl⟩);have p:=c H' [v] x (by rw[OH zO];exact w) m (D H' m);exact k H' (q.upd i r (e.mono λk a f=>a.2 (.inl (by subst f;exact⟨0,n,cap,rfl⟩))) _ ⟨p,d.2⟩ (λk a=>.inl a) (λk a=>by rw[y];exact(q.in_ i r a).2) zO) (e.mono λk a=>a.2) zO
def LX:(prog.info? 259).bind (·.zero)=zY (uR (0,0)):=zX
def AfQ{oc mb i:Nat}{y:NW}(ho:c_ qO (F_ H) H oa oc (F.map (·.1)))(hm:Fx Gn z' H mb (Gg F W))(N:Im F W)(hF:F.length<=4294967296)(hr:∀x∈F,Gn (x.1.x,x.1.y))(O:F[i]?=zY y):AT prog 130 #[.slice oa F.length oc,.map (zY mb),B_ i] H (.string (bA y.2)):=by
 have ae:mb<H.size:=by{obtain⟨⟨es,ah,h1,-⟩,-⟩:=hm;exact(wW.1 h1).1};have P:∀{k:Nat} {x:NW},F[k]?=zY x->(F.map (·.1))[k]?=zY x.1:=λh=>by rw[I',h];rfl
 have ai:∀{G:Aa},A_ (F_ H) H G->Fx Gn z' G mb (Gg F W):=λh=>by{have⟨h1,h2⟩:=hm;exact⟨h1.agr h ae,h2⟩};refine Am.of_vc func130 rfl (call130 _) ?_;have⟨w,hw⟩:=Ai (l:=W) (k:=i) (by rw[N.len];exact(P_.1 O).1);refine I2 (i:=i) Qe ho (d_ _).symm (P O) rfl ?_;rintro b1 o1 c1 bn aj ⟨-,rfl⟩;refine K_ (cs:=r_ (y.1.x,y.1.y)) aj zA (Oc (a:=(y.1.x,y.1.y)) SM SA (hr y (Y_ O)) hm zA ?_);rw[N.seen O hw];refine BO (St.nil H) (uR (0,0)) (wA (0,0)) LX rfl λp2 H2 Q=>(AB (cs:=wA w) Q 0 rfl rfl (I_ _) rfl λH3 J=>?_);rw[AA (show(wA w).length=(wA (0,0)).length from rfl)]at J;have n:=J.nils tU8 Hb;(conv=>whnf);refine AD.mk [7,8] (λx:Nat×List Nat×Option Addr×Nat×Nat=>match x with | (k,bk,a,c,R)=>[.slice a bk.length c,J_ R]) (λx H4=>match x with | (k,bk,a,c,R)=>(∃z wz,F[k]?=zY z/\W[k]?=zY wz/\y.2=z.2++bk.reverse/\(∀b∈bk,b<256)/\bk.length+k<=i/\(bk=[]->a=zV)/\St H H4 [pB 259 R (wA wz),pS tU8 Hb a bk.length c (bk.map fun(x:Nat)=>(x:Int))])) (λx _=>x.1) ?_ ?_;{(conv=>whnf);exact⟨(i,[],zV,0,p2),rfl,y,w,O,hw,zZ,(λb D=>by cases D),zZ,λ_=>rfl,n⟩};clear n J Q;rintro⟨k,bk,a,c,R⟩ H4 ak ⟨z,wz,hz,q,S,T,bo,U,n⟩;have bp:=(P_.1 O).1;have am:(bk.map fun(x:Nat)=>(x:Int)).length=bk.length:=d_ _;refine E_ ?_;refine lT ((n.blk 0 rfl).cellE rfl) ?_;rcases N.link k z hz with⟨rfl,ao⟩ | ⟨j,t,x,ap,aq,A,au,V⟩;{
 rw[N.zero]at q;injection q with q;subst q;have aw:y.2=bk.reverse:=by rw[S,ao];simp
 (conv=>whnf);rw[m_ (x:=(bk.length:Int)-1) zO];(conv=>whnf);refine AD.mk [9,10] (λi:Nat=>[B_ i,B_ ((bk.length:Int)-1-(i:Int))]) (λi H5=>(i=0\/i+i<=bk.length)/\St H H5 [pB 259 R (wA (-1,0)),pS tU8 Hb a bk.length c ((Gj bk i).map fun(x:Nat)=>(x:Int))]) (λi _=>bk.length-i) ?_ ?_;{(conv=>whnf);refine⟨0,zZ,.inl rfl,?_⟩;rw[V8];exact n};clear n;rintro d H5 ay ⟨bq,g⟩;have E:∀p,p<bk.length->((Gj bk d).map fun(x:Nat)=>(x:Int))[p]?=zY (((if p<d\/bk.length<=p+d then bk.getD (bk.length-1-p) 0 else bk.getD p 0:Nat)):Int):=λp hp=>by rw[I',Hd hp];rfl
 have r:((Gj bk d).map fun(x:Nat)=>(x:Int)).length=bk.length:=by rw[d_,E6]
 have B:∀p,bk.getD p 0<256:=λp=>by{rw[yV];cases h:bk[p]? with|none=>decide|some b=>exact T b (Y_ h)};refine Av.m2 (λaz=>?_) (λaz=>?_);{
 have b0:d+d+1<bk.length:=zO;obtain⟨ab,rfl⟩:=g.adr 1 rfl (by rw[r];omega);have hj:((bk.length:Int)-1-(d:Int))=((bk.length-1-d:Nat):Int):=zO;have b4:(if bk.length-1-d<d\/bk.length<=bk.length-1-d+d then bk.getD (bk.length-1-(bk.length-1-d)) 0 else bk.getD (bk.length-1-d) 0)=bk.getD (bk.length-1-d) 0:=G_ zO;have b5:(if d<d\/bk.length<=d+d then bk.getD (bk.length-1-d) 0 else bk.getD d 0)=bk.getD d 0:=G_ zO;have X:=E (bk.length-1-d) zO;have Y:=E d zO;rw[b4]at X;rw[b5]at Y;have e1:((((Gj bk d).map fun(x:Nat)=>(x:Int)).set d ((bk.getD (bk.length-1-d) 0:Nat):Int)).set (bk.length-1-d) ((bk.getD d 0:Nat):Int))=(Gj bk (d+1)).map fun(x:Nat)=>(x:Int):=by{rw[<-V7 b0,List.map_set,List.map_set]};have C:A_ (λk=>k<H5.size/\k≠ab) H5 H5:=A_.refl _ _;refine Ap.heldZ (λk=>k<H5.size/\k≠ab) [15] (sq [0,1,2,3,4,5,6,8,9,10] (.b 7 (.f 11 (sq [12] (.f 13 (sq [14] (.f 15 .e))))) 11 (.f 7 (sq [12] (.f 13 (sq [14] (.f 15 .e))))))) rfl zX ?_;rw[hj];refine xM (j:=bk.length-1-d) Ct g 1 rfl X rfl ?_;rintro b6 o6 c6 br Z ⟨rfl,-⟩;refine xM (j:=d) Ct g 1 rfl Y rfl ?_;rintro b7 o7 c7 bu a0 ⟨rfl,-⟩;refine⟨?_,?_⟩;refine C_ Z.one zA (⟨C,?_⟩);refine C_ a0.one zA (⟨C,?_⟩);rotate_left
 refine C_ a0.one zA (⟨C,?_⟩);refine C_ Z.one zA (⟨C,?_⟩);all_goals refine ix Ct zO zO ?_;refine AhD (j:=d) (x:=((bk.getD (bk.length-1-d) 0:Nat):Int)) g 1 rfl rfl zO (by rw[r];omega) rfl (λH' _=>⟨rfl,I1 (B _)⟩) λH8 m K b8=>?_;refine⟨K,?_⟩;refine ix Ct zO zO ?_;refine oT (j:=bk.length-1-d) (x:=((bk.getD d 0:Nat):Int)) m 1 rfl rfl zO (by rw[wM,r];omega) rfl (λH' _=>⟨rfl,I1 (B _)⟩) λH9 L=>?_;(conv=>whnf);rw[S_ d zO];(conv=>whnf);rw[m_ (x:=((bk.length-1-d:Nat):Int)-1) zO];refine⟨rfl,d+1,?_,⟨zO,?_⟩,zO⟩;{simp only[ArK.injEq,Value.int.injEq,true_and,and_true];exact⟨zO,zO⟩};rw[<-e1];exact L};have a8:Gj bk d=bk.reverse:=Ys zO;rw[a8]at g;rw[aw];by_cases a9:bk=[];{subst a9;obtain rfl:=U rfl;refine mN (e:=Hb) rfl rfl rfl ?_;(conv=>whnf);exact⟨rfl,g.old⟩};have u5:St H H5 [pS tU8 Hb a bk.length c (bk.reverse.map fun(x:Nat)=>(x:Int))]:=g.pick [1] zQ;refine Aj1 u5 (by simpa using a9) rfl rfl rfl ?_;(conv=>whnf);exact⟨rfl,g.old⟩};rw[ap]at q;injection q with q;subst q;have⟨wj,ad⟩:=Ai (l:=W) (k:=j) (by rw[N.len];exact(P_.1 A).1);refine E_ ?_;refine C_ ((n.blk 0 rfl).cellE rfl) zA (Az Ct [.int .u8 (t:Int)] rfl rfl zQ zQ ?_);intro q5 H5 bd bv be bf;refine gJ (ys:=[(t:Int)]) (n.skip bd bf) 1 Ct rfl (be.cells (o:=0) (cs:=[.int .u8 (t:Int)]) λj v hv=>by rw[N_];exact hv) (Ty.reps_one ⟨rfl,I1 V⟩) rfl (λu hu=>by cases Q_.1 hu;rfl) (by rw[am];simp only[U_,i_];omega) zQ λa6 c6 H6 M _=>?_;have e1:(bk.map fun(x:Nat)=>(x:Int))++[(t:Int)]=(bk++[t]).map fun(x:Nat)=>(x:Int):=zZ;have e2:(bk.map fun(x:Nat)=>(x:Int)).length+[(t:Int)].length=(bk++[t]).length:=zZ;rw[e1,e2]at M;rw[e2];refine K_ (cs:=wA ((j:Int),t)) ((M.blk 0 rfl).cells λj v hv=>by rw[N_];exact hv) zA ?_;refine BO M (uR (0,0)) (wA (0,0)) LX rfl λp7 H7 bh=>(AB (cs:=wA ((j:Int),t)) bh 2 rfl rfl (I_ _) rfl λH8 m=>?_);rw[AA (show(wA ((j:Int),t)).length=(wA (0,0)).length from rfl)]at m;refine E_ ?_;refine C_ ((m.blk 2 rfl).cellE rfl) zA (I2 (i:=j) Qe (ho.frame m.old) (d_ _).symm (P A) rfl ?_);rintro b9 o9 c9 bw bj ⟨-,rfl⟩;refine K_ (cs:=r_ (x.1.x,x.1.y)) bj zA (Oc (a:=(x.1.x,x.1.y)) SM SA (hr x (Y_ A)) (ai m.old) zA ?_);rw[N.seen A ad];refine AB (cs:=wA wj) m 2 rfl rfl (I_ _) rfl λH10 I=>?_;rw[AA (show(wA wj).length=(wA ((j:Int),t)).length from rfl)]at I
 exact⟨rfl,(j,bk++[t],a6,c6,p7),zZ,⟨x,wj,A,ad,by rw[S,au];simp,λb D=>by
  rcases n_.1 D with D | D
  ·exact T b D
  ·rw[Q_]at D;subst D;exact V,by simp only[M_,U_,i_];omega,λh=>by simp at h,I.pick [2,1] zQ⟩,aq⟩
def GM(ask:Bool->Bool->Bool)(a b:Option AM):Gr:=⟨λn c=>[⟨0,Ao a n.x c,Ao b n.y c⟩],λn=>ask (AL a n.x) (AL b n.y)⟩
section
variable{ask:Bool->Bool->Bool}{a:Option AM}
def AhS(d:BM a)(f:BM b){by_:List Nat}(u:∀b∈by_,b<256)(w:by_.length<=256):FR (GM ask a b) by_ 4294967296 1:=by have D:=d.n2;have nb:=f.n2;refine MZ (VJ a b) (λn=>n.x.toNat*65536+n.y.toNat) ⟨rfl,d.zero,f.zero⟩ (λn c t h g z=>?_) (λn h=>?_) (λn h=>?_) (λn m h k e=>?_) (λn c=>I_ _) zQ zQ u w;{obtain rfl:=Q_.1 z;exact⟨rfl,d.step _ _ h.2.1 g,f.step _ _ h.2.2 g⟩};{obtain⟨j,⟨l,p⟩,q,r⟩:=h;refine⟨?_,?_,?_⟩<;>unfold zC<;>simp only[IntKind.min,IntKind.max,IntKind.signed,IntKind.bits]<;>constructor<;>simp<;>omega};{obtain⟨j,⟨l,p⟩,q,r⟩:=h;omega};obtain⟨j,⟨l,p⟩,q,r⟩:=h;obtain⟨E,⟨F,G⟩,H,I⟩:=k;obtain⟨s,x,y⟩:=n;obtain⟨A,B,C⟩:=m;simp only at*;obtain⟨rfl,rfl,rfl⟩:s=A/\x=B/\y=C:=⟨zO,zO,zO⟩;rfl
def Xm(sa:BM a)(c:BM b){by_:List Nat}(d:∀b∈by_,b<256):∀n,BJ (GM ask a b) by_ AP n->VJ a b n:=λn g=>by
 induction g with
 | refl=>exact⟨rfl,sa.zero,c.zero⟩
 | step _ e h f=>
   obtain rfl:=Q_.1 h;exact⟨rfl,sa.step _ _ f.2.1 (d _ e),c.step _ _ f.2.2 (d _ e)⟩
end
def SP{a:Option AM}(sa:BM a)(c:BM b){n:Nd}(h:VJ a b n):Gn (n.x,n.y):=by obtain⟨d,⟨e,f⟩,g,j⟩:=h;have k:=sa.n2;have nb:=c.n2;exact⟨JB ⟨by simp only;omega,by simp only;omega⟩,JB ⟨by simp only;omega,by simp only;omega⟩⟩
def TA{n:Nd}{w:List Nat}{x:Int×Nat}(c:W.length=F.length)(a:∀y∈F,(y.1.x,y.1.y)≠(n.x,n.y)):put (Gg F W) (n.x,n.y) (zY (uR x))=Gg (F++[(n,w)]) (W++[x]):=by funext z;unfold put Gg;rw[pI];by_cases b:z=(n.x,n.y);{subst b;have:F.findIdx? (λx=>zT ((x.1.x,x.1.y)=(n.x,n.y)))=zV:=by{rw[qA];intro y d;exact b_ (a y d)};rw[H_ rfl,this];simp[vH,<-c]};rw[G_ b];cases h:F.findIdx? λx=>zT ((x.1.x,x.1.y)=z)with|some i=>have f:i<W.length:=by{rw[c];exact(uT.1 h).1};simp[zE f]|none=>have:¬(n.x,n.y)=z:=λe=>b e.symm;simp[vH,this]
def Yd{z:Int×Int}(a:∀y∈F,(y.1.x,y.1.y)≠z):Gg F W z=zV:=by unfold Gg;have:F.findIdx? (λx=>zT ((x.1.x,x.1.y)=z))=zV:=by{rw[qA];intro y b;exact b_ (a y b)};rw[this];rfl
def SF:Im [(AP,[])] [(-1,0)]:=by refine⟨rfl,zZ,λx a=>?_,rfl,λi y b=>?_⟩;{rw[Q_]at a;subst a;rfl};cases i with|zero=>cases b;exact .inl ⟨rfl,rfl⟩|succ i=>simp at b
def Im.apart(h:Im F W){t:Nd}(c:t.s=0)(a:∀y∈F,y.1≠t):∀y∈F,(y.1.x,y.1.y)≠(t.x,t.y):=λy b e=>by
 refine a y b ?_;have d:=h.s0 y b;obtain⟨⟨s,x,g⟩,w⟩:=y;obtain⟨j,k,f⟩:=t;injection e with e1 e2
 simp only at*;subst e1;subst e2;subst d;subst c;rfl
def Im.add(h:Im F W){i:Nat}{x:NW}{t:Nd}(k:F[i]?=zY x)(u:c<256)(l:t.s=0)(e:∀y∈F,y.1≠t):Im (F++[(t,x.2++[c])]) (W++[((i:Int),c)]):=by have b:=(P_.1 k).1;have n:=h.len;refine⟨by simp[n],?_,λy a=>?_,by rw[zE zO];exact h.zero,λm y a=>?_⟩;{rw[xV];refine rG.2 ⟨h.nd,zZ,λp w q r=>?_⟩;simp only[xY,rJ,Q_]at r;subst r;obtain⟨y,a,rfl⟩:=yT.1 w;exact h.apart l e y a};{rcases n_.1 a with a | a;{exact h.s0 y a};rw[Q_]at a;subst a;exact l};by_cases z:m<F.length;{rw[zE z]at a;rcases h.link m y a with f | ⟨j,d,A,f,B,C,D⟩;{exact .inl f};exact .inr ⟨j,d,A,by rw[zE zO];exact f,B,by rw[zE zO];exact C,D⟩};have g:=(P_.1 a).1;simp only[M_,g_]at g;obtain rfl:m=F.length:=zO;simp at a;subst a;refine .inr ⟨i,c,x,?_,b,by rw[zE b];exact k,rfl,u⟩;rw[<-n];simp
def Fh:(prog.info? 257).bind (·.zero)=zY (z' (0,0)):=zX
def qT(x y:Bool):Bool:=x != y
def Tb(x y:Bool):Bool:=x&& !y
def Xv(G:Aa)(x y:Bool):AT prog 103 #[.bool x,.bool y] G (.bool (qT x y)):=by refine Am.of_vc func103 rfl (call103 _) (AhX zX ?_);(conv=>whnf);exact⟨rfl,A_.refl _ _⟩
end
section
attribute [local irreducible] Bh AJ
end
section
def oI:AM:=BE [ArI 256] [[1],[1]] [zU,zW]
attribute [local irreducible] oI Bh By AJ
end
section
attribute [local irreducible] oI Bh By AJ
end
section
attribute [local irreducible] Bh By AJ
section
variable{K K':Type} [DecidableEq K] [DecidableEq K']{most:Nat}{step:K->Nat->K}{step':K'->Nat->K'}{start:K}{f:K->K'}{I:K->Prop}
def qL(f:K->K')(p:List K×List Nat):List K'×List Nat:=(p.1.map f,p.2)
def oW(I:K->Prop)(s:Option (List K×List Nat)):Prop:=∀F r,s=zY (F,r)->∀y∈F,I y
def aI{F:List K}{k:K}(h:∀y∈F,f y=f k->y=k):(M' most F k).map (λp=>(p.1.map f,p.2))=M' most (F.map f) (f k):=by unfold M';have e:(F.map f).findIdx? (·=f k)=F.findIdx? (·=k):=by{rw[List.findIdx?_map];exact Gw λy a=>by{show zT (f y=f k)=zT (y=k);rw[decide_eq_decide];exact⟨h y a,λe=>by rw[e]⟩}};rw[e];cases F.findIdx? (·=k)with|some i=>rfl|none=>simp only[d_];split;{simp};rfl
def cU{x:K}{b:Nat}{s:Option (List K×List Nat)}(m:oW I s)(j:I (step x b))(a:∀y z,I y->I z->f y=f z->y=z)(c:f (step x b)=step' (f x) b):(Cs most step x s b).map (qL f)=Cs most step' (f x) (s.map (qL f)) b/\oW I (Cs most step x s b):=by cases s with|none=>exact⟨rfl,λF r h=>by cases h⟩|some p=>{have⟨F,r⟩:=p;have l:=m F r rfl;have h:=aI (most:=most) (f:=f) (F:=F) (k:=step x b) λy d=>a y _ (l y d) j;have e:(Cs most step' (f x) ((zY (F,r)).map (qL f)) b)=(M' most (F.map f) (step' (f x) b)).map λq=>(q.1,r++[q.2]):=rfl;rw[e,<-c,<-h];cases g:M' most F (step x b)with|none=>have e2:Cs most step x (zY (F,r)) b=zV:=by{show(M' most F (step x b)).map _=zV;rw[g];rfl};rw[e2];exact⟨rfl,λF r h=>by cases h⟩|some q=>{have⟨G,i⟩:=q;have e2:Cs most step x (zY (F,r)) b=zY (G,r++[i]):=by{show(M' most F (step x b)).map _=_;rw[g];rfl};rw[e2];refine⟨rfl,λF' n e y d=>?_⟩;injection e with e;injection e with e1 e3;subst e1;rcases K2 g y d with h | rfl;{exact l y h};exact j}}
def P2{x:K}(a:∀y z,I y->I z->f y=f z->y=z):∀(l:List Nat) (s:Option (List K×List Nat)),oW I s->(∀b∈l,I (step x b)/\f (step x b)=step' (f x) b)->(l.foldl (Cs most step x) s).map (qL f)=l.foldl (Cs most step' (f x)) (s.map (qL f))/\oW I (l.foldl (Cs most step x) s)| [],s,hs,_=>⟨rfl,hs⟩ | b::l,s,hs,h=>by have⟨d,e⟩:=cU (most:=most) hs (h b zZ).1 a (h b zZ).2;rw[wO,wO,<-d];exact P2 a l _ e λc g=>h c (by simp[g])
def PW(a:∀y z,I y->I z->f y=f z->y=z)(h0:I start)(g:∀x b,I x->b<256->I (step x b)/\f (step x b)=step' (f x) b):∀n,(Bl most step (ApS 256) start n).map (λp=>(p.1.map f,p.2))=Bl most step' (ApS 256) (f start) n/\∀F rows,Bl most step (ApS 256) start n=zY (F,rows)->∀y∈F,I y
 | 0=>⟨rfl,λF rows e y c=>by
   injection e with e
   injection e with e1 e2
   subst e1;rw[Q_.1 c];exact h0⟩
 | n+1=>by
   have⟨j,k⟩:=PW a h0 g n;rw[Bl,Bl,<-j];cases l:Bl most step (ApS 256) start n with
   | none=>exact⟨rfl,λF rows e=>by cases e⟩
   | some p=>
     have⟨F,rows⟩:=p;have h:=k F rows l;simp only[xI,wB,I'];cases m:F[n]? with
     | none=>exact⟨rfl,λF' d e y c=>by
       injection e with e
       injection e with e1 e2
       subst e1;exact h y c⟩
     | some x=>
       have t:=h x (Y_ m);have⟨u,w⟩:=P2 (most:=most) (step:=step) (step':=step') (x:=x) a (ApS 256) (zY (F,[])) (λF' r e y c=>by
        injection e with e
        injection e with e1 e2
        subst e1;exact h y c) λb A=>g x b t (xO.1 A)
       simp only[wB];rw[show(zY (F.map f,([]:List Nat)))=(zY (F,([]:List Nat))).map (qL f)from rfl,<-u];cases B:(ApS 256).foldl (Cs most step x) (zY (F,[]))with
       | none=>exact⟨rfl,λF rows e=>by cases e⟩
       | some q=>
         have⟨G,r⟩:=q;refine⟨rfl,λF' d e y c=>?_⟩;injection e with e
         injection e with e1 e2
         subst e1;exact w G r B y c
def Zf(a:∀y z,I y->I z->f y=f z->y=z)(h0:I start)(c:∀x b,I x->b<256->I (step x b)/\f (step x b)=step' (f x) b):(DH most step start).map (List.map f)=DH most step' (f start):=by unfold DH DZ;rw[<-(PW a h0 c most).1];cases Bl most step (ApS 256) start most<;>rfl
end
attribute [local irreducible] DH
end
section
def fJ:AM:=BE [ArI 256] [[1],[0]] [zU,zW]
attribute [local irreducible] fJ Bh By AJ
end
section
attribute [local irreducible] Bh AJ
end
section
attribute [local irreducible] Bh AJ By
end
section
attribute [local irreducible] Bh By AJ fJ
def Cc(o:Option AM):Prop:=∃cells next final,o=DE cells next final
def Cc.ok{o:Option AM}(h:Cc o):∃a,CB o a:=by obtain⟨c,n,f,rfl⟩:=h;exact YY c n f
def Cc.steps{o:Option AM}(h:Cc o):BM o:=by obtain⟨c,n,f,rfl⟩:=h;exact(aP c n f).stepOk
end
section
attribute [local irreducible] Bh By AJ
section
variable{K:Type}{most:Nat}{step:K->Nat->K}{start:K}{P:K->Prop}{fin:K->Bool}{sets:List (BitVec 256)}
structure Nt(step:K->Nat->K)(start:K)(P:K->Prop)(sets:List (BitVec 256)):Prop where
 beg:P start
 st:∀x b,P x->P (step x b)
 sep:∀g b,g<256->b<256->C7 sets g b=zW->∀x,P x->step x g=step x b
def Nt.cov(h:Nt step start P sets):Y0 P step (CK sets):=λb d f=>by
 have⟨g,g1,g2,a⟩:=Ho (cells:=sets) (b:=b) b (Kq sets b);have j:g≠b:=λe=>by rw[e,f]at a;cases a
 exact⟨g,zO,a,λx k=>h.sep g b zO d (B9.2 λc l=>(B9.1 g2 c l).symm) x k⟩
def Nt.detA [DecidableEq K](h:Nt step start P sets)(a:1<=most):(DZ most step (BH sets) start).map Prod.fst=DH most step start:=by rw[HF];exact VZ h.cov a h.beg h.st
structure Y2(step:K->Nat->K)(fin:K->Bool)(F:List K)(st:Int->Nat->Int)(fi:Int->Bool):Prop where
 st:∀(q b:Nat) (x:K),F[q]?=zY x->b<256->∃t:Nat,st (q:Int) b=(t:Int)/\F[t]?=zY (step x b)
 fi:∀(q:Nat) (x:K),F[q]?=zY x->fi (q:Int)=fin x
def AdQ [DecidableEq K](h:Nt step start P sets){bs:List Nat}{F:List K}{rows:List (List Nat)}(a:1<=most)(hd:DZ most step bs start=zY (F,rows)):N2 most step bs start F.length F rows/\∀x∈F,P x:=by obtain⟨-,-,-,c⟩:=Dn (P:=P) a h.beg (λx b d=>h.st x b d) bs most F rows hd;exact⟨IE a F.length F rows (KA a hd) λj e=>e,c⟩
def WL{bs:List Nat}{F:List K}{rows:List (List Nat)}(d:N2 most step bs start F.length F rows){q:Nat}{row:List Nat}(e:rows[q]?=zY row):row.length=bs.length/\∀t∈row,t<F.length:=by have f:=d.cols row (Y_ e);refine⟨f,λt g=>?_⟩;have⟨k,a⟩:=xB g;have h:=(P_.1 a).1;have⟨b,j⟩:=Ai (l:=bs) (k:=k) zO;have c:=(P_.1 e).1;rw[d.rl]at c;have⟨x,m⟩:=Ai (l:=F) (k:=q) c;exact(P_.1 (d.ok q k row b t x e j a m)).1
def AkV [DecidableEq K](h:Nt step start P sets){F:List K}{rows:List (List Nat)}(H:1<=most)(I:most<=65536)(hd:DZ most step (BH sets) start=zY (F,rows)):Bt (Bg sets) (rows.map Bw) F.length=zW/\Y2 step fin F (Ao (zY (BE (Bg sets) (rows.map Bw) (F.map fin)))) (AL (zY (BE (Bg sets) (rows.map Bw) (F.map fin))))/\stN (zY (BE (Bg sets) (rows.map Bw) (F.map fin)))=F.length:=by
 have⟨d,J⟩:=AdQ h H hd;have R:=(P_.1 d.zero).1;have C:=d.len;have m:(rows.map Bw).length=F.length:=by rw[d_,d.rl]
 have n:(BH sets).length=(Bg sets).length:=d_ _;have hs:Bt (Bg sets) (rows.map Bw) F.length=zW:=by{rw[OF];refine⟨⟨zO,zO,m⟩,λb e=>Po _ e,λr L=>?_⟩;obtain⟨row,a,rfl⟩:=yT.1 L;have⟨q,M⟩:=xB a;have⟨D,E⟩:=WL d M;unfold GZ;rw[o_,beq_iff_eq,xJ];refine⟨by unfold Bw;rw[d_,D,n],λt j=>?_⟩;obtain⟨u,N,rfl⟩:=yT.1 j;have:=E u N;simp only[o_,yL];omega};have p:(F.map fin).length=F.length:=d_ _;refine⟨hs,⟨λq b x f e=>?_,λq x f=>?_⟩,by simp only[stN,BE,d_];exact d.rl⟩;{have⟨row,a⟩:=Ai (l:=rows) (k:=q) (by rw[d.rl];exact(P_.1 f).1);have⟨D,E⟩:=WL d a;have⟨O,Q⟩:=BI hs e;have⟨c,w⟩:=Ai O;have y:=Q c w;have⟨t,j⟩:=Ai (l:=row) (k:=AW (Bg sets) b) zO;have z:(BH sets)[AW (Bg sets) b]?=zY (AI c 0).1:=by{unfold BH;rw[I',w];rfl};have A:=d.ok q _ row _ t x a z j f;have g:=Ln.1 (Y_ w);have G:=HE sets;have B:C7 sets (AI c 0).1 b=zW:=B9.2 λs hs=>G.same c g _ _ (FA (G.ne c g)).1 y s hs;refine⟨t,?_,by rw[A,h.sep _ b (Ch c 0) e B x (J x (Y_ f))]⟩;rw[E3 (row:=Bw row) (by rw[p];exact hs) (by rw[I',a];rfl) e];unfold Bw;rw[yV,I',j];rfl};simp[AL,BE,f]
def HZ [DecidableEq K](C:1<=most)(h0:P start)(hs:∀x b,P x->P (step x b))(bs:List Nat):∀n,Bl most step bs start n=zV->∃L:List K,L.Nodup/\L.length=most+1/\∀x∈L,P x | 0,h=>by cases h | n+1,h=>by rw[Bl]at h;cases w:Bl most step bs start n with | none=>exact HZ C h0 hs bs n w | some p=> have⟨f,rows⟩:=p;obtain⟨G,H,-,D⟩:=Dn (P:=P) C h0 hs bs n f rows w;rw[w]at h;simp only[xI]at h;cases z:f[n]? with
     | none=>rw[z]at h;cases h
     | some x=>
       rw[z]at h;simp only[Option.map_eq_none_iff]at h;have d:=D x (Y_ z);have A:∀(l:List Nat) (g:List K) (r:List Nat),g.length<=most->g.Nodup->(∀y∈g,P y)->l.foldl (Cs most step x) (zY (g,r))=zV->∃L:List K,L.Nodup/\L.length=most+1/\∀y∈L,P y:=λl=>by
        induction l with
        | nil=>intro g r _ _ _ h;cases h
        | cons b l I=>
          intro g r J k E h;rw[wO]at h;cases a:M' most g (step x b)with
          | none=>
            unfold M' at a;cases t:g.findIdx? (·=step x b)with
            | some j=>rw[t]at a;cases a
            | none=>
              rw[t]at a;simp only at a;split at a
              ·cases a
              ·have B:step x b∉g:=λm=>by
                rw[qA]at t;have:=t _ m;simp at this
               refine⟨g++[step x b],rG.2 ⟨k,zZ,λu M v F=>?_⟩,by simp;omega,λy c=>?_⟩
               ·rw[Q_]at F;subst F;exact λe=>B (e ▸ M)
               ·rcases n_.1 c with c | c
                ·exact E y c
                ·rw[Q_]at c;subst c;exact hs x b d
          | some q=>
            have⟨g2,i⟩:=q;have e:Cs most step x (zY (g,r)) b=zY (g2,r++[i]):=by
             show(M' most g (step x b)).map _=_;rw[a];rfl
            rw[e]at h;obtain⟨-,N,O,-⟩:=K3 a J k;exact I g2 _ N O (λy c=>by
             rcases K2 a y c with h | rfl
             ·exact E y h
             ·exact hs x b d) h
       exact A bs f [] G H D h
end
def BV(a b:Option AM)(x:Int×Int)(c:Nat):Int×Int:=if c<256 then(Ao a x.1 c,Ao b x.2 c)else x
def S8(a b:Option AM)(x:Int×Int):Prop:=(0<=x.1/\x.1<stN a)/\0<=x.2/\x.2<stN b
def Ps{o:Option AM}{n:List Nat}(h:CB o n){g b:Nat}(p:g<256)(f:b<256)(hs:∀c∈Au o,c.getLsbD g=c.getLsbD b){q:Int}(h0:0<=q)(j:q<stN o):Ao o q g=Ao o q b:=by
 obtain⟨k,c,d,a,-⟩:=h.part b f;have e:c.getLsbD g=zW:=by rw[hs c (Y_ d)];exact a
 obtain⟨l,m,-⟩:=h.least k c d;rw[(h.keeps k c l g d m p e).2 q h0 j,(h.keeps k c l b d m f a).2 q h0 j]
def Al8{a:Option AM}(m:Cc a)(n:Cc b):Nt (BV a b) ((0,0):Int×Int) (S8 a b) (Au a++Au b):=by have sa:=m.steps;have p:=n.steps;have a1:=sa.n1;have t:=p.n1;have⟨la,q⟩:=m.ok;have⟨u,r⟩:=n.ok;refine⟨⟨⟨rL _,zO⟩,rL _,zO⟩,λx c e=>?_,λg c f j hs x e=>?_⟩;{unfold BV;split;{rename_i h;have k:=sa.step x.1 c e.1 h;have l:=p.step x.2 c e.2 h;exact⟨k,l⟩};exact e};unfold BV;rw[H_ f,H_ j];have k:=Ps q f j (λd hd=>(B9.1 hs d (xU _ hd))) e.1.1 e.1.2;have l:=Ps r f j (λd hd=>(B9.1 hs d (uI _ hd))) e.2.1 e.2.2;rw[k,l]
def jS(a b:Option AM)(most:Nat):Option (List (Int×Int)):=DH most (BV a b) (0,0)
end
inductive ReM
 | eps
 | cls (s:BitVec 256)
 | cat (a b:ReM)
 | alt (a b:ReM)
 | star (a:ReM)
 | and_ (a b:ReM)
 | minus (a b:ReM)
def Al:ReM->v_ | .eps=>.iface 62 (.agg #[])| .cls s=>.iface 67 (AX s)| .cat a b=>.iface 73 (.agg #[Al a,Al b])| .alt a b=>.iface 70 (.agg #[Al a,Al b])| .star a=>.iface 75 (.agg #[Al a])| .and_ a b=>.iface 71 (.agg #[Al a,Al b])| .minus a b=>.iface 72 (.agg #[Al a,Al b])
def AN(r:ReM):∃T v,Al r= .iface T v:=by cases r<;>exact⟨_,_,rfl⟩
def AV(r:ReM):(Al r).oneCell'=zW:=by cases r<;>rfl
def ReM.nodes:ReM->Nat | .eps=>1 | .cls _=>1 | .cat a b=>1+a.nodes+b.nodes | .alt a b=>1+a.nodes+b.nodes | .star a=>1+a.nodes | .and_ a b=>1+a.nodes+b.nodes | .minus a b=>1+a.nodes+b.nodes
section
variable{t:x_}
def Bz{v:v_}{d:TypeDesc}(hd:P.underlying A=zY d)(a:∀b,d≠ .interface b)(k:K (.tuple #[v,.bool zW])):A8 P (Instr.typeAssert (.iface A v) t A zW) S H K:=by refine A8.mk _ (λw _=>?_) k;unfold Instr.typeAssert;simp only[Sem.run_bind,run_underlying hd,Result.andThen_ok];cases d<;>first | (exact absurd rfl (a _)) | simp
def Bp{v z:v_}{d:TypeDesc}(hd:P.underlying A=zY d)(g:∀h,d≠ .interface h)(a:(P.info? A).bind (·.zero)=zY z)(b:T≠A)(k:K (.tuple #[z,.bool zU])):A8 P (Instr.typeAssert (.iface T v) t A zW) S H K:=by refine A8.mk _ (λw _=>?_) k;have c:(zeroValue A).run P w= .ok z w:=by{cases e:P.info? A with|none=>rw[e]at a;cases a|some i=>have f:i.zero=zY z:=by{simpa [e]using a};simp[zeroValue,typeInfo,e,f]};unfold Instr.typeAssert;simp only[Sem.run_bind,run_underlying hd,Result.andThen_ok];cases d<;>first | (exact absurd rfl (g _)) | simp[b,c]
def OA{v:v_}{a:Array (String×x_)}(h:P.underlying t=zY (.interface a))(w:y_):(Op.equal t (.iface T v) .nilIface).run P w= .ok zU w:=by have:∀d:Nat,(Op.equalIn (d+1) t (.iface T v) .nilIface).run P w= .ok zU w:=λd=>by{simp[Op.equalIn,run_underlying h]};exact this 9999
def Mx{a:Array (String×x_)}(h:P.underlying t=zY (.interface a))(w:y_):(Op.equal t .nilIface .nilIface).run P w= .ok zW w:=by have:∀d:Nat,(Op.equalIn (d+1) t .nilIface .nilIface).run P w= .ok zW w:=λd=>by{simp[Op.equalIn,run_underlying h]};exact this 9999
def X4{y:z_}{v:v_}{a:Array (String×x_)}(h:P.underlying t=zY (.interface a))(k:K (.bool zU)):A8 P (do eqGuard .eql t x y (.iface T v) .nilIface;binOp .eql t (.iface T v) .nilIface) S H K:=by refine A8.mk _ (λw _=>?_) k;simp[eqGuard,binOp,OA h]
def Mm{y:z_}{v:v_}{a:Array (String×x_)}(h:P.underlying t=zY (.interface a))(k:K (.bool zW)):A8 P (do eqGuard .neq t x y (.iface T v) .nilIface;binOp .neq t (.iface T v) .nilIface) S H K:=by refine A8.mk _ (λw _=>?_) k;simp[eqGuard,binOp,OA h]
def gX{a:Array (String×x_)}{c:v_}(h:P.underlying t=zY (.interface a))(k:K (.bool zW)):A8 P (do eqGuard .eql t x (.const c) .nilIface .nilIface;binOp .eql t .nilIface .nilIface) S H K:=by refine A8.mk _ (λw _=>?_) k;simp[eqGuard,binOp,Mx h]
def L9{a:Array (String×x_)}{c:v_}(h:P.underlying t=zY (.interface a))(k:K (.bool zU)):A8 P (do eqGuard .neq t x (.const c) .nilIface .nilIface;binOp .neq t .nilIface .nilIface) S H K:=by refine A8.mk _ (λw _=>?_) k;simp[eqGuard,binOp,Mx h]
end
def UX(x:v_)(w:y_):(callMethod (.iface 62 x) "Size" #[]).run prog w= .ok (.enter 260 #[x]) w:=zX
def UW(x:v_)(w:y_):(callMethod (.iface 67 x) "Size" #[]).run prog w= .ok (.enter 262 #[x]) w:=zX
def UV(x:v_)(w:y_):(callMethod (.iface 73 x) "Size" #[]).run prog w= .ok (.enter 271 #[x]) w:=zX
def UT(x:v_)(w:y_):(callMethod (.iface 70 x) "Size" #[]).run prog w= .ok (.enter 264 #[x]) w:=zX
def SJ(x:v_)(w:y_):(callMethod (.iface 75 x) "Size" #[]).run prog w= .ok (.enter 273 #[x]) w:=zX
def UU(x:v_)(w:y_):(callMethod (.iface 71 x) "Size" #[]).run prog w= .ok (.enter 267 #[x]) w:=zX
def Rj(x:v_)(w:y_):(callMethod (.iface 72 x) "Size" #[]).run prog w= .ok (.enter 269 #[x]) w:=zX
def xA:ReM->Nat | .eps=>2 | .cls _=>2 | .cat a b=>xA a+xA b | .alt a b=>xA a+xA b+2 | .star a=>xA a+2 | .and_ _ _=>0 | .minus _ _=>0
def Ba(p q:Nat):U':=⟨p,q,zW,0#256⟩
def Du(p q:Nat)(s:BitVec 256):U':=⟨p,q,zU,s⟩
def EB:ReM->Nat->Nat×Nat×List U' | .eps,n=>(n,n+1,[Ba n (n+1)])| .cls s,n=>(n,n+1,[Du n (n+1) s])| .cat a b,n=>((EB a n).1,(EB b (n+xA a)).2.1,(EB a n).2.2++(EB b (n+xA a)).2.2++[Ba (EB a n).2.1 (EB b (n+xA a)).1])| .alt a b,n=>(n,n+1+xA a+xA b,(EB a (n+1)).2.2++(EB b (n+1+xA a)).2.2++ [Ba n (EB a (n+1)).1,Ba n (EB b (n+1+xA a)).1,Ba (EB a (n+1)).2.1 (n+1+xA a+xA b),Ba (EB b (n+1+xA a)).2.1 (n+1+xA a+xA b)])| .star a,n=>(n,n+1+xA a,(EB a (n+1)).2.2++[Ba n (EB a (n+1)).1,Ba n (n+1+xA a),Ba (EB a (n+1)).2.1 (EB a (n+1)).1,Ba (EB a (n+1)).2.1 (n+1+xA a)])| .and_ _ _,n=>(n,n,[])| .minus _ _,n=>(n,n,[])
abbrev uN:x_:=266
def Qb(p q:Nat)(k:K (.agg (zN (Ba p q)).toArray)):A8 prog (Instr.build 277 [(0,B_ p),(1,B_ q),(2,.bool zW)].toArray) S H K:=by have e:zN (Ba p q)=[B_ p,B_ q,.bool zW,.int .u64 0,.int .u64 0,.int .u64 0,.int .u64 0]:=by{have h:∀i,wd 0#256 i=0:=λi=>by{unfold wd;simp};simp[zN,Ba,h]};rw[e]at k;exact Ad underlying277 rfl _ JZ _ zX k
def cY(x y:Int)(w0 a b c:v_)(h0:w0.oneCell'=zW)(d:a.oneCell'=zW)(e:b.oneCell'=zW)(f:c.oneCell'=zW)(k:K (.agg [B_ x,B_ y,.bool zU,w0,a,b,c].toArray)):A8 prog (Instr.build 277 [(0,B_ x),(1,B_ y),(3,.agg [w0,a,b,c].toArray)].toArray) S H K:=Ad underlying277 rfl _ JZ [B_ x,B_ y,.bool zU,w0,a,b,c] zX k
def Qa(p q:Nat)(s:BitVec 256)(k:K (.agg (zN (Du p q s)).toArray)):A8 prog (Instr.build 277 [(0,B_ p),(1,B_ q),(3,.agg (Ag s).toArray)].toArray) S H K:=by unfold Du zN at k;unfold Ag;exact cY _ _ _ _ _ _ rfl rfl rfl rfl k
def HB:(prog.info? 62).bind (·.zero)=zY (.agg #[]):=rfl
def Fg:(prog.info? 67).bind (·.zero)=zY (.agg #[.int .u64 0,.int .u64 0,.int .u64 0,.int .u64 0]):=rfl
def Jm:(prog.info? 73).bind (·.zero)=zY (.agg #[.nilIface,.nilIface]):=rfl
def Nh:(prog.info? 70).bind (·.zero)=zY (.agg #[.nilIface,.nilIface]):=rfl
def Ni:(prog.info? 75).bind (·.zero)=zY (.agg #[.nilIface]):=rfl
def AeW:(prog.info? 71).bind (·.zero)=zY (.agg #[.nilIface,.nilIface]):=rfl
def AeX:(prog.info? 72).bind (·.zero)=zY (.agg #[.nilIface,.nilIface]):=rfl
def AlU(A:x_):v_:=if A=62 then .agg #[]else if A=67 then .agg #[.int .u64 0,.int .u64 0,.int .u64 0,.int .u64 0]else if A=75 then .agg #[.nilIface]else .agg #[.nilIface,.nilIface]
def iH{t:x_}{v:v_}(b:A=62\/A=67\/A=73\/A=70\/A=75\/A=71\/A=72)(k:K (.tuple #[if T=A then v else AlU A,.bool (T==A)])):A8 prog (Instr.typeAssert (.iface T v) t A zW) S H K:=by by_cases e:T=A;{subst e;rw[H_ rfl,beq_self_eq_true]at k;rcases b with rfl | rfl | rfl | rfl | rfl | rfl | rfl;{exact Bz underlying62 (by intro a h;cases h) k};{exact Bz underlying67 (by intro a h;cases h) k};{exact Bz underlying73 (by intro a h;cases h) k};{exact Bz underlying70 (by intro a h;cases h) k};{exact Bz underlying75 (by intro a h;cases h) k};{exact Bz underlying71 (by intro a h;cases h) k};exact Bz underlying72 (by intro a h;cases h) k};rw[G_ e,beq_false_of_ne e]at k;rcases b with rfl | rfl | rfl | rfl | rfl | rfl | rfl;{exact Bp underlying62 (by intro a h;cases h) HB e k};{exact Bp underlying67 (by intro a h;cases h) Fg e k};{exact Bp underlying73 (by intro a h;cases h) Jm e k};{exact Bp underlying70 (by intro a h;cases h) Nh e k};{exact Bp underlying75 (by intro a h;cases h) Ni e k};{exact Bp underlying71 (by intro a h;cases h) AeW e k};exact Bp underlying72 (by intro a h;cases h) AeX e k
def Og:ReM->x_ | .eps=>62 | .cls _=>67 | .cat _ _=>73 | .alt _ _=>70 | .star _=>75 | .and_ _ _=>71 | .minus _ _=>72
def Fa:ReM->v_ | .eps=>.agg #[]| .cls s=>AX s | .cat a b=>.agg #[Al a,Al b]| .alt a b=>.agg #[Al a,Al b]| .star a=>.agg #[Al a]| .and_ a b=>.agg #[Al a,Al b]| .minus a b=>.agg #[Al a,Al b]
def Dk(r:ReM):Al r= .iface (Og r) (Fa r):=by cases r<;>rfl
def KX:ReM->FuncId | .eps=>260 | .cls _=>262 | .cat _ _=>271 | .alt _ _=>264 | .star _=>273 | .and_ _ _=>267 | .minus _ _=>269
def Kr(r:ReM)(w:y_):(callMethod (.iface (Og r) (Fa r)) "Size" #[]).run prog w= .ok (.enter (KX r) #[Fa r]) w:=by cases r with|eps=>exact UX _ w|cls=>exact UW _ w|cat=>exact UV _ w|alt=>exact UT _ w|star=>exact SJ _ w|and_=>exact UU _ w|minus=>exact Rj _ w
def Vx(r:ReM)(H:Aa):AT prog 265 #[Al r] H (.iface (Og r) (Fa r)):=by rw[Dk];refine Am.of_vc func265 rfl (call265 _) (X4 underlying35 ?_);(conv=>whnf);exact⟨rfl,A_.refl _ _⟩
def RF:∀(r:ReM),r.nodes<=1000000000->∀(H:Aa),AT prog (KX r) #[Fa r] H (.int .i64 (r.nodes:Int)):=λr=>by
 induction r
 all_goals
  intro A H
 case eps=>
  refine Am.of_vc func260 rfl (call260 _) (BF [] rfl ?_);intro x H1 j d c g;have st1:=(St.nil H).box j d c g;(conv=>whnf);exact⟨rfl,st1.old⟩
 case cls s=>
  refine Am.of_vc func262 rfl (call262 _) (BF (Ag s) rfl ?_);intro x H1 j d c g;have st1:=(St.nil H).box j d c g;(conv=>whnf);exact⟨rfl,st1.old⟩
 case star a iha=>
  simp only[ReM.nodes]at A;refine Am.of_vc func273 rfl (call273 _) (BF [Al a] rfl ?_);intro x H1 j d c g;have st1:=(St.nil H).box j d c g;refine fa ?_;refine C_ (c.cellE rfl) zA (Af (Vx a H1) λH2 h=>?_);have u:=st1.call h;refine Fb.mk (KX a) #[Fa a] (Kr a) (iha zO H2) ?_;rintro _ H3 ⟨rfl,l⟩;have w:=u.call l;(conv=>whnf);rw[m_ (x:=1+(a.nodes:Int)) zO];(conv=>whnf);exact⟨by simp only[ReM.nodes];simp,w.old⟩
 case cat a b iha ihb | alt a b iha ihb | and_ a b iha ihb | minus a b iha ihb=>
  simp only[ReM.nodes]at A
  first | refine Am.of_vc func271 rfl (call271 _) ?_ | refine Am.of_vc func264 rfl (call264 _) ?_ | refine Am.of_vc func267 rfl (call267 _) ?_ | refine Am.of_vc func269 rfl (call269 _) ?_
  refine BF [Al a,Al b] rfl ?_;intro x H1 j d c g;have st1:=(St.nil H).box j d c g;have t:=c.lt;refine Ap.heldZ (F_ H1) [] (sq [0,1,5,6] (.f 2 (.f 3 (sq [4] (.f 7 (.f 8 (sq [9] (.f 10 .e)))))))) rfl zX ?_;(conv=>whnf);first | refine fa ?_
  refine C_ (c.cellE rfl) t ?_;(conv=>whnf);first | refine fa ?_
  refine C_ (c.cellE rfl) t (Af (Vx a H1) λH2 h=>(⟨h,?_⟩));refine Fb.mk (KX a) #[Fa a] (Kr a) (iha zO H2) ?_;rintro _ H3 ⟨rfl,l⟩;have m:=h.trans (l.mono λk n=>Ak h n);refine⟨m,?_⟩;(conv=>whnf);rw[m_ (x:=1+(a.nodes:Int)) zO];refine Af (Vx b H3) λH4 y=>?_;have p:=m.trans (y.mono λk n=>Ak m n);refine⟨p,?_⟩;refine Fb.mk (KX b) #[Fa b] (Kr b) (ihb zO H4) ?_;rintro _ H5 ⟨rfl,z⟩;have q:=p.trans (z.mono λk n=>Ak p n);refine⟨q,?_⟩;(conv=>whnf);rw[m_ (x:=1+(a.nodes:Int)+(b.nodes:Int)) zO];refine⟨q,?_⟩;(conv=>whnf);exact⟨by simp only[ReM.nodes];simp,st1.old.trans (q.mono λk n=>st1.up n)⟩
def Cq(r:ReM):O_:=⟨(xA r:Int),((EB r 0).1:Int),((EB r 0).2.1:Int),(EB r 0).2.2⟩
def kY:(prog.info? 266).bind (·.zero)=zY (.agg #[B_ 0,B_ 0,B_ 0,.slice zV 0 0,.nilFunc,B_ 0]):=rfl
def FE(b:Nat):BitVec 256:=ofB 0#256 [b]
def AH:List Nat->ReM | []=>.eps | b::l=>l.foldl (λr c=>.cat r (.cls (FE c))) (.cls (FE b))
def OM(h:l≠[])(c:Nat):AH (l++[c])= .cat (AH l) (.cls (FE c)):=by cases l with|nil=>exact absurd rfl h|cons b l=>simp[AH,wE]
def TV:∀(l:List Nat),(AH l).nodes+1=max 2 (2*l.length):=by intro l;cases l with|nil=>rfl|cons b l=>{unfold AH;have a:∀(l:List Nat) (r:ReM),(l.foldl (λr c=>ReM.cat r (.cls (FE c))) r).nodes=r.nodes+2*l.length:=by{intro l;induction l with|nil=>exact λr=>rfl|cons c l d=>intro r;rw[wO,d];simp only[ReM.nodes,U_];omega};rw[a];simp only[ReM.nodes,U_];omega}
def WX(l:List Nat):v_:=match l with | []=>.nilIface | _=>Al (AH l)
def AdO{s:ByteArray}{i:Nat}{c:UInt8}(h:s.data[i]?=zY c):zI (s.extract i (i+1))=[c.toNat]:=by have e:=(wW.1 h).1;unfold zI;rw[ByteArray.data_extract,Array.toList_extract,List.extract_eq_take_drop];have:(s.data.toList.drop i).take (i+1-i)=[c]:=by{rw[(zO:i+1-i=1)];have a:s.data.toList[i]?=zY c:=by{rw[Array.getElem?_toList];exact h};have⟨b,d⟩:=P_.1 a;rw[List.drop_eq_getElem_cons b,d];rfl};rw[this];rfl
def V5(s:ByteArray)(hs:s.size<=1048576)(H:Aa):AT prog 56 #[.string s] H (Al (AH (zI s))):=by refine Am.of_vc func56 rfl (call56 _) ?_;have a:=MR s;by_cases r:s.size=0;{have f:zI s=[]:=wL zO;have t:s=⟨#[]⟩:=IQ (by{have:s.data.toList=[]:=wL (by rw[Array.length_toList];exact r);rw[this]});have u:(s.toList==(⟨#[]⟩:ByteArray).toList)=zW:=by{rw[t];simp};(conv=>whnf);rw[u];refine Ad underlying62 rfl _ HB [] rfl ?_;(conv=>whnf);exact⟨by rw[f];rfl,A_.refl _ _⟩};have u:(s.toList==(⟨#[]⟩:ByteArray).toList)=zU:=by{cases h:(s.toList==(⟨#[]⟩:ByteArray).toList)with|false=>rfl|true=>rw[Ag1]at h;rw[h]at r;exact absurd rfl r};(conv=>whnf);rw[u];(conv=>whnf);refine AD.mk [3,12] (λi:Nat=>[WX ((zI s).take i),B_ i]) (λi H2=>i<=s.size/\St H H2 []) (λi _=>s.size-i) ?_ ?_;{(conv=>whnf);exact⟨0,rfl,V_ _,St.nil H⟩};rintro i H2 D ⟨J,g⟩;refine Av.m2 (λF=>?_) (λF=>?_);{have⟨c,E⟩:=lD (s:=s) (k:=i) zO;have w:IntKind.wrap .i64 ((i:Int)+1)=((i+1:Nat):Int):=by{rw[vU zO zO];omega};refine AC.run ?_;(conv=>whnf);rw[w];refine M6 (l:=(i:Int)) (h:=((i+1:Nat):Int)) underlying9 zO zO zO ?_;rw[zG,zG];refine Af (oG (s.extract i (i+1)) (by simp;omega) H2) λH3 y=>?_;have z:=g.call y;rw[AdO E];refine Ad underlying67 rfl _ Fg (Ag (FE c.toNat)) (by unfold Ag;kernel_rfl) ?_;refine BO z _ [.int .u64 0,.int .u64 0,.int .u64 0,.int .u64 0] Fg rfl λx H4 A=>(AB (cs:=Ag (FE c.toNat)) A 0 rfl rfl (I_ _) rfl λH5 d=>?_);rw[AA (show(Ag (FE c.toNat)).length=4 from rfl)]at d;have m:=Aj (QD E);have n:AO H5 x 0 (Ag (FE c.toNat)):=(d.blk 0 rfl).cells λj v G=>by{rw[N_];exact G};by_cases B:i=0;{subst B;refine gX underlying35 (K_ (cs:=Ag (FE c.toNat)) n zA ?_);(conv=>whnf);rw[w];refine⟨rfl,0+1,?_,⟨zO,d.pick [] zQ⟩,zO⟩;rw[m];rfl};have p:(zI s).take i≠[]:=λe=>by{have h:=congrArg List.length e;rw[vL,a,i_]at h;omega};have C:WX ((zI s).take i)= .iface (Og (AH ((zI s).take i))) (Fa (AH ((zI s).take i))):=by{rw[<-Dk];cases h:(zI s).take i with|nil=>exact absurd h p|cons b l=>rfl};have q:WX ((zI s).take (i+1))= .iface 73 (.agg #[.iface (Og (AH ((zI s).take i))) (Fa (AH ((zI s).take i))),.iface 67 (AX (FE c.toNat))]):=by{have:WX ((zI s).take (i+1))=Al (AH ((zI s).take (i+1))):=by{cases h:(zI s).take (i+1)with|nil=>have I:=congrArg List.length h;rw[vL,a,i_]at I;omega|cons b l=>rfl};rw[this,m,OM p,<-Dk];rfl};rw[C];generalize Og (AH ((zI s).take i))=NT at*;generalize Fa (AH ((zI s).take i))=NP at*;refine X4 underlying35 (K_ (cs:=Ag (FE c.toNat)) n zA (Ad underlying73 rfl _ Jm [.iface NT NP,.iface 67 (AX (FE c.toNat))] rfl ?_));(conv=>whnf);rw[w];refine⟨rfl,i+1,?_,⟨zO,d.pick [] zQ⟩,zO⟩;rw[q]};obtain rfl:i=s.size:=zO;(conv=>whnf);rw[tU (by rw[a];exact I_ _)];refine⟨?_,g.old⟩;cases h:zI s with|nil=>rw[h]at a;simp at a;omega|cons b l=>rfl
def Ta{b:Nat}(a:b<256):(FE c).getLsbD b=zT (b=c):=by unfold FE ofB;simp only[wO,List.foldl_nil];rw[BitVec.getLsbD_or,BitVec.getLsbD_twoPow];rw[Bool.eq_iff_iff];simp;constructor;{rintro⟨-,h⟩;exact h.symm};rintro rfl;exact⟨a,rfl⟩
def Kt:∀(l:List Nat),l≠[]->xA (AH l)=2*l.length/\(EB (AH l) 0).1=0/\(EB (AH l) 0).2.1=2*l.length-1/\ ∀e,e∈(EB (AH l) 0).2.2↔(∃(i c:Nat),l[i]?=zY c/\e=Du (2*i) (2*i+1) (FE c))\/∃i:Nat,i+1<l.length/\e=Ba (2*i+1) (2*i+2):=λl=>by
 induction l using AfO with
 | h0=>exact λh=>absurd rfl h
 | hs l c k=>
   intro _;by_cases f:l=[]
   ·subst f;refine⟨rfl,rfl,rfl,λe=>?_⟩;show e∈[Du 0 1 (FE c)]↔_;rw[Q_];constructor
    ·rintro rfl;exact .inl ⟨0,c,rfl,rfl⟩
    ·rintro(⟨i,d,b,rfl⟩ | ⟨i,b,rfl⟩)
     ·have:=(P_.1 b).1;obtain rfl:i=0:=by simpa using this
      cases b;rfl
     ·simp at b
   ·have⟨b,m,n,p⟩:=k f;have j:0<l.length:=kV.2 f;rw[OM f];refine⟨?_,?_,?_,λe=>?_⟩
    ·show xA (AH l)+2=_;rw[b,M_,g_];omega
    ·exact m
    ·show 0+xA (AH l)+1=_;rw[b,M_,g_];omega
    ·show e∈(EB (AH l) 0).2.2++[Du (0+xA (AH l)) (0+xA (AH l)+1) (FE c)]++[Ba (EB (AH l) 0).2.1 (0+xA (AH l))]↔_;rw[n_,n_,Q_,Q_,p,b,n,N_];constructor
     ·rintro(((⟨i,d,a,rfl⟩ | ⟨i,a,rfl⟩) | rfl) | rfl)
      ·exact .inl ⟨i,d,by rw[zE (P_.1 a).1];exact a,rfl⟩
      ·exact .inr ⟨i,by rw[M_];omega,rfl⟩
      ·exact .inl ⟨l.length,c,zZ,rfl⟩
      ·refine .inr ⟨l.length-1,by rw[M_,g_];omega,?_⟩;rw[(zO:2*(l.length-1)+1=2*l.length-1),(zO:2*(l.length-1)+2=2*l.length)]
     ·rintro(⟨i,d,a,rfl⟩ | ⟨i,a,rfl⟩)
      ·by_cases g:i<l.length
       ·rw[zE g]at a;exact .inl (.inl (.inl ⟨i,d,a,rfl⟩))
       ·have:=(P_.1 a).1;rw[M_,g_]at this;obtain rfl:i=l.length:=zO
        simp at a;subst a;exact .inl (.inr rfl)
      ·rw[M_,g_]at a;by_cases g:i+1<l.length
       ·exact .inl (.inl (.inr ⟨i,g,rfl⟩))
       ·obtain rfl:i=l.length-1:=zO
        refine .inr ?_;rw[(zO:2*(l.length-1)+1=2*l.length-1),(zO:2*(l.length-1)+2=2*l.length)]
def xH(n i:Nat):PS:=λq=>if n=0 then q=0\/q=1 else(0<i/\q=2*(i:Int)-1)\/(i<n/\q=2*(i:Int))
noncomputable def txL(n i:Nat):List Int:=E1 (xH n i)
def Ag6{i:Nat}(a:n<=30000)(b:i<=n):∀q,xH n i q->0<=q/\q<65536:=λq h=>by
 unfold xH at h;split at h
 ·omega
 ·omega
def Jt{i:Nat}(a:n<=30000)(b:i<=n)(q:Int):q∈txL n i↔xH n i q:=EI (Ag6 a b) q
def Ak4{i:Nat}(b:n<=30000)(d:i<j)(c:j<=n):txL n i≠txL n j:=λe=>by
 have a:(2*(i:Int))∈txL n i:=(Jt b zO _).2 (by unfold xH;rw[G_ zO];exact .inr ⟨zO,rfl⟩);rw[e,Jt b c]at a;unfold xH at a;rw[G_ zO]at a;omega
def Ag5{i:Nat}(a:n<=30000)(b:i<=n):txL n i≠[]:=λe=>by
 have f:∃q,q∈txL n i:=by
  by_cases c:n=0
  ·exact⟨0,(Jt a b _).2 (by unfold xH;rw[H_ c];exact .inl rfl)⟩
  ·by_cases h:i<n
   ·exact⟨2*(i:Int),(Jt a b _).2 (by unfold xH;rw[G_ c];exact .inr ⟨h,rfl⟩)⟩
   ·exact⟨2*(i:Int)-1,(Jt a b _).2 (by unfold xH;rw[G_ c];exact .inl ⟨zO,rfl⟩)⟩
 have⟨q,d⟩:=f;rw[e]at d;cases d
def ON:Cq (AH [])=⟨2,0,1,[Ba 0 1]⟩:=rfl
def Ag3(a:l≠[]):(Cq (AH l)).st=2*(l.length:Int):=by show((xA (AH l):Nat):Int)=_;rw[(Kt l a).1];omega
def IP(d:l.length<=30000){q:Int}:(Cq (AH l)).has q=zW↔0<=q/\q<if l=[]then 2 else 2*(l.length:Int):=by rw[O_.has_iff];by_cases a:l=[];{subst a;rw[ON];simp};rw[Ag3 a,G_ a];constructor;{rintro⟨b,c,-⟩;exact⟨b,c⟩};rintro⟨b,c⟩;exact⟨b,c,zO⟩
def Qn(a:l≠[])(e:U'):e∈(Cq (AH l)).edges↔(∃(i c:Nat),l[i]?=zY c/\e=Du (2*i) (2*i+1) (FE c))\/∃i:Nat,i+1<l.length/\e=Ba (2*i+1) (2*i+2):=(Kt l a).2.2.2 e
def bL(g:l.length<=30000)(q:Int):Lr (Cq (AH l)) q↔xH l.length 0 q:=by by_cases b:l=[];{subst b;unfold xH;rw[H_ (show([]:List Nat).length=0 from rfl)];constructor;{refine DN (Y:=λq=>q=0\/q=1) (λq h=>.inl h.1) (λe f hs j h=>?_) q;rw[ON,Q_]at f;subst f;exact .inr rfl};have a:Lr (Cq (AH [])) 0:=QI ⟨rfl,(IP zZ).2 zQ⟩;rintro(rfl | rfl);{exact a};exact NB _ _ (Ba 0 1) (Q_.2 rfl) rfl ((IP zZ).2 zQ) a};have d:0<l.length:=kV.2 b;have a:(Cq (AH l)).start=0:=by{show(((EB (AH l) 0).1:Nat):Int)=0;rw[(Kt l b).2.1];rfl};unfold xH;rw[G_ zO];constructor;{intro h;refine .inr ⟨d,?_⟩;refine DN (Y:=λq=>q=2*((0:Nat):Int)) (λq h=>by rw[h.1,a];rfl) (λe f hs j h=>?_) q h;rcases(Qn b e).1 f with⟨i,c,-,rfl⟩ | ⟨i,-,rfl⟩;{cases hs};have h:((2*i+1:Nat):Int)=2*((0:Nat):Int):=h;omega};rintro(⟨h,-⟩ | ⟨-,rfl⟩);{omega};exact QI ⟨by rw[a];rfl,by rw[a];exact(IP g).2 ⟨rL _,by rw[G_ b];omega⟩⟩
def Ag2(w:l.length<=30000)(z:∀c∈l,c<256){i b:Nat}(C:i<=l.length)(x:b<256)(q:Int):sV (Cq (AH l)) (xH l.length i) b q↔l[i]?=zY b/\xH l.length (i+1) q:=by
 by_cases m:l=[];{subst m;simp only[List.getElem?_nil,reduceCtorEq,false_and,iff_false];intro h;refine DN (Y:=λ_=>False) (λq h=>?_) (λe k hs A h=>h) q h;obtain⟨e,k,hs,-⟩:=h;rw[ON,Q_]at k;subst k;cases hs};have y:0<l.length:=kV.2 m;have g:=Qn m;constructor;{intro h;refine DN (Y:=λq=>l[i]?=zY b/\xH l.length (i+1) q) (λq h=>?_) (λe k hs A h=>?_) q h;{obtain⟨e,k,hs,a,n,D,rfl⟩:=h;rcases(g e).1 k with⟨j,c,p,rfl⟩ | ⟨j,-,rfl⟩;{have a:(FE c).getLsbD b=zW:=a;rw[Ta x,yL]at a;subst a;unfold xH at n;rw[G_ zO]at n;have n:(0<i/\((2*j:Nat):Int)=2*(i:Int)-1)\/(i<l.length/\((2*j:Nat):Int)=2*(i:Int)):=n;obtain rfl:j=i:=zO;refine⟨p,?_⟩;unfold xH;rw[G_ zO];refine .inl ⟨zO,?_⟩;show((2*j+1:Nat):Int)=2*((j+1:Nat):Int)-1;omega};cases hs};have⟨r,d⟩:=h;refine⟨r,?_⟩;rcases(g e).1 k with⟨j,c,p,rfl⟩ | ⟨j,p,rfl⟩;{cases hs};unfold xH at d ⊢;rw[G_ zO]at d ⊢;have d:(0<i+1/\((2*j+1:Nat):Int)=2*((i+1:Nat):Int)-1)\/(i+1<l.length/\((2*j+1:Nat):Int)=2*((i+1:Nat):Int)):=d;obtain rfl:j=i:=zO;refine .inr ⟨p,?_⟩;show((2*j+2:Nat):Int)=2*((j+1:Nat):Int);omega};rintro⟨r,d⟩;have t:=(P_.1 r).1;have u:(Cq (AH l)).has (((2*i+1:Nat):Int))=zW:=(IP w).2 ⟨zO,by rw[G_ m];omega⟩
 have f:sV (Cq (AH l)) (xH l.length i) b (((2*i+1:Nat):Int)):=QI ⟨Du (2*i) (2*i+1) (FE b),(g _).2 (.inl ⟨i,b,r,rfl⟩),rfl,by
  show(FE b).getLsbD b=zW;rw[Ta x];simp,by
  show xH l.length i (((2*i:Nat):Int));unfold xH;rw[G_ zO];exact .inr ⟨t,zO⟩,u,rfl⟩
 unfold xH at d;rw[G_ zO]at d;rcases d with⟨-,d⟩ | ⟨B,d⟩;{rw[d,(zO:2*((i+1:Nat):Int)-1=((2*i+1:Nat):Int))];exact f};rw[d,(zO:2*((i+1:Nat):Int)=((2*i+2:Nat):Int))]
 exact NB _ _ (Ba (2*i+1) (2*i+2)) ((g _).2 (.inr ⟨i,B,rfl⟩)) rfl ((IP w).2 ⟨by
  show(0:Int)<=((2*i+2:Nat):Int);omega,by
  show((2*i+2:Nat):Int)<_;rw[G_ m];omega⟩) f
def Qm(a:l.length<=30000):K5 (Cq (AH l))=txL l.length 0:=by show E1 _=E1 _;rw[show Lr (Cq (AH l))=xH l.length 0 from funext λq=>propext (bL a q)]
def LT(d:l.length<=30000)(a:∀c∈l,c<256){i b:Nat}(f:i<=l.length)(g:b<256):B0 (Cq (AH l)) (txL l.length i) b=if l[i]?=zY b then txL l.length (i+1)else []:=by unfold B0;have e:(λq=>q∈txL l.length i)=xH l.length i:=funext λq=>propext (Jt d f q);rw[e];have e2:sV (Cq (AH l)) (xH l.length i) b=λq=>l[i]?=zY b/\xH l.length (i+1) q:=funext λq=>propext (Ag2 d a f g q);rw[e2];split;{rename_i h;unfold txL;congr 1;funext q;exact propext ⟨λh=>h.2,λj=>⟨h,j⟩⟩};rename_i h;unfold E1;rw[List.filter_eq_nil_iff];intro q _;simp[h]
def ZY(a:O_)(b:Nat):B0 a [] b=[]:=by have h:∀q,sV a (λq=>q∈([]:List Int)) b q->False:=DN (Y:=λ_=>False) (λq ⟨e,_,_,_,c,_⟩=>by cases c) λe _ _ _ h=>h;rw[List.eq_nil_iff_forall_not_mem];intro q d;exact h q ((EI (E9 (MY a _ b)) q).1 d)
def Jn{K:Type} [DecidableEq K]:∀{L M:List K},L.Nodup->(∀x∈L,x∈M)->L.length<=M.length | [],M,_,_=>V_ _ | x::L,M,hn,h=>by have a:=dT.1 hn;have d:=Jn (M:=M.erase x) a.2 λy b=>(List.mem_erase_of_ne λe:y=x=>a.1 (by rw[<-e];exact b)).2 (h y (by simp[b]));have c:=h x zZ;have f:=List.length_erase_of_mem c;have g:=List.length_pos_of_mem c;rw[U_];omega
noncomputable def Gk(n:Nat):List (List Int):=[]::(ApS (n+1)).map (txL n)
def Qq(n:Nat):(Gk n).length=n+2:=by simp[Gk]
def bR(c:n<=30000):(Gk n).Nodup:=by unfold Gk;refine dT.2 ⟨λh=>?_,?_⟩;{have⟨i,a,e⟩:=yT.1 h;have:=xO.1 a;exact Ag5 c zO e};unfold List.Nodup;rw[List.pairwise_map];refine xT.2 λi j a d b=>?_;rw[qB]at a d;rw[dP,dP];exact Ak4 c b zO
def TX{i:Nat}(a:i<=n):txL n i∈Gk n:=yD _ (yT.2 ⟨i,xO.2 zO,rfl⟩)
def V9(f:l.length<=30000)(a:∀c∈l,c<256){x:List Int}(d:x∈Gk l.length){b:Nat}(g:b<256):B0 (Cq (AH l)) x b∈Gk l.length:=by rcases J'.1 d with rfl | d;{rw[ZY];exact yN};obtain⟨i,e,rfl⟩:=yT.1 d;have e:=xO.1 e;rw[LT f a zO g];split;{rename_i h;have:=(P_.1 h).1;exact TX zO};exact yN
structure BR where
 p:Nat
 q:Nat
 u:Nat
 es:List U'
def xP(n:Int)(e:U'):U':=⟨e.fr+n,e.to+n,e.sil,if e.sil then 0#256 else e.set⟩
def EW(a:O_):Bool:=(a.has a.start&&a.has a.fin)&&a.edges.all λe=>a.has e.fr&&a.has e.to
def NQ:ReM->Bool | .and_ _ _=>zW | .minus _ _=>zW | _=>zU
def Bm{σ α β:Type}(x:σ×Except Int α)(f:α->σ->σ×Except Int β):σ×Except Int β:=match x with
 | (s,.error e)=>(s,.error e)
 | (s,.ok a)=>f a s
def DV{σ:Type}(x:σ×Except Int O_)(n:Nat):σ×Except Int BR:=Bm x λa s=>if EW a=zW then(s,.ok ⟨n+a.start.toNat,n+a.fin.toNat,a.st.toNat,a.edges.map (xP n)⟩)else(s,.error 2)
def Bs{σ:Type}(sub:ReM->σ->σ×Except Int O_):ReM->Nat->σ->σ×Except Int BR | .eps,n,s=>(s,.ok ⟨n,n+1,2,[Ba n (n+1)]⟩)| .cls t,n,s=>(s,.ok ⟨n,n+1,2,[Du n (n+1) t]⟩)| .cat a b,n,s=>Bm (Bs sub a n s) λA s1=>Bm (Bs sub b (n+A.u) s1) λC s2=>(s2,.ok ⟨A.p,C.q,A.u+C.u,A.es++C.es++[Ba A.q C.p]⟩)| .alt a b,n,s=>Bm (Bs sub a (n+1) s) λA s1=>Bm (Bs sub b (n+1+A.u) s1) λC s2=>(s2,.ok ⟨n,n+1+A.u+C.u,A.u+C.u+2,A.es++C.es++[Ba n A.p,Ba n C.p,Ba A.q (n+1+A.u+C.u),Ba C.q (n+1+A.u+C.u)]⟩)| .star a,n,s=>Bm (Bs sub a (n+1) s) λA s1=>(s1,.ok ⟨n,n+1+A.u,A.u+2,A.es++[Ba n A.p,Ba n (n+1+A.u),Ba A.q A.p,Ba A.q (n+1+A.u)]⟩)| .and_ a b,n,s=>DV (sub (.and_ a b) s) n | .minus a b,n,s=>DV (sub (.minus a b) s) n
section
variable{σ α β:Type}{x:σ×Except Int α}{f:α->σ->σ×Except Int β}{s:σ}
def Cm{a:α}(h:x=(s,.ok a)):Bm x f=f a s:=by rw[h];rfl
def C9(h:x=(s,.error e)):Bm x f=(s,.error e):=by rw[h];rfl
def AZ{b:β}(h:Bm x f=(s,.ok b)):∃c a,x=(c,.ok a)/\f a c=(s,.ok b):=by have⟨c,r⟩:=x;cases r with|error e=>cases h|ok a=>exact⟨c,a,rfl,h⟩
end
def FL{a:O_}:EW a=zW↔a.has a.start=zW/\a.has a.fin=zW/\∀e∈a.edges,a.has e.fr=zW/\a.has e.to=zW:=by unfold EW;simp only[o_,xJ,and_assoc]
structure Ue{σ:Type}(sub:ReM->σ->σ×Except Int O_)(E:Nat):Prop where
 len:∀r s s' a,sub r s=(s',.ok a)->a.edges.length<=E
 err:∀r s s' e,sub r s=(s',.error e)->e≠0
def CG{σ:Type}{sub:ReM->σ->σ×Except Int O_}{E:Nat}(f:Ue sub E):∀(r:ReM) (n:Nat) (s e:σ) (A:BR),Bs sub r n s=(e,.ok A)->n<=A.p/\A.p<n+A.u/\n<=A.q/\A.q<n+A.u/\A.u<=65536*r.nodes/\A.es.length<=(E+4)*r.nodes
 | .eps,n,s,e,A,h=>by
   cases h;simp only[ReM.nodes,g_];omega
 | .cls t,n,s,e,A,h=>by
   cases h;simp only[ReM.nodes,g_];omega
 | .cat a b,n,s,e,A,h=>by
   have⟨k,A1,d,c⟩:=AZ h;have⟨y,A2,l,m⟩:=AZ c;cases m;have x:=CG f a _ _ _ _ d;have z:=CG f b _ _ _ _ l;simp only[ReM.nodes,M_,g_,wQ];omega
 | .alt a b,n,s,e,A,h=>by
   have⟨k,A1,d,c⟩:=AZ h;have⟨y,A2,l,m⟩:=AZ c;cases m;have x:=CG f a _ _ _ _ d;have z:=CG f b _ _ _ _ l;simp only[ReM.nodes,M_,U_,i_,wQ];omega
 | .star a,n,s,e,A,h=>by
   have⟨k,A1,d,c⟩:=AZ h;cases c;have x:=CG f a _ _ _ _ d;simp only[ReM.nodes,M_,U_,i_,wQ];omega
 | .and_ a b,n,s,e,A,h=>by
   have⟨k,N,d,c⟩:=AZ (show DV _ n=_ from h);have B:=f.len _ _ _ _ d;split at c
   ·rename_i w;cases c;obtain⟨g,j,-⟩:=FL.1 w;have g:=O_.has_iff.1 g;have j:=O_.has_iff.1 j;simp only[ReM.nodes,d_,wQ];omega
   ·cases c
 | .minus a b,n,s,e,A,h=>by
   have⟨k,N,d,c⟩:=AZ (show DV _ n=_ from h);have B:=f.len _ _ _ _ d;split at c
   ·rename_i w;cases c;obtain⟨g,j,-⟩:=FL.1 w;have g:=O_.has_iff.1 g;have j:=O_.has_iff.1 j;simp only[ReM.nodes,d_,wQ];omega
   ·cases c
def Vg{σ:Type}{sub:ReM->σ->σ×Except Int O_}{E:Nat}(j:Ue sub E):∀(r:ReM) (n:Nat) (s d:σ) (e:Int),Bs sub r n s=(d,.error e)->e≠0:=by have qG:∀{α β:Type} {x:σ×Except Int α} {f:α->σ->σ×Except Int β} {d:σ} {e:Int},Bm x f=(d,.error e)->x=(d,.error e)\/∃g a,x=(g,.ok a)/\f a g=(d,.error e):=by{intro α β x f d e h;have⟨g,r⟩:=x;cases r with|error k=>have h:((g,.error k):σ×Except Int β)=(d,.error e):=h;cases h;exact .inl rfl|ok a=>exact .inr ⟨g,a,rfl,h⟩};intro r;induction r with|eps=>intro n s d e h;cases h|cls t=>intro n s d e h;cases h|cat a b c ihb | alt a b c ihb=>{intro n s d e h;rcases qG (show Bm _ _=_ from h)with h | ⟨g,A,-,h⟩;{exact c _ _ _ _ h};rcases qG h with h | ⟨l,C,-,h⟩;{exact ihb _ _ _ _ h};cases h}|star a c=>{intro n s d e h;rcases qG (show Bm _ _=_ from h)with h | ⟨g,A,-,h⟩;{exact c _ _ _ _ h};cases h}|and_ a b c ihb | minus a b c ihb=>{intro n s d e h;rcases qG (show Bm _ _=_ from h)with h | ⟨g,A,-,h⟩;{exact j.err _ _ _ _ h};split at h;{cases h};cases h;decide}
section
attribute [local irreducible] Bh By AJ
inductive PA.Live(d:PA):Nat->Prop
 | fin {q:Nat}:q<d.n->d.fi q=zW->d.Live q
 | step {q b:Nat}:q<d.n->b<256->d.Live (d.st q b)->d.Live q
variable{d:PA}
def PA.Live.lt(h:d.Live q):q<d.n:=by cases h<;>assumption
open Classical in
noncomputable def PA.use(d:PA)(q:Nat):Bool:=zT (d.Live q)
def PA.use_iff:d.use q=zW↔d.Live q:=by unfold PA.use;simp
def PA.use_lt(h:d.use q=zW):q<d.n:=(PA.use_iff.1 h).lt
noncomputable def PA.place(d:PA)(q:Nat):Nat:=((ApS q).filter d.use).length
noncomputable def PA.count(d:PA):Nat:=d.place d.n
noncomputable def PA.set(d:PA)(q t:Nat):BitVec 256:=kZ λb=>zT (d.st q b=t)
noncomputable def PA.hopsTo(d:PA)(q k:Nat):List U':=(ApS k).filterMap λt=>if(d.use t&&(d.set q t != 0#256))=zW then zY (Du (d.place q) (d.place t) (d.set q t))else zV
noncomputable def PA.endE(d:PA)(q:Nat):List U':=if d.fi q=zW then [Ba (d.place q) d.count]else []
noncomputable def PA.edgesTo(d:PA)(k:Nat):List U':=(ApS k).flatMap λq=>if d.use q=zW then d.hopsTo q d.n++d.endE q else []
noncomputable def Bo(d:PA):O_:=if d.use 0=zW then⟨d.count+1,0,d.count,d.edgesTo d.n⟩else⟨2,0,1,[]⟩
def PA.place_succ(q:Nat):d.place (q+1)=d.place q+if d.use q=zW then 1 else 0:=by unfold PA.place;rw[wS,List.filter_append,M_];cases h:d.use q<;>simp[h]
def PA.place_mono{t:Nat}(h:q<=t):d.place q<=d.place t:=by obtain⟨k,rfl⟩:=Nat.exists_eq_add_of_le h;clear h;induction k with|zero=>exact I_ _|succ k a=>rw[<-rT,PA.place_succ];omega
def PA.place_lt{t:Nat}(a:d.use q=zW)(h:q<t):d.place q<d.place t:=by have b:=PA.place_succ (d:=d) q;rw[H_ a]at b;have c:=PA.place_mono (d:=d) (show q+1<=t from h);omega
def PA.place_count(a:d.use q=zW):d.place q<d.count:=PA.place_lt a (PA.use_lt a)
def PA.place_le(q:Nat):d.place q<=q:=by unfold PA.place;have:=List.length_filter_le d.use (ApS q);rwa [qB]at this
def PA.count_le:d.count<=d.n:=PA.place_le _
def PA.set_bit{t:Nat}:(d.set q t).getLsbD c=zW↔c<256/\d.st q c=t:=by unfold PA.set;constructor;{intro h;have a:=BitVec.lt_of_getLsbD h;rw[VR _ a]at h;exact⟨a,by simpa using h⟩};rintro⟨a,h⟩;rw[VR _ a];simpa using h
def PA.mem_edges{e:U'}:e∈d.edgesTo d.n↔∃q,d.use q=zW/\((∃t,d.use t=zW/\d.set q t≠0#256/\e=Du (d.place q) (d.place t) (d.set q t))\/(d.fi q=zW/\e=Ba (d.place q) d.count)):=by unfold PA.edgesTo;rw[List.mem_flatMap];constructor;{rintro⟨q,j,a⟩;split at a;{rename_i f;refine⟨q,f,?_⟩;rcases n_.1 a with a | a;{unfold PA.hopsTo at a;have⟨t,k,b⟩:=pK.1 a;split at b;{rename_i c;rw[o_,bne_iff_ne]at c;exact .inl ⟨t,c.1,c.2,(Option.some.inj b).symm⟩};cases b};unfold PA.endE at a;split at a;{rename_i g;exact .inr ⟨g,Q_.1 a⟩};cases a};cases a};rintro⟨q,f,h⟩;refine⟨q,xO.2 (PA.use_lt f),?_⟩;rw[H_ f];rcases h with⟨t,b,c,rfl⟩ | ⟨b,rfl⟩;{refine xU _ ?_;unfold PA.hopsTo;refine pK.2 ⟨t,xO.2 (PA.use_lt b),?_⟩;rw[H_ (by rw[o_,bne_iff_ne];exact⟨b,c⟩)]};refine uI _ ?_;unfold PA.endE;rw[H_ b];exact Q_.2 rfl
def X9(g:d.n<=65535):(Bo d).has (Bo d).start=zW/\(Bo d).has (Bo d).fin=zW/\∀e∈(Bo d).edges,(Bo d).has e.fr=zW/\(Bo d).has e.to=zW:=by have h:=PA.count_le (d:=d);unfold Bo;split;{refine⟨O_.has_iff.2 ⟨rL _,by show(0:Int)<(d.count:Int)+1;omega,by show(d.count:Int)+1<=65536;omega⟩,O_.has_iff.2 ⟨by show(0:Int)<=(d.count:Int);omega,by show(d.count:Int)<(d.count:Int)+1;omega,by show(d.count:Int)+1<=65536;omega⟩,λe b=>?_⟩;have a:∀k:Nat,k<=d.count->O_.has ⟨d.count+1,0,d.count,d.edgesTo d.n⟩ (k:Int)=zW:=λk j=>O_.has_iff.2 ⟨zO,by show(k:Int)<(d.count:Int)+1;omega,by show(d.count:Int)+1<=65536;omega⟩;obtain⟨q,c,⟨t,f,l,rfl⟩ | ⟨f,rfl⟩⟩:=PA.mem_edges.1 b;{exact⟨a _ (nW (PA.place_count c)),a _ (nW (PA.place_count f))⟩};exact⟨a _ (nW (PA.place_count c)),a _ (I_ _)⟩};exact⟨zQ,zQ,λe b=>by cases b⟩
def SG(a:d.n<=65535):EW (Bo d)=zW:=FL.2 (X9 a)
end
def pW(A C:BR):BR:=⟨A.p,C.q,A.u+C.u,A.es++C.es++[Ba A.q C.p]⟩
def kW(n:Nat)(A C:BR):BR:=⟨n,n+1+A.u+C.u,A.u+C.u+2,A.es++C.es++[Ba n A.p,Ba n C.p,Ba A.q (n+1+A.u+C.u),Ba C.q (n+1+A.u+C.u)]⟩
def AmJ(n:Nat)(A:BR):BR:=⟨n,n+1+A.u,A.u+2,A.es++[Ba n A.p,Ba n (n+1+A.u),Ba A.q A.p,Ba A.q (n+1+A.u)]⟩
section
attribute [local irreducible] Bh By AJ
def AeD(m:Nat){n:Int×Int}(h:Gn n):prog.keyLits (m+2) 308 (r_ n)=zY [.int .i64 n.1,.int .i64 n.2]:=by have a:prog.cellsOf 308=2:=zX;have b:prog.cellsOf 3=1:=zX;simp[Program.keyLits,underlying308,underlying3,a,b,r_,WE h.1,WE h.2]
def AiW{n:Int×Int}(h:Gn n):∃l,keyOf prog 308 (z' n)=zY l:=by
 have a:prog.keyType 308=zW:=zX;have b:prog.cellsOf 308=2:=zX;have c:(z' n).formed prog 308=zW:=by simp[z',r_,Value.formed,underlying308,b]
 obtain⟨m,d⟩:∃m,prog.types.size+1=m+2:=⟨prog.types.size-1,by{have:zT (1<=prog.types.size)=zW:=zX;have:=of_decide_eq_true this;omega}⟩;refine⟨.string (keyBytes [.int .i64 n.1,.int .i64 n.2]),?_⟩;unfold keyOf;simp only[underlying308,a,c,nV,if_true];rw[d,show(z' n).cells.toList=r_ n from rfl,AeD m h];rfl
def gY:Fv prog 308 Gn z':=Fv.ofLaw (deep_law (m:=2) zQ zX zX (by simp[underlying308])) (λa b h=>WD h) (λa h=>AiW h)
def fG:D4 prog 319 308 3 (.int .i64 0):=⟨rfl,rfl⟩
def tLp:Ty (Int×Int) where
 size:=2
 rep _ _ cs x:=cs=r_ x
 len h:=by rw[h];rfl
 frame h _:=h
 mono h _:=h
def bI(x:Int×Int):∀u∈r_ x,u.oneCell'=zW:=by intro u a;unfold r_ at a;simp only[J',List.not_mem_nil,or_false]at a;rcases a with rfl | rfl<;>rfl
def R1:(prog.info? 308).bind (·.zero)=zY (z' (0,0)):=zX
def AhL(x:Int×Int):Prop:=(0<=x.1/\x.1<65536)/\0<=x.2/\x.2<65536
def AhL.ok{x:Int×Int}(h:AhL x):Gn x:=⟨JB h.1,JB h.2⟩
def D_.front{B:Nat->Prop}{q:Pc}(b:D_ B H0 H (ps++[q])):D_ B H0 H (q::ps):=by have hd:=vW.1 b.dis;refine⟨b.old,b.lt0,b.size,λp a=>b.oks p ?_,λp a=>b.rng p ?_,vE.2 ⟨λp a k d c=>hd.2.2 p a q zZ k c d,hd.1⟩⟩;{rcases J'.1 a with rfl | a;{simp};simp[a]};rcases J'.1 a with rfl | a;{simp};simp[a]
def D_.tail{B:Nat->Prop}{q:Pc}(a:D_ B H0 H (q::ps)):D_ B H0 H ps:=⟨a.old,a.lt0,a.size,λp b=>a.oks p (by simp[b]),λp b=>a.rng p (by simp[b]),(vE.1 a.dis).2⟩
abbrev oO:x_:=322
def Xz(F:List (Int×Int))(s:Int×Int):Option v_:=(F.findIdx? (·=s)).map fun(i:Nat)=>.int .i64 (i:Int)
def Zp{F:List (Int×Int)}(a:F.findIdx? (·=k)=zV):put (Xz F) k (zY (.int .i64 (F.length:Int)))=Xz (F++[k]):=by funext s;unfold put Xz;rw[pI];by_cases hs:s=k;{subst hs;rw[H_ rfl,a];simp[vH]};rw[G_ hs];cases h:F.findIdx? (·=s)with|some i=>simp|none=>have:k≠s:=λe=>hs e.symm;simp[vH,this]
def MF(xb mb:Nat)(fa:Option Addr)(fc most:Nat)(F:List (Int×Int))(rest:List Pc):List Pc:=pB oO xb (sU mb (.slice fa F.length fc) most)::yZ Gn z' mb (Xz F)::pS tLp 308 fa F.length fc F::rest
def gR{B:Nat->Prop}{xb mb fc most:Nat}{fa:Option Addr}{F:List (Int×Int)}{K:v_->Aa->Prop}(J:D_ B H0 H (MF xb mb fa fc most F ps))(V:Gn k)(hm:most<=4096)(Z:F.length<=most)
  (k1:∀F' i g l H',M' most F k=zY (F',i)->D_ B H0 H' (MF xb mb g l most F' ps)->K (.tuple #[B_ i,.bool zW]) H')
  (k2:∀H',M' most F k=zV->D_ B H0 H' (MF xb mb fa fc most F ps)->K (.tuple #[B_ 0,.bool zU]) H'):
  An prog 198 #[J_ xb,z' k] H K:=by
 refine An.mk (R:=λr H'=>(∃(F':List (Int×Int)) (i:Nat) (g:Option Addr) (l:Nat),r= .tuple #[B_ i,.bool zW]/\M' most F k=zY (F',i)/\D_ B H0 H' (MF xb mb g l most F' ps))\/(r= .tuple #[B_ 0,.bool zU]/\M' most F k=zV/\D_ B H0 H' (MF xb mb fa fc most F ps))) ?_ λr H' h=>by{rcases h with⟨F',i,g,l,rfl,L,M⟩ | ⟨rfl,L,M⟩;{exact k1 F' i g l H' L M};{exact k2 H' L M}};unfold MF at J;refine Am.of_vc func198 rfl (call198 _) (BF (r_ k) rfl ?_);intro G Hk N O t u;have b:=(J.box N O t u).front;clear J t u;have c:=b.blk 1 rfl;have w:AO Hk G 0 (r_ k):=(b.blk 0 rfl).cells λj v x=>by rw[N_];exact x
 refine Ap.lex rfl zX (E_ ?_);refine C_ (c.cellE rfl) zA (K_ (cs:=r_ k) w zA (FD (a:=k) fG gY V (b.mapW 2 rfl) zA ?_));rw[show Xz F k=(F.findIdx? (·=k)).map fun(i:Nat)=>.int .i64 (i:Int)from rfl];cases I:F.findIdx? (·=k)with|some i=>(conv=>whnf);exact .inl ⟨F,i,fa,fc,rfl,by unfold M';rw[I],b.tail⟩|none=>{refine Ap.lex rfl zX (E_ ?_);refine C_ (c.cellE rfl) zA (E_ ?_);refine lT (c.cellE rfl) ?_;by_cases y:F.length<most;{have P:zT ((most:Int)<=(F.length:Int))=zU:=j_;(conv=>whnf);rw[P];refine Ap.heldZ (F_ Hk) [10] (sq [0,1,2,3,4,5,6,7,8,9] (.f 10 .e)) rfl zX (E_ ?_);refine C_ (c.cellE rfl) c.lt (K_ (cs:=r_ k) w (b.blk 0 rfl).lt (E_ ?_));refine C_ (c.cellE rfl) c.lt (GB (a:=k) b 2 fG gY V rfl (Zp I) λH1 st1=>?_);have Q:=st1.blk 1 rfl;have S:AO H1 G 0 (r_ k):=(st1.blk 0 rfl).cells λj v x=>by{rw[N_];exact x};refine Ap.heldZ (λj=>j=xb\/j=G) [10] (sq [0,1,2,3,4,5] (.f 6 (.f 7 (sq [8,9] (.f 10 .e))))) rfl zX (E_ ?_);refine C_ (Q.cellE rfl) (.inl rfl) (K_ (cs:=r_ k) S (.inr rfl) (Az WQ (r_ k) rfl rfl zQ zQ ?_));intro a0 H11 z W A m;have X:=(st1.blk 1 rfl).lt;have Y:=(st1.blk 0 rfl).lt;refine⟨m.mono λj C=>?_,?_⟩;{rcases C with rfl | rfl<;>omega};have n:=st1.skip z m;have T:=n.apart2 (i:=1) (j:=3) rfl rfl zQ;have U:=n.apart2 (i:=0) (j:=3) rfl rfl zQ;refine Uj (ys:=[k]) n 3 WQ rfl (A.cells λj v x=>by rw[N_];exact x) (Ty.reps_one (show tLp.rep none_ H11 (r_ k) k from rfl)) rfl (bI k) (by simp only[g_];omega) zQ λD E H12 p q=>?_;rw[show F.length+[k].length=(F++[k]).length by simp]at p ⊢;refine⟨(m.mono λj C=>?_).trans (q.mono λj C=>?_),?_⟩;{rcases C with rfl | rfl<;>omega};{rcases C with rfl | rfl;{exact⟨zO,λh=>T _ rfl (.inl h)⟩};{exact⟨zO,λh=>U _ rfl (.inl h)⟩}};refine E_ ?_;refine Bc p 1 rfl (zQ:1<3) rfl λH13 d=>?_;replace d:D_ B H0 H13 (pB 308 G (r_ k)::MF xb mb D E most (F++[k]) ps):=d;refine E_ ?_;refine lT ((d.blk 1 rfl).cellE rfl) ?_;have w1:IntKind.wrap .i64 (((F++[k]).length:Int)-1)=(F.length:Int):=by{rw[show(F++[k]).length=F.length+1 by simp,vU zO zO];omega};(conv=>whnf);rw[w1];(conv=>whnf);exact .inl ⟨F++[k],F.length,D,E,rfl,by unfold M';rw[I];simp only;rw[H_ y],d.tail⟩};{have P:zT ((most:Int)<=(F.length:Int))=zW:=Y';(conv=>whnf);rw[P];(conv=>whnf);exact .inr ⟨rfl,by unfold M';rw[I];simp only;rw[G_ y],b.tail⟩}}
structure Ns(S:Nat->Prop)(H:Aa)(pa pb:Nat)(va vb:v_)(a b:Option AM):Prop where
 spa:S pa
 spb:S pb
 ca:AO H pa 0 [va]
 cb:AO H pb 0 [vb]
 va:AS S H va a
 vb:AS S H vb b
def Ns.frame{H':Aa}{pa pb:Nat}{a:Option AM}(h:Ns S H pa pb va vb a b)(k:A_ S H H'):Ns S H' pa pb va vb a b:=⟨h.spa,h.spb,h.ca.eq (k _ h.spa),h.cb.eq (k _ h.spb),h.va.frame k,h.vb.frame k⟩
def AfS{pa pb:Nat}{a:Option AM}{x:Int×Int}(r:∀k,S k->k<H.size)(h:Ns S H pa pb va vb a b)(u:c<256):AT prog 181 #[z' x,.int .u8 (c:Int),J_ pa,J_ pb] H (z' (BV a b x c)):=by have e:BV a b x c=(Ao a x.1 c,Ao b x.2 c):=H_ u;rw[e];refine Am.of_vc func181 rfl (call181 _) (Ec (St.nil H) (r_ x) rfl λA H1 st1=>(BO st1 (z' (0,0)) (r_ (0,0)) R1 rfl λB H2 d=>?_));have w:=h.frame (d.old.mono r);have t:=d.blk 0 rfl;have l:∀k,S k->k<H2.size:=λk p=>d.up (r k p);refine Ap.heldZ (F_ H2) [11] (sq [0,1,2,3,5,6,7,8] (.f 4 (.f 9 (sq [10] (.f 11 .e))))) rfl zX (C_ (v:=va) (w.ca 0 _ rfl) (l _ h.spa) (E_ ?_));refine C_ (t.cellE rfl) t.lt (C_ (v:=vb) (w.cb 0 _ rfl) (l _ h.spb) (E_ ?_));refine C_ (t.cellE rfl) t.lt (Af (BW l w.va u) λH3 g=>?_);have m:=d.call g;refine⟨g,?_⟩;refine Af (BW (λk p=>m.up (r k p)) (h.vb.frame (m.old.mono r)) u) λH4 q=>?_;have y:=m.call q;refine⟨g.trans (q.mono λk p=>Ak g p),?_⟩;refine Ad underlying308 rfl (z' (0,0)) R1 (r_ (Ao a x.1 c,Ao b x.2 c)) rfl (AB (cs:=r_ (Ao a x.1 c,Ao b x.2 c)) y 1 rfl rfl (I_ _) rfl λH5 n=>?_);rw[AA (show(r_ (Ao a x.1 c,Ao b x.2 c)).length=(r_ (0,0)).length from rfl)]at n;refine K_ (cs:=r_ (Ao a x.1 c,Ao b x.2 c)) ((n.blk 1 rfl).cells λj v z=>by rw[N_];exact z) zA ?_;exact⟨rfl,n.old⟩
def Zt{pa pb pf:Nat}{a:Option AM}{x:Int×Int}{ends:Bool->Bool->Bool}(r:∀k,S k->k<H.size)(h:Ns S H pa pb va vb a b)(j:S pf)(u:AO H pf 0 [.func (.func f) #[] #[]])(B:∀(G:Aa) (x y:Bool),AT prog f #[.bool x,.bool y] G (.bool (ends x y))):AT prog 182 #[z' x,J_ pf,J_ pa,J_ pb] H (.bool (ends (AL a x.1) (AL b x.2))):=by refine Am.of_vc func182 rfl (call182 _) (Ec (St.nil H) (r_ x) rfl λC H1 st1=>?_);have w:=h.frame (st1.old.mono r);have t:=st1.blk 0 rfl;have d:∀k,S k->k<H1.size:=λk l=>st1.up (r k l);refine Ap.heldZ (F_ H1) [] (sq [0,1,2,3,5,6,7] (.f 4 (.f 8 (.f 9 (.f 10 .e))))) rfl zX (C_ (v:=.func (.func f) #[] #[]) ((u.eq (st1.old _ (r _ j))) 0 _ rfl) (d _ j) (C_ (v:=va) (w.ca 0 _ rfl) (d _ h.spa) (E_ ?_)));refine C_ (t.cellE rfl) t.lt (C_ (v:=vb) (w.cb 0 _ rfl) (d _ h.spb) (E_ ?_));refine C_ (t.cellE rfl) t.lt (Af (BS w.va) λH3 c=>?_);have m:=st1.call c;refine⟨c,?_⟩;refine Af (BS (h.vb.frame (m.old.mono r))) λH4 n=>?_;have z:=m.call n;have g:=c.trans (n.mono λk l=>Ak c l);refine⟨g,?_⟩;refine Af (B H4 _ _) λH5 p=>?_;have A:=z.call p;have q:=g.trans (p.mono λk l=>Ak g l);refine⟨q,?_⟩;(conv=>whnf);refine⟨q,?_⟩;(conv=>whnf);exact⟨rfl,A.old⟩
def aL{K:Type} [DecidableEq K]{most:Nat}{F F':List K}{k:K}{i:Nat}(h:M' most F k=zY (F',i))(b:F.length<=most):F'.length<=most/\i<most:=by unfold M' at h;split at h;{rename_i j a;injection h with h;injection h with h1 h2;subst h1;subst h2;have:=(uT.1 a).1;omega};split at h;{injection h with h;injection h with h1 h2;subst h1;subst h2;simp only[M_,U_,i_];omega};cases h
def lS(a b:Option AM)(ends:Bool->Bool->Bool)(most:Nat)(cs:List (BitVec 256))(l0:Int×Int)(H H':Aa)(r:v_):Prop:=A_ (F_ H) H H'/\
 match DZ most (BV a b) (Bv cs) l0 with
 | none=>r= .tuple #[.pointer zV,.bool zU]
 | some (F,rows)=>∃v,r= .tuple #[v,.bool zW]/\AS (λk=>H.size<=k/\k<H'.size) H' v (if Bt cs (rows.map Bw) F.length then zY (BE cs (rows.map Bw) (F.map λx=>ends (AL a x.1) (AL b x.2)))else zV)
def UE{pa pb pf:Nat}{a:Option AM}{ends:Bool->Bool->Bool}{ca:Option Addr}{cc most:Nat}{cs:List (BitVec 256)}{l0:Int×Int}(Z:∀k,S k->k<H.size)(ay:Ns S H pa pb va vb a b)(az:S pf)(cj:AO H pf 0 [.func (.func f) #[] #[]])(hf:∀(G:Aa) (x y:Bool),AT prog f #[.bool x,.bool y] G (.bool (ends x y)))
  (b0:c_ Co S H ca cc cs) (dl:cs.length<=256) (sa:BM a) (sb:BM b) (b4:S8 a b l0) (dm:1<=most) (hm:most<=4096):
  Am prog 183 #[z' l0,.slice ca cs.length cc,.func (.func 181) #[] #[J_ pa,J_ pb],.func (.func 182) #[] #[J_ pf,J_ pa,J_ pb],B_ most] H λr H'=>lS a b ends most cs l0 H H' r:=by
 have b5:∀x,S8 a b x->AhL x:=λx z=>by{have A:=sa.n2;have h2:=sb.n2;obtain⟨⟨x1,x2⟩,x3,x4⟩:=z;exact⟨⟨x1,zO⟩,x3,zO⟩};have b6:∀x c,S8 a b x->S8 a b (BV a b x c):=λx c z=>by{unfold BV;split;{rename_i h;exact⟨sa.step x.1 c z.1 h,sb.step x.2 c z.2 h⟩};{exact z}};have ck:∀x∈[l0],S8 a b x:=λx z=>by rw[Q_]at z;subst z;exact b4
 refine Am.of_vc func183 rfl (call183 _) (BF (r_ l0) rfl ?_);intro cm H0' b7 co b9 bd;have cp:=(St.nil H).box b7 co b9 bd;refine I5 (Ok:=Gn) (enc:=z') λmb H1 cq cr be ct=>?_;have st1:=cp.mapNewW cq cr be ct;refine Ad underlying322 rfl (.agg #[.map zV,.slice zV 0 0,B_ 0]) rfl (sU mb (.slice zV 0 0) most) rfl (BF (sU mb (.slice zV 0 0) most) rfl ?_);intro xb H2 cu cw cx cy;have bf:=(st1.box cu cw cx cy).nils tLp 308;have cz:AO H2 cm 0 (r_ l0):=(bf.blk 0 rfl).cells λj v hv=>by rw[N_];exact hv
 have d0:St H H2 (MF xb mb zV 0 most [] []):=bf.pick [2,1,3] zQ;have a0:M' most ([]:List (Int×Int)) l0=zY ([l0],0):=by{unfold M';rw[List.findIdx?_nil];simp only;rw[H_ (by simp only[i_];omega)];rfl};refine K_ (cs:=r_ l0) cz zA (gR d0 (b5 l0 b4).ok hm (V_ _) (λF' i bh bj H3 A d1=>?_) (λH3 A _=>?_));{
 rw[a0]at A;injection A with A;injection A with A h2;subst A;subst h2;have d2:St H H3 (MF xb mb bh bj most [l0] [pN (xR zF) none_ 181 zV 0 0 [],pS Cu 4 zV 0 0 []]):=(d1.nils (xR zF) 181).nils Cu 4;(conv=>whnf);refine AD.mk [15,16,17] (λx:Nat×List (Int×Int)×List (List Nat)×Option Addr×Nat×Option Addr×Nat=>match x with | (i,F,rows,na,nc,ba,bc)=>[.slice na i nc,.slice ba i bc,B_ i]) (λx H4=>match x with | (i,F,rows,na,nc,ba,bc)=>i<=F.length/\F.length<=most/\(∀x∈F,S8 a b x)/\rows.length=i/\Bl most (BV a b) (Bv cs) l0 i=zY (F,rows)/\∃Sx fa fc,St H H4 (MF xb mb fa fc most F [pN (xR zF) Sx 181 na i nc (rows.map Bw),pS Cu 4 ba i bc ((F.take i).map λx=>ends (AL a x.1) (AL b x.2))])) (λx _=>most-x.1) ?_ ?_;{(conv=>whnf);exact⟨(0,[l0],[],zV,0,zV,0),rfl,V_ _,by simp only[U_,i_];omega,ck,rfl,rfl,none_,bh,bj,d2⟩};{
 rintro⟨i,F,rows,na,nc,ba,bc⟩ H4 d3 ⟨dp,bn,bo,ad,a8,Sx,fa,fc,m⟩;have d4:=m.blk 0 rfl;refine E_ ?_;refine lT (d4.cellE rfl) ?_;refine Av.m2 (λhz=>?_) (λhz=>?_);{
 have⟨x,z⟩:=Ai (l:=F) (k:=i) zO;have bp:=bo x (Y_ z);have p:Bl most (BV a b) (Bv cs) l0 (i+1)=((Bv cs).foldl (Cs most (BV a b) x) (zY (F,[]))).map λr=>(r.1,rows++[r.2]):=by{show(Bl most (BV a b) (Bv cs) l0 i).bind _=_;rw[a8];simp only[xI,z]};refine EV AQ rfl zO zO zO zO ?_;intro rb H6 d5 bq br ae;rw[zG]at br;rw[zG,show(0:Int).toNat=0 from rfl];have ah:=m.newCap (T:=zF) (cap:=cs.length) d5 bq br ae (by simp[Dc]) (by unfold maxLen;omega);(conv=>whnf);refine AD.mk [18,51] (λy:Nat×List (Int×Int)×List Nat×Option Addr×Nat=>match y with | (j,F',row,ra,rc)=>[.slice ra row.length rc,B_ j]) (λy H7=>match y with | (j,F',row,ra,rc)=>j<=cs.length/\F'.length<=most/\(∀x∈F',S8 a b x)/\F <+: F'/\row.length=j/\((Bv cs).take j).foldl (Cs most (BV a b) x) (zY (F,[]))=zY (F',row)/\∃fa fc,St H H7 (MF xb mb fa fc most F' [pN (xR zF) Sx 181 na i nc (rows.map Bw),pS Cu 4 ba i bc ((F.take i).map λx=>ends (AL a x.1) (AL b x.2)),pS zF 3 ra row.length rc (Bw row)])) (λy _=>cs.length-y.1) ?_ ?_;{(conv=>whnf);exact⟨(0,F,[],zY ⟨rb,0,zV⟩,cs.length),rfl,V_ _,bn,bo,sM _,rfl,rfl,fa,fc,ah⟩};{
 rintro⟨j,F',row,ra,rc⟩ H7 d6 ⟨hj,J,a9,B,ai,K,W,X,L⟩;refine Av.m2 (λd7=>?_) (λd7=>?_);{
 have⟨c,hc⟩:=Ai (l:=cs) (k:=j) zO;have d8:=So hc;have bu:=Ch c 0;have C:=EA B z;refine zP (i:=j) Cj (b0.frame (L.old.mono Z)) hc rfl ?_;rintro b8 o8 dq dr d9 rfl;refine K_ (cs:=Ag c) d9 zA (BO L (AX 0) (Ag 0) rfl rfl λsx H8 aj=>(AB (cs:=Ag c) aj 6 rfl rfl (I_ _) rfl λH9 ak=>?_));rw[AA (show(Ag c).length=(Ag 0).length from rfl)]at ak;refine K_ (cs:=Ag c) ((ak.blk 6 rfl).cells λj v hv=>by rw[N_];exact hv) zA ?_;refine Af (Kk c 0 zQ H9) λH10 bv=>?_;have w:=ak.call bv;have bw:=w.blk 0 rfl;refine E_ ?_;refine lT (bw.cellE rfl) ?_;have am:=w.view 2 rfl;refine I2 (i:=i) WQ am rfl C rfl ?_;rintro da db dc bx M rfl;refine lN (cs:=r_ x) M ?_;have bz:∀k,S k->k<H10.size:=λk D=>w.up (Z k D);refine Af (AfS (S:=S) bz (ay.frame (w.old.mono Z)) bu) λH11 c2=>?_;have N:=w.call c2;replace N:St H H11 (MF xb mb W X most F' [pN (xR zF) Sx 181 na i nc (rows.map Bw),pS Cu 4 ba i bc ((F.take i).map λx=>ends (AL a x.1) (AL b x.2)),pS zF 3 ra row.length rc (Bw row)]):=N.pick [0,1,2,3,4,5] zQ;have q:((Bv cs).take (j+1)).foldl (Cs most (BV a b) x) (zY (F,[]))=(M' most F' (BV a b x (AI c 0).1)).map λr=>(r.1,row++[r.2]):=by{rw[Aj d8,wE,K];rfl};refine gR N (b5 _ (b6 x _ bp)).ok hm J (λF2 t c3 c4 H12 g O=>?_) (λH12 g O=>?_);{
 have⟨de,dt⟩:=aL g J;rw[g]at q;refine Az AQ [B_ t] rfl rfl zQ zQ ?_;intro df H13 P c5 Q E;refine Ip (x:=(t:Int)) (O.skip P E) 5 AQ rfl Q ⟨rfl,JB ⟨zO,zO⟩⟩ rfl (by unfold Bw;rw[d_];omega) zQ λao ap H14 d _=>?_;have e1:(Bw row).length+1=(row++[t]).length:=by unfold Bw;simp
 have e2:Bw row++[(t:Int)]=Bw (row++[t]):=by unfold Bw;simp
 rw[e1,e2]at d;rw[e1];(conv=>whnf);rw[S_ j zO];exact⟨rfl,(j+1,F2,row++[t],ao,ap),zZ,⟨zO,de,λy hy=>(K2 g y hy).elim (a9 y) λe=>by rw[e];exact b6 x _ bp,B.trans (by
  unfold M' at g;split at g
  ·injection g with h;injection h with A h2;subst A;exact sM _
  ·split at g
   ·injection g with h;injection h with A h2;subst A;exact List.prefix_append _ _
   ·cases g),by simp[ai],q,c3,c4,d⟩,by simp only;omega⟩};{rw[g]at q;have aq:(Bv cs).foldl (Cs most (BV a b) x) (zY (F,[]))=zV:=by{have h3:=(List.take_append_drop (j+1) (Bv cs)).symm;rw[h3,wE,q];exact Fu x _};have R:DZ most (BV a b) (Bv cs) l0=zV:=Px (n:=i) (by rw[p,aq];rfl) zO;(conv=>whnf);refine⟨O.old,?_⟩;rw[R]}};{obtain rfl:j=cs.length:=zO;have au:(Bv cs).foldl (Cs most (BV a b) x) (zY (F,[]))=zY (F',row):=by{rw[<-K,tU (by unfold Bv;rw[d_];exact I_ _)]};rw[au]at p;simp only[wB]at p;have C:=EA B z;have dg:(Bw row).length=row.length:=by{unfold Bw;rw[d_]};have I:(rows.map Bw).length=i:=by{rw[d_];exact ad};have c6:((F'.take (i+1)).map λx=>ends (AL a x.1) (AL b x.2))=((F.take i).map λx=>ends (AL a x.1) (AL b x.2))++[ends (AL a x.1) (AL b x.2)]:=by{obtain⟨t,rfl⟩:=B;rw[List.take_append_of_le_length zO,Aj z,xV];rfl};have U:((F.take i).map λx=>ends (AL a x.1) (AL b x.2)).length=i:=by{rw[d_,vL];omega};obtain⟨du,dv,er,aw,-⟩:=(L.at_ 5 rfl).1.view (S':=R_ (.slice ra row.length rc)) (λb hb=>hb) (λb hb=>hb.elim);injection er with er1 er2 er3;subst er1;subst er3;have aj:St H H7 (pN (xR zF) (λk=>Sx k\/R_ (.slice ra row.length rc) k) 181 na i nc (rows.map Bw)::[pB oO xb (sU mb (.slice W F'.length X) most),yZ Gn z' mb (Xz F'),pS tLp 308 W F'.length X F',pS Cu 4 ba i bc ((F.take i).map λx=>ends (AL a x.1) (AL b x.2))]):=D_.absorb (L.pick [3,5,0,1,2,4] zQ);refine Az CS [.slice ra row.length rc] rfl rfl zQ zQ ?_;intro df H13 P c5 Q E;have c7:=aj.skip P E;have Y:c_ zF (λk=>Sx k\/R_ (.slice ra row.length rc) k) H13 ra rc (Bw row):=(aw.frame (E.mono λk D=>by{have:=(L.in_ 5 rfl (.inl D)).2;omega})).mono λk D=>.inr D;refine gK (row:=Bw row) c7 CS (Q.cells λj v hv=>by rw[N_];exact hv) ⟨ra,rc,by rw[dg],Y⟩ rfl (λu hu=>by cases Q_.1 hu;rfl) (by rw[I];omega) zQ λao ap H14 d=>?_;rw[I]at d ⊢;have c8:=d.blk 1 rfl;refine E_ ?_;refine C_ (c8.cellE rfl) zA (I2 (i:=i) WQ (d.view 3 rfl) rfl C rfl ?_);rintro da db dc bx M rfl;refine lN (cs:=r_ x) M ?_;have c9:∀k,S k->k<H14.size:=λk D=>d.up (Z k D);refine Af (Zt (S:=S) c9 (ay.frame (d.old.mono Z)) az (cj.eq (d.old pf (Z pf az))) hf) λH15 cd=>?_;have ce:=d.call cd;refine Az DT [.bool (ends (AL a x.1) (AL b x.2))] rfl rfl zQ zQ ?_;intro dw H16 cg dk ch ci;refine Ip (x:=ends (AL a x.1) (AL b x.2)) (ce.skip cg ci) 4 DT rfl ch rfl rfl (by rw[U];omega) zQ λdh di H17 V _=>?_;rw[U,<-c6]at V;rw[U];(conv=>whnf);rw[S_ i zO];refine⟨rfl,(i+1,F',rows++[row],ao,ap,dh,di),zZ,⟨?_,J,a9,by simp[ad],p,(λk=>Sx k\/R_ (.slice ra row.length rc) k),W,X,?_⟩,by simp only;omega⟩;{have:=(P_.1 C).1;omega};{have e5:rows.map Bw++[Bw row]=(rows++[row]).map Bw:=zZ;rw[e5]at V;exact V.pick [1,2,3,0,4] zQ}}}};{obtain rfl:i=F.length:=zO;rw[List.take_length]at m;have I:(rows.map Bw).length=F.length:=by{rw[d_];exact ad};have R:=Pw a8 rfl bn;have ab:=ZX ca na ba cc nc bc cs (rows.map Bw) (F.map λx=>ends (AL a x.1) (AL b x.2)) (F_ H4) H4 (λk D=>D) ((b0.frame (m.old.mono Z)).mono λk D=>m.up (Z k D)) (m.view 3 rfl) (m.view 4 rfl);rw[I,d_]at ab;refine An.mk ab ?_;rintro v H6 ⟨ae,bq,dj⟩;have ah:=m.call ae;(conv=>whnf);refine⟨ah.old,?_⟩;rw[R];exact⟨v,rfl,dj.mono λk D=>⟨Nat.le_trans (Ay m.old) D.1,D.2⟩⟩}}};{rw[a0]at A;cases A}
def AhJ(a b:Option AM)(ends:Bool->Bool->Bool)(F:List (Int×Int))(p:Option AM):Prop:=Cc p/\Y2 (BV a b) (λx:Int×Int=>ends (AL a x.1) (AL b x.2)) F (Ao p) (AL p)/\stN p=F.length
def Ma(a b:Option AM)(ends:Bool->Bool->Bool)(m:Int)(H H':Aa)(r:v_):Prop:=if m<1\/4096<m then r= .tuple #[.pointer zV,B_ 2]else
 match jS a b m.toNat with
 | none=>r= .tuple #[.pointer zV,B_ 40]
 | some F=>∃v A,r= .tuple #[v,B_ 0]/\AS (λk=>H.size<=k/\k<H'.size) H' v (zY A)/\AhJ a b ends F (zY A)
def Sh{v:v_}{o:Option AM}(h:AS S H v o):v.cells=[v].toArray:=by cases o with|none=>obtain rfl:=h;rfl|some A=>obtain⟨p,rfl,-⟩:=h;rfl
def PP{a:Option AM}{ends:Bool->Bool->Bool}(hS:∀k,S k->k<H.size)(w:AS S H va a)(A:AS S H vb b)(ha:Cc a)(X:Cc b)(hf:∀(G:Aa) (x y:Bool),AT prog f #[.bool x,.bool y] G (.bool (ends x y))):Am prog 164 #[va,vb,B_ m,.func (.func f) #[] #[]] H λr H'=>A_ (F_ H) H H'/\Ma a b ends m H H' r:=by
 have sa:=ha.steps;have sb:=X.steps;have am:=F1 w;have ao:=F1 A;have Y:0<(Au b).length:=by{have⟨ls,h⟩:=X.ok;exact Lv h};refine Am.of_vc func164 rfl (call164 _) (Ec (St.nil H) [va] (Sh w) λpa H1 st1=>(Ec st1 [vb] (Sh A) λpb H2 Z=>(Ec Z [.func (.func f) #[] #[]] rfl λpf H3 c=>?_)));unfold Ma;by_cases J:m<1;{have V:zT (m<1)=zW:=a_ J;(conv=>whnf);rw[V];(conv=>whnf);exact⟨c.old,by rw[H_ (.inl J)]⟩};have V:zT (m<1)=zU:=b_ J;by_cases K:4096<m;{have d2:zT (m>4096)=zW:=a_ K;(conv=>whnf);rw[V];(conv=>whnf);rw[d2];(conv=>whnf);exact⟨c.old,by rw[H_ (.inr K)]⟩};have d2:zT (m>4096)=zU:=b_ K;obtain⟨n,rfl⟩:=Int.eq_ofNat_of_zero_le (zO:0<=m);have L:1<=n:=zO;have a0:n<=4096:=zO;(conv=>whnf);rw[V];(conv=>whnf);rw[d2];have B:∀{G:Aa} {ps:List Pc},St H3 G ps->A_ S H G:=λst=>(c.old.trans (st.old.mono λk u=>Ak c.old u)).mono hS;have M:∀{G:Aa} {ps:List Pc},St H3 G ps->∀k,S k->k<G.size:=λst k u=>Ak st.old (c.up (hS k u));have N:=St.nil H3;refine Ap.heldZ (F_ H3) [] (sq [0,2] (.f 1 (.f 3 (.f 4 (.f 5 (.f 6 .e)))))) rfl zX (C_ ((c.blk 0 rfl).cellE rfl) (c.blk 0 rfl).lt (C_ ((c.blk 1 rfl).cellE rfl) (c.blk 1 rfl).lt (An.mk (Jb (M N) (w.frame (B N))) ?_)));rintro _ G1 ⟨a8,-,a9⟩;obtain⟨aa,ac,rfl,C⟩:=N.got a8 a9;refine⟨C.old,?_⟩;refine An.mk (Jb (M C) (A.frame (B C))) ?_;rintro _ G2 ⟨ab,-,ad⟩;obtain⟨ba,bc,rfl,P⟩:=C.got ab ad;refine⟨P.old,?_⟩;refine YC P 0 1 Cj rfl rfl Y Js zO zQ λa3 c3 G3 D _=>(⟨D.old,?_⟩);obtain⟨sets,g⟩:∃sets,sets=Au a++Au b:=⟨_,rfl⟩;have Q:(Au a).length+(Au b).length=sets.length:=by rw[g,M_]
 rw[Q,<-g]at D;rw[Q];refine An.mk (Hl (S:=F_ G3) (λk u=>u) (D.view 0 rfl) zO) ?_;rintro _ G4 ⟨ae,a4,c4,rfl,h4⟩;have d:=D.call ae;refine⟨d.old,?_⟩;(conv=>whnf);refine⟨d.old,?_⟩;have ah:=reps_len sets;have q:=Al8 ha X;rw[<-g]at q;have b1:=(c.blk 0 rfl).agr d.old (c.blk 0 rfl).lt;have b2:=(c.blk 1 rfl).agr d.old (c.blk 1 rfl).lt;have b3:=(c.blk 2 rfl).agr d.old (c.blk 2 rfl).lt;have cl:∀{p t:Nat} {l:List v_},L_ G4 p t l->AO G4 p 0 l:=λh=>h.cells λj v W=>by rw[N_];exact W
 have hold:∀k,S k->F_ G4 k:=λk u=>M d k u;have R:Ns (F_ G4) G4 pa pb va vb a b:=⟨b1.lt,b2.lt,cl b1,cl b2,(w.frame (B d)).mono hold,(A.frame (B d)).mono hold⟩;refine Ad underlying308 rfl (z' (0,0)) R1 (r_ (0,0)) rfl (An.mk (UE (S:=F_ G4) (l0:=(0,0)) (most:=n) (λk u=>u) R b3.lt (cl b3) hf h4 ah sa sb q.beg L a0) ?_);rintro r G5 ⟨ai,O⟩;have aj:=d.call ai;have I:A_ (F_ H) H G5:=c.old.trans (aj.old.mono λk u=>Ak c.old u);rw[show Bv (Bg sets)=BH sets from rfl]at O;have E:=q.detA L;have T:jS a b ((n:Int)).toNat=DH n (BV a b) (0,0):=by rw[zG];rfl
 cases hd:DZ n (BV a b) (BH sets) (0,0)with|none=>rw[hd]at O E;simp only at O;subst O;(conv=>whnf);refine⟨I,?_⟩;rw[G_ zO,T,<-E]<;>rfl|some z=>have⟨F,rows⟩:=z;rw[hd]at O E;obtain⟨v,rfl,W⟩:=O;have⟨U,hL,hN⟩:=AkV (fin:=λx:Int×Int=>ends (AL a x.1) (AL b x.2)) q L zO hd;rw[H_ U]at W;(conv=>whnf);refine⟨I,?_⟩;rw[G_ zO,T,<-E];have ap:=Ay c.old;have ak:=Ay d.old;exact⟨v,_,rfl,W.mono λk u=>⟨zO,u.2⟩,⟨Bg sets,rows.map Bw,F.map λx=>ends (AL a x.1) (AL b x.2),by{unfold DE;rw[d_,H_ U]}⟩,hL,hN⟩
def Sd(x y:Bool):Bool:=x&&y
def AeH(G:Aa)(x y:Bool):AT prog 165 #[.bool x,.bool y] G (.bool (Sd x y)):=by refine Am.of_vc func165 rfl (call165 _) ?_;cases x<;>((conv=>whnf);exact⟨rfl,A_.refl _ _⟩)
def Ae5(G:Aa)(x y:Bool):AT prog 166 #[.bool x,.bool y] G (.bool (Tb x y)):=by refine Am.of_vc func166 rfl (call166 _) ?_;cases x<;>((conv=>whnf);exact⟨rfl,A_.refl _ _⟩)
section
variable{a:Option AM}
def Mu{ends:Bool->Bool->Bool}{H':Aa}{r:v_}(h:Ma a b ends m H H' r):∃x y,r= .tuple #[x,y]:=by unfold Ma at h;split at h;{exact⟨_,_,h⟩};split at h;{exact⟨_,_,h⟩};obtain⟨v,A,h,-⟩:=h;exact⟨_,_,h⟩
def AeJ(g:∀k,S k->k<H.size)(c:AS S H va a)(d:AS S H vb b)(h:Cc a)(j:Cc b):Am prog 133 #[va,vb,B_ m] H λr H'=>A_ (F_ H) H H'/\Ma a b Sd m H H' r:=by refine Am.of_vc func133 rfl (call133 _) (An.mk (PP g c d h j AeH) ?_);rintro r H1 ⟨e,f⟩;obtain⟨x,y,rfl⟩:=Mu f;(conv=>whnf);exact⟨e,f⟩
def Ae6(g:∀k,S k->k<H.size)(c:AS S H va a)(d:AS S H vb b)(h:Cc a)(j:Cc b):Am prog 134 #[va,vb,B_ m] H λr H'=>A_ (F_ H) H H'/\Ma a b Tb m H H' r:=by refine Am.of_vc func134 rfl (call134 _) (An.mk (PP g c d h j Ae5) ?_);rintro r H1 ⟨e,f⟩;obtain⟨x,y,rfl⟩:=Mu f;(conv=>whnf);exact⟨e,f⟩
end
end
def L1{v:v_}{a:O_}{b:Int}(h:sZ S H v a)(m:b<1\/4096<b):AT prog 108 #[v,B_ b] H (.tuple #[.pointer zV,B_ 2]):=by refine Am.of_vc func108 rfl (call108 _) (Ru h λn q c r=>?_);subst c;intro p H1 k d e f;have st1:=(St.nil H).box k d e f;by_cases j:b<1;{have g:zT (b<(1:Int))=zW:=a_ j;(conv=>whnf);rw[g];(conv=>whnf);exact⟨rfl,st1.old⟩};have g:zT (b<(1:Int))=zU:=b_ j;have l:zT ((4096:Int)<b)=zW:=Y';(conv=>whnf);rw[g];(conv=>whnf);rw[l];(conv=>whnf);exact⟨rfl,st1.old⟩
section
attribute [local irreducible] Bh By AJ
noncomputable def Gu(a:O_)(b:Int):Except Int (List (List Int)):=if b<1\/4096<b then .error 2 else match JX a b.toNat with
 | none=>.error 40
 | some F=>.ok F
def Zd{a:O_}{b:Int}(h:b<1\/4096<b):Gu a b= .error 2:=by unfold Gu;rw[H_ h]
def VY{a:O_}{b:Nat}(c:1<=b)(d:b<=4096):Gu a (b:Int)=match JX a b with | none=>.error 40 | some F=>.ok F:=by unfold Gu;rw[G_ zO,zG]
def Ze{a:O_}{b:Int}(h:Gu a b= .error e):e≠0/\0<=e/\e<=40:=by unfold Gu at h;split at h;{injection h with h;omega};split at h;{injection h with h;omega};cases h
def QP{a:O_}{b:Int}{F:List (List Int)}(h:Gu a b= .ok F):∃m:Nat,b=(m:Int)/\1<=m/\m<=4096/\JX a m=zY F:=by unfold Gu at h;split at h;{cases h};rename_i d;refine⟨b.toNat,zO,zO,zO,?_⟩;split at h;{cases h};rename_i F' c;injection h with h;rw[c,h]
end
variable{d:PA}{g V:Nat->Nat×Except Int PA}{r:ReM}
section
attribute [local irreducible] Bh By AJ DH
section
variable{K:Type} [DecidableEq K]{step:K->Nat->K}{fin:K->Bool}{F:List K}
def uM(step:K->Nat->K)(fin:K->Bool)(F:List K):PA:=⟨F.length,λq b=>((F[q]?).bind λx=>F.findIdx? (·=step x b)).getD 0,λq=>((F[q]?).map fin).getD zU⟩
structure Pn(step:K->Nat->K)(F:List K):Prop where
 nd:F.Nodup
 pos:1<=F.length
 cl:∀x∈F,∀b,b<256->step x b∈F
omit [DecidableEq K]in
def cI{F:List K}(a:F.Nodup){t u:Nat}{x:K}(f:F[t]?=zY x)(g:F[u]?=zY x):t=u:=by have⟨b,c⟩:=P_.1 f;have⟨d,e⟩:=P_.1 g;rcases pH t u with h | h | h;{exact absurd (c.trans e.symm) (xT.1 a t u b d h)};{exact h};exact absurd (e.trans c.symm) (xT.1 a u t d b h)
def S3{x:K}(h:x∈F):∃i,F.findIdx? (·=x)=zY i/\F[i]?=zY x:=by cases a:F.findIdx? (·=x)with|none=>rw[qA]at a;have:=a x h;simp at this|some i=>obtain⟨b,c,-⟩:=uT.1 a;exact⟨i,rfl,by rw[zH b];simpa using c⟩
def iN(h:Pn step F){q b:Nat}{x:K}(a:F[q]?=zY x)(c:b<256):F[(uM step fin F).st q b]?=zY (step x b):=by have⟨i,d,f⟩:=S3 (h.cl x (Y_ a) b c);have e:(uM step fin F).st q b=i:=by{show((F[q]?).bind λx=>F.findIdx? (·=step x b)).getD 0=i;rw[a];show(F.findIdx? (·=step x b)).getD 0=i;rw[d];rfl};rw[e];exact f
def Aj8{q:Nat}{x:K}(a:F[q]?=zY x):(uM step fin F).fi q=fin x:=by show((F[q]?).map fin).getD zU=fin x;rw[a];rfl
def iM(h:Pn step F):(uM step fin F).Ok:=⟨h.pos,λq b a c=>by
 have⟨x,d⟩:=Ai (l:=F) (k:=q) a;exact(P_.1 (iN (fin:=fin) h d c)).1⟩
def Np{most:Nat}{start:K}(c:1<=most)(h:DH most step start=zY F):Pn step F/\F[0]?=zY start/\F.length<=most:=by have⟨m,n,p,r⟩:=Iu c h;refine⟨⟨p,m,?_⟩,r,n⟩;unfold DH at h;cases hd:DZ most step (ApS 256) start with|none=>rw[hd]at h;cases h|some z=>have⟨G,rows⟩:=z;rw[hd]at h;simp only[wB,Option.some.injEq]at h;subst h;have d:=IE c G.length G rows (KA c hd) λj u=>u;intro x w b f;have⟨q,g⟩:=xB w;have⟨row,a⟩:=Ai (l:=rows) (k:=q) (by rw[d.rl];exact(P_.1 g).1);have e:=d.cols row (Y_ a);have⟨t,y⟩:=Ai (l:=row) (k:=b) (by rw[e];simpa using f);exact Y_ (d.ok q b row b t x a (tD f) y g)
def SC{K':Type}{step':K'->Nat->K'}{fin':K'->Bool}{f:K->K'}(h:Pn step F)(c:∀x∈F,∀y∈F,f x=f y->x=y)(g:∀x∈F,∀b,b<256->step' (f x) b=f (step x b))(j:∀x∈F,fin' (f x)=fin x){s1:Int->Nat->Int}{f1:Int->Bool}(m:∀(q b:Nat) (x:K'),(F.map f)[q]?=zY x->b<256->∃t:Nat,s1 (q:Int) b=(t:Int)/\(F.map f)[t]?=zY (step' x b)) (n:∀(q:Nat) (x:K'),(F.map f)[q]?=zY x->f1 (q:Int)=fin' x):(∀q b:Nat,q<F.length->b<256->s1 (q:Int) b=((uM step fin F).st q b:Int))/\∀q:Nat,q<F.length->f1 (q:Int)=(uM step fin F).fi q:=by constructor;{intro q b p e;have⟨x,a⟩:=Ai (l:=F) (k:=q) p;have d:=Y_ a;have⟨t,w,e2⟩:=m q b (f x) (by rw[I',a];rfl) e;rw[I']at e2;have⟨y,r,u⟩:=Option.map_eq_some_iff.1 e2;rw[g x d b e]at u;have z:y=step x b:=c y (Y_ r) _ (h.cl x d b e) u;rw[z]at r;rw[w,cI h.nd r (iN (fin:=fin) h a e)]};intro q p;have⟨x,a⟩:=Ai (l:=F) (k:=q) p;rw[n q (f x) (by rw[I',a];rfl),j x (Y_ a),Aj8 a]
end
structure J6(o:Option AM)(d:PA):Prop where
 n:stN o=d.n
 st:∀q b:Nat,q<d.n->b<256->Ao o (q:Int) b=(d.st q b:Int)
 fi:∀q:Nat,q<d.n->AL o (q:Int)=d.fi q
noncomputable def F5(b:Int)(a:O_):Except Int PA:=match Gu a b with
 | .error e=>.error e
 | .ok F=>.ok (uM (B0 a) (λX=>zT (a.fin∈X)) F)
def JK(d1 d2:PA)(x:Nat×Nat)(c:Nat):Nat×Nat:=if c<256 then(d1.st x.1 c,d2.st x.2 c)else x
def sE(d1 d2:PA)(m:Nat):Option (List (Nat×Nat)):=DH m (JK d1 d2) (0,0)
def mZ(ends:Bool->Bool->Bool)(d1 d2:PA)(x:Nat×Nat):Bool:=ends (d1.fi x.1) (d2.fi x.2)
def wI(b:Int)(ends:Bool->Bool->Bool)(d1 d2:PA):Except Int PA:=if b<1\/4096<b then .error 2 else match sE d1 d2 b.toNat with
 | none=>.error 40
 | some F=>.ok (uM (JK d1 d2) (mZ ends d1 d2) F)
noncomputable def ED(b:Int)(x:Nat×Except Int BR):Nat×Except Int PA:=Bm x λA s=>if 65536<A.u then(s,.error 40)else match F5 b ⟨A.u,A.p,A.q,A.es⟩with
 | .error e=>(s,.error e)
 | .ok d=>(max s d.n,.ok d)
noncomputable def D9(b:Int)(ends:Bool->Bool->Bool)(f g:Nat->Nat×Except Int PA)(s:Nat):Nat×Except Int O_:=Bm (f s) λd1 s1=>Bm (g s1) λd2 s2=>match wI b ends d1 d2 with
 | .error e=>(s2,.error e)
 | .ok d=>(max s2 d.n,.ok (Bo d))
noncomputable def Bi(b:Int):ReM->Nat->Nat->Nat×Except Int BR | .eps,n,s=>(s,.ok ⟨n,n+1,2,[Ba n (n+1)]⟩)| .cls t,n,s=>(s,.ok ⟨n,n+1,2,[Du n (n+1) t]⟩)| .cat x y,n,s=>Bm (Bi b x n s) λA s1=>Bm (Bi b y (n+A.u) s1) λC s2=>(s2,.ok (pW A C))| .alt x y,n,s=>Bm (Bi b x (n+1) s) λA s1=>Bm (Bi b y (n+1+A.u) s1) λC s2=>(s2,.ok (kW n A C))| .star x,n,s=>Bm (Bi b x (n+1) s) λA s1=>(s1,.ok (AmJ n A))| .and_ x y,n,s=>DV (D9 b Sd (λs=>ED b (Bi b x 0 s)) (λs=>ED b (Bi b y 0 s)) s) n | .minus x y,n,s=>DV (D9 b Tb (λs=>ED b (Bi b x 0 s)) (λs=>ED b (Bi b y 0 s)) s) n
noncomputable def MI(b:Int):ReM->Nat->Nat×Except Int O_ | .and_ x y,s=>D9 b Sd (λs=>ED b (Bi b x 0 s)) (λs=>ED b (Bi b y 0 s)) s | .minus x y,s=>D9 b Tb (λs=>ED b (Bi b x 0 s)) (λs=>ED b (Bi b y 0 s)) s | _,s=>(s,.error 2)
noncomputable def BN(b:Int)(r:ReM)(s:Nat):Nat×Except Int PA:=ED b (Bi b r 0 s)
def EM(b:Int):∀(r:ReM) (n s:Nat),Bi b r n s=Bs (MI b) r n s
 | .eps,n,s=>rfl
 | .cls t,n,s=>rfl
 | .cat x y,n,s=>by
   simp only[Bi,Bs];rw[EM b x n s]
   congr 1
   funext A s1;rw[EM b y _ s1];rfl
 | .alt x y,n,s=>by
   simp only[Bi,Bs];rw[EM b x _ s]
   congr 1
   funext A s1;rw[EM b y _ s1];rfl
 | .star x,n,s=>by
   simp only[Bi,Bs];rw[EM b x _ s];rfl
 | .and_ x y,n,s=>rfl
 | .minus x y,n,s=>rfl
def QQ{b:Int}{a:O_}(h:F5 b a= .ok d):∃F,Gu a b= .ok F/\d=uM (B0 a) (λX=>zT (a.fin∈X)) F/\Pn (B0 a) F/\F[0]?=zY (K5 a)/\d.Ok/\(d.n:Int)<=b/\d.n<=4096:=by unfold F5 at h;cases hd:Gu a b with|error e=>rw[hd]at h;cases h|ok F=>{rw[hd]at h;injection h with h;obtain⟨m,rfl,f,k,g⟩:=QP hd;have⟨c,j,l⟩:=Np f g;subst h;exact⟨F,rfl,rfl,c,j,iM c,by show(F.length:Int)<=(m:Int);omega,by show F.length<=4096;omega⟩}
def NG{b:Int}{a:O_}(h:F5 b a= .error e):Gu a b= .error e/\e≠0:=by unfold F5 at h;cases hd:Gu a b with|error c=>{rw[hd]at h;injection h with h;subst h;exact⟨rfl,(Ze hd).1⟩}|ok F=>rw[hd]at h;cases h
section
variable{b:Int}{ends:Bool->Bool->Bool}{a c:PA}
def Ou(h:wI b ends a c= .ok d):∃F,sE a c b.toNat=zY F/\d=uM (JK a c) (mZ ends a c) F/\Pn (JK a c) F/\F[0]?=zY (0,0)/\d.Ok/\(d.n:Int)<=b/\d.n<=4096/\1<=b/\b<=4096:=by unfold wI at h;split at h;{cases h};rename_i g;cases hd:sE a c b.toNat with|none=>rw[hd]at h;cases h|some F=>{rw[hd]at h;injection h with h;have⟨e,f,j⟩:=Np zO hd;subst h;exact⟨F,rfl,rfl,e,f,iM e,by show(F.length:Int)<=b;omega,by show F.length<=4096;omega,zO,zO⟩}
def R3(h:wI b ends a c= .error e):e=2\/e=40:=by unfold wI at h;split at h;{injection h with h;exact .inl h.symm};cases hd:sE a c b.toNat with|none=>{rw[hd]at h;injection h with h;exact .inr h.symm}|some F=>rw[hd]at h;cases h
end
def PA.edges_len(d:PA)(h:d.n<=4096):(d.edgesTo d.n).length<=16785408:=by
 have a:∀q k,(d.hopsTo q k).length<=k:=λq k=>by{unfold PA.hopsTo;have:=List.length_filterMap_le (λt=>if(d.use t&&(d.set q t != 0#256))=zW then zY (Du (d.place q) (d.place t) (d.set q t))else zV) (ApS k);rwa [qB]at this};have b:∀q,(d.endE q).length<=1:=λq=>by unfold PA.endE;split<;>simp
 have c:∀k,(d.edgesTo k).length<=k*4097:=λk=>by{induction k with|zero=>simp[PA.edgesTo]|succ k f=>have e:d.edgesTo (k+1)=d.edgesTo k++(if d.use k=zW then d.hopsTo k d.n++d.endE k else []):=by{unfold PA.edgesTo;rw[wS,List.flatMap_append];simp};rw[e,M_];have:=a k d.n;have:=b k;have:(if d.use k=zW then d.hopsTo k d.n++d.endE k else []).length<=4097:=by{split;{rw[M_];omega};simp};omega};have:=c d.n;omega
def PE(h:d.n<=4096):(Bo d).edges.length<=33554432:=by unfold Bo;split;{exact Nat.le_trans (PA.edges_len d h) zQ};simp
def AE{σ α β:Type}{x:σ×Except Int α}{f:α->σ->σ×Except Int β}{s:σ}(h:Bm x f=(s,.error e)):x=(s,.error e)\/∃b a,x=(b,.ok a)/\f a b=(s,.error e):=by have⟨b,r⟩:=x;cases r with|error c=>have h:((b,.error c):σ×Except Int β)=(s,.error e):=h;cases h;exact .inl rfl|ok a=>exact .inr ⟨b,a,rfl,h⟩
def OD{b:Int}{ends:Bool->Bool->Bool}{f:Nat->Nat×Except Int PA}{s:Nat}(h:D9 b ends f g s=(p,.ok N)):∃j a k c d,f s=(j,.ok a)/\g j=(k,.ok c)/\wI b ends a c= .ok d/\N=Bo d/\p=max k d.n:=by have⟨j,a,q,r⟩:=AZ h;have⟨k,c,t,l⟩:=AZ r;cases m:wI b ends a c with|error e=>simp only[m]at l;cases l|ok d=>simp only[m]at l;cases l;exact⟨j,a,k,c,d,q,t,m,rfl,rfl⟩
def Wh{b:Int}{x:Nat×Except Int BR}{g:Nat}(h:ED b x=(g,.ok d)):∃c A,x=(c,.ok A)/\A.u<=65536/\F5 b ⟨A.u,A.p,A.q,A.es⟩= .ok d/\g=max c d.n:=by have⟨c,A,j,a⟩:=AZ h;split at a;{cases a};rename_i k;cases f:F5 b ⟨A.u,A.p,A.q,A.es⟩with|error e=>simp only[f]at a;cases a|ok d=>simp only[f]at a;cases a;exact⟨c,A,j,zO,f,rfl⟩
def TJ(b:Int){ends:Bool->Bool->Bool}{f:Nat->Nat×Except Int PA}{s a:Nat}(c:∀s a e,f s=(a,.error e)->e≠0)(d:∀s a e,g s=(a,.error e)->e≠0)(h:DV (D9 b ends f g s) n=(a,.error e)):e≠0:=by rcases AE (show Bm _ _=_ from h)with h | ⟨j,N,-,h⟩;{rcases AE (show Bm _ _=_ from h)with h | ⟨j,l,-,h⟩;{exact c _ _ _ h};rcases AE h with h | ⟨m,p,-,h⟩;{exact d _ _ _ h};split at h;{rename_i k;cases h;rcases R3 k with h | h<;>omega};cases h};split at h;{cases h};cases h;decide
mutual
def Fs(b:Int):∀(r:ReM) (n s a:Nat) (e:Int),Bi b r n s=(a,.error e)->e≠0
 | .eps,n,s,a,e,h=>by cases h
 | .cls t,n,s,a,e,h=>by cases h
 | .cat x y,n,s,a,e,h=>by
   simp only[Bi]at h;rcases AE h with h | ⟨c,A,-,h⟩
   ·exact Fs b x _ _ _ _ h
   ·rcases AE h with h | ⟨d,C,-,h⟩
    ·exact Fs b y _ _ _ _ h
    ·cases h
 | .alt x y,n,s,a,e,h=>by
   simp only[Bi]at h;rcases AE h with h | ⟨c,A,-,h⟩
   ·exact Fs b x _ _ _ _ h
   ·rcases AE h with h | ⟨d,C,-,h⟩
    ·exact Fs b y _ _ _ _ h
    ·cases h
 | .star x,n,s,a,e,h=>by
   simp only[Bi]at h;rcases AE h with h | ⟨c,A,-,h⟩
   ·exact Fs b x _ _ _ _ h
   ·cases h
 | .and_ x y,n,s,a,e,h=>by
   simp only[Bi]at h;exact TJ b (λs a e=>Cp b x s a e) (λs a e=>Cp b y s a e) h
 | .minus x y,n,s,a,e,h=>by
   simp only[Bi]at h;exact TJ b (λs a e=>Cp b x s a e) (λs a e=>Cp b y s a e) h
def Cp(b:Int):∀(r:ReM) (s c:Nat) (e:Int),BN b r s=(c,.error e)->e≠0:=λr s c e h=>by
 rcases AE (show Bm _ _=_ from h)with h | ⟨f,A,-,h⟩
 ·exact Fs b r _ _ _ _ h
 ·split at h
  ·cases h;decide
  ·cases a:F5 b ⟨A.u,A.p,A.q,A.es⟩with
   | error e=>simp only[a]at h;cases h;exact(NG a).2
   | ok d=>simp only[a]at h;cases h
end
def OK(b:Int):Ue (MI b) 33554432:=by have j:∀{ends:Bool->Bool->Bool} {f g:Nat->Nat×Except Int PA} {s c:Nat} {N:O_},D9 b ends f g s=(c,.ok N)->N.edges.length<=33554432:=λh=>by{obtain⟨l,m,n,p,d,z,A,q,rfl,B⟩:=OD h;exact PE (Ou q).choose_spec.2.2.2.2.2.2.1};have k:∀{ends:Bool->Bool->Bool} {f g:Nat->Nat×Except Int PA} {s c:Nat} {e:Int},(∀s c e,f s=(c,.error e)->e≠0)->(∀s c e,g s=(c,.error e)->e≠0)->D9 b ends f g s=(c,.error e)->e≠0:=λt u h=>by{rcases AE h with h | ⟨l,m,-,h⟩;{exact t _ _ _ h};rcases AE h with h | ⟨n,p,-,h⟩;{exact u _ _ _ h};split at h;{rename_i w;cases h;rcases R3 w with h | h<;>omega};cases h};refine⟨λr s c a h=>?_,λr s c e h=>?_⟩;{cases r with|and_ x y=>exact j (show D9 b Sd (λs=>ED b (Bi b x 0 s)) (λs=>ED b (Bi b y 0 s)) _=_ from h)|minus x y=>exact j (show D9 b Tb (λs=>ED b (Bi b x 0 s)) (λs=>ED b (Bi b y 0 s)) _=_ from h)|_=>cases h};cases r with|and_ x y=>exact k (λs c e h=>Cp b x s c e h) (λs c e h=>Cp b y s c e h) (show D9 b Sd (λs=>ED b (Bi b x 0 s)) (λs=>ED b (Bi b y 0 s)) _=_ from h)|minus x y=>exact k (λs c e h=>Cp b x s c e h) (λs c e h=>Cp b y s c e h) (show D9 b Tb (λs=>ED b (Bi b x 0 s)) (λs=>ED b (Bi b y 0 s)) _=_ from h)|_=>cases h;decide
def Ls{b:Int}{s a:Nat}(h:BN b r s=(a,.ok d)):d.Ok/\(d.n:Int)<=b/\d.n<=4096:=by have⟨j,A,k,l,c,m⟩:=Wh h;obtain⟨F,-,-,-,-,e,f,g⟩:=QQ c;exact⟨e,f,g⟩
end
def vP(er:Int)(n:Nat)(v sub:v_):List v_:=[B_ n,B_ 0,B_ 0,v,sub,B_ er]
def KC(a:p<=4398046511104)(b:q<=4398046511104)(s:Bool)(t:BitVec 256):(U'.mk p q s t).Ok:=⟨CF zO,CF zO⟩
section
variable{B:Nat->Prop}{bb:Nat}
def CD{v sub:v_}{er:Int}{K:v_->Aa->Prop}(a:D_ B H0 H (pB uN bb (vP er n v sub)::ps))(d:n<=4398046511104)(k:∀H',D_ B H0 H' (pB uN bb (vP er (n+1) v sub)::ps)->K (.int .i64 (n:Int)) H'):An prog 160 #[J_ bb] H K:=by
 refine An.mk (R:=λr H'=>r= .int .i64 (n:Int)/\D_ B H0 H' (pB uN bb (vP er (n+1) v sub)::ps)) ?_ λr H' ⟨b,c⟩=>by rw[b];exact k H' c
 refine Am.of_vc func160 rfl (call160 _) (fa ?_);refine fa ?_;refine lT ((a.blk 0 rfl).cellE rfl) ?_;(conv=>whnf);rw[S_ n zO];refine fa ?_;refine fa ?_;refine Bc a 0 rfl (zQ:0<6) rfl λH1 st1=>(fa ?_);refine fa ?_;refine lT ((st1.blk 0 rfl).cellE rfl) ?_;(conv=>whnf);rw[m_ (x:=(n:Int)+1-1) zO,show(n:Int)+1-1=(n:Int) by omega];(conv=>whnf);exact⟨rfl,st1⟩
def BD{sub:v_}{er:Int}{K:v_->Aa->Prop}{a:Option Addr}(h:D_ B H0 H (pB uN bb (vP er n (.slice a es.length c) sub)::pS yB 277 a es.length c es::ps))(l:p<=4398046511104)(m:q<=4398046511104)(G:es.length+1<=1099511627776)(k:∀a' d H',D_ B H0 H' (pB uN bb (vP er n (.slice a' (es++[Ba p q]).length d) sub)::pS yB 277 a' (es++[Ba p q]).length d (es++[Ba p q])::ps)->K (.tuple #[]) H'):An prog 161 #[J_ bb,B_ p,B_ q] H K:=by
 refine An.mk (R:=λr H'=>r= .tuple #[]/\∃a' d,D_ B H0 H' (pB uN bb (vP er n (.slice a' (es++[Ba p q]).length d) sub)::pS yB 277 a' (es++[Ba p q]).length d (es++[Ba p q])::ps)) ?_ λr H' ⟨t,a',d,w⟩=>by rw[t];exact k a' d H' w
 refine Am.of_vc func161 rfl (call161 _) (fa ?_);refine fa ?_;refine C_ ((h.blk 0 rfl).cellE rfl) zA (Qb p q (Az EO (zN (Ba p q)) rfl rfl zQ zQ ?_));intro y H1 x z e f;have st1:=h.skip x f;refine JP (ys:=[Ba p q]) st1 1 EO rfl (e.cells (o:=0) (cs:=zN (Ba p q)) λj v A=>by rw[N_];exact A) (Ty.reps_one ⟨rfl,KC l m _ _⟩) rfl (λu C=>xJ.1 (Jf _) u C) (by unfold maxLen;simp;omega) (by simp;omega) λD E H9 g _=>?_;refine fa ?_;refine fa ?_;refine Bc g 0 rfl (zQ:3<6) rfl λH10 b=>?_;(conv=>whnf);have F:es.length+[Ba p q].length=(es++[Ba p q]).length:=zZ;rw[F]at b;exact⟨rfl,D,E,b⟩
def YN{sub:v_}{er:Int}{K:v_->Aa->Prop}{a:Option Addr}{s:BitVec 256}(M:D_ B H0 H (pB uN bb (vP er n (.slice a es.length c) sub)::pS yB 277 a es.length c es::ps))(X:n<=2199023255552)(Y:es.length+1<=1099511627776)(k:∀a' g H',D_ B H0 H' (pB uN bb (vP er (n+2) (.slice a' (es++[Du n (n+1) s]).length g) sub)::pS yB 277 a' (es++[Du n (n+1) s]).length g (es++[Du n (n+1) s])::ps)->K (.tuple #[B_ n,B_ ((n+1:Nat):Int)]) H'):An prog 162 #[J_ bb,AX s] H K:=by
 refine An.mk (R:=λr H'=>r= .tuple #[B_ n,B_ ((n+1:Nat):Int)]/\∃a' g,D_ B H0 H' (pB uN bb (vP er (n+2) (.slice a' (es++[Du n (n+1) s]).length g) sub)::pS yB 277 a' (es++[Du n (n+1) s]).length g (es++[Du n (n+1) s])::ps)) ?_ λr H' ⟨N,a',g,O⟩=>by rw[N];exact k a' g H' O
 refine Am.of_vc func162 rfl (call162 _) (BF (Ag s) rfl ?_);intro x H1 P t w z;have st1:=(M.box P t w z).perm (wP _ _);have A:D_ B H0 H1 (pB uN bb (vP er n (.slice a es.length c) sub)::pB 65 x (Ag s)::pS yB 277 a es.length c es::ps):=st1.perm (List.Perm.swap _ _ _);refine CD A zO λH3 C=>(CD C zO λH4 b=>?_);have q:=b.apart2 (i:=0) (j:=2) rfl rfl zQ;have l:=b.apart2 (i:=1) (j:=2) rfl rfl zQ;refine Ap.heldZ (λk=>k<H4.size/\¬R_ (.slice a es.length c) k) [15] (sq [0,1,2,3,4,5,6,7,8,9] (.f 10 (.f 11 (sq [12,13,14] (.f 15 .e))))) rfl zX ?_;have D:bb<H4.size/\¬R_ (.slice a es.length c) bb:=⟨(b.in_ 0 rfl rfl).2,λh=>q bb rfl (.inl h)⟩;have E:x<H4.size/\¬R_ (.slice a es.length c) x:=⟨(b.in_ 1 rfl rfl).2,λh=>l x rfl (.inl h)⟩;refine fa ?_;refine fa ?_;refine C_ ((b.blk 0 rfl).cellE rfl) D ?_;refine K_ (cs:=Ag s) ((b.blk 1 rfl).cells λj v F=>by rw[N_];exact F) E ?_;refine Qa n (n+1) s (Az EO (zN (Du n (n+1) s)) rfl rfl zQ zQ ?_);intro y H5 Q S G m;have I:=b.skip Q m;refine⟨m.mono λk p=>by have:=p.1;omega,?_⟩;refine JP (ys:=[Du n (n+1) s]) I 2 EO rfl (G.cells (o:=0) (cs:=zN (Du n (n+1) s)) λj v F=>by rw[N_];exact F) (Ty.reps_one ⟨rfl,KC zO zO _ _⟩) rfl (λu T=>xJ.1 (Jf _) u T) (by unfold maxLen;simp;omega) (by simp;omega) λU V H9 J L=>?_;refine⟨(m.mono λk p=>by have:=p.1;omega).trans (L.mono λk p=>⟨by have:=p.1;omega,p.2⟩),?_⟩;refine fa ?_;refine fa ?_;refine Bc J 0 rfl (zQ:3<6) rfl λH10 d=>?_;(conv=>whnf);have W:es.length+[Du n (n+1) s].length=(es++[Du n (n+1) s]).length:=zZ;rw[W]at d;exact⟨rfl,U,V,(d.perm (List.Perm.swap _ _ _)).sub (xK _ _)⟩
end
abbrev zM(bb:Nat)(er:Int)(n:Nat)(sub:v_)(a:Option Addr)(c:Nat)(es:List U')(rest:List Pc):List Pc:=pB uN bb (vP er n (.slice a es.length c) sub)::pS yB 277 a es.length c es::rest
def Rw:(prog.info? 71).bind (·.zero)=zY (.agg #[.nilIface,.nilIface]):=rfl
def W8:(prog.info? 72).bind (·.zero)=zY (.agg #[.nilIface,.nilIface]):=rfl
def AjM{t:x_}{d:TypeDesc}{f:Fn}{first:Array v_}(h:P.underlying t=zY d)(hd:∀w:y_,∀k:Nat,(Op.equalIn (k+1) t (.func f first cap) .nilFunc).run P w= .ok zU w)(w:y_):(Op.equal t (.func f first cap) .nilFunc).run P w= .ok zU w:=hd w 9999
def jB{t:x_}{c:v_}{d:TypeDesc}{f:Fn}{first:Array v_}(h:P.underlying t=zY d)(hd:∀w:y_,∀k:Nat,(Op.equalIn (k+1) t (.func f first cap) .nilFunc).run P w= .ok zU w)(k:K (.bool zU)):A8 P (do eqGuard .eql t x (.const c) (.func f first cap) .nilFunc;binOp .eql t (.func f first cap) .nilFunc) S H K:=by refine A8.mk _ (λw _=>?_) k;simp[eqGuard,binOp,AjM h hd]
def Ug{σ:Type}(B:Nat->Prop)(H0:Aa)(E:Nat)(ps:List Pc)(P:σ->List Pc)(x:σ×Except Int O_)(v:v_)(H':Aa):Prop:=match x.2 with
 | .ok a=>a.edges.length<=E/\a.Rng/\∃ea ec,v= .tuple #[.agg (yG a (.slice ea a.edges.length ec)).toArray,B_ 0]/\D_ B H0 H' (ps++P x.1++[pS yB 277 ea a.edges.length ec a.edges])
 | .error e=>∃l:List v_,v= .tuple #[.agg l.toArray,B_ e]/\l.length=4/\l.all (·.oneCell')=zW/\D_ B H0 H' (ps++P x.1)
def Y4{σ:Type}(B:Nat->Prop)(H0:Aa)(E:Nat)(bb n N:Nat)(es:List U')(sub:v_)(ps:List Pc)(P:σ->List Pc)(x:σ×Except Int BR)(v:v_)(H':Aa):Prop:=match x.2 with
 | .ok A=>∃a' c',v= .tuple #[B_ (A.p:Int),B_ (A.q:Int)]/\D_ B H0 H' (zM bb 0 (n+A.u) sub a' c' (es++A.es) (ps++P x.1))
 | .error e=>e≠0/\∃(p q n':Nat) (a':Option Addr) (c':Nat) (es':List U'),v= .tuple #[B_ p,B_ q]/\p<=n'/\q<=n'/\n<=n'/\n'<=n+65536*N/\es'.length<=es.length+(E+4)*N/\D_ B H0 H' (zM bb e n' sub a' c' es' (ps++P x.1))
def We{e:U'}{n:Int}:zN (xP n e)=if e.sil then [B_ (e.fr+n),B_ (e.to+n),.bool zW,.int .u64 0,.int .u64 0,.int .u64 0,.int .u64 0]else [B_ (e.fr+n),B_ (e.to+n),.bool zU]++Ag e.set:=by
 have h:∀i,wd 0#256 i=0:=λi=>by unfold wd;simp
 unfold xP zN;cases e.sil with|true=>simp[h]|false=>simp[Ag]
def AmI{σ:Type}{B:Nat->Prop}{P:σ->List Pc}{s:σ}{sub:ReM->σ->σ×Except Int O_}{E:Nat}(hE:Ue sub E)(c7:E<=33554432){bb:Nat}{N:Option Addr}{first:Array v_}
  (st:D_ B H0 H (zM bb 0 n (.func (.func f) first cap) N c es (ps++P s))) (hn:n<=1099511627776) (hl:es.length+E<=1099511627776)
  (aw:∀{ps':List Pc} {H':Aa},D_ B H0 H' (ps'++P s)->Am prog f (first.toList++[Al r]++cap.toList).toArray H' (Ug B H0 E ps' P (sub r s))):
  Am prog 163 #[J_ bb,Al r] H (Y4 B H0 E bb n 1 es (.func (.func f) first cap) ps P (DV (sub r s) n)):=by
 refine Am.of_vc func163 rfl (call163 _) (fa ?_);refine C_ ((st.blk 0 rfl).cellE rfl) zA (jB underlying228 (λw k=>by simp[Op.equalIn,run_underlying underlying228]) (fa ?_));refine lT ((st.blk 0 rfl).cellE rfl) ?_;have R:=aw (ps':=zM bb 0 n (.func (.func f) first cap) N c es ps) st;obtain⟨t,ab,hx⟩:∃t ab,sub r s=(t,ab):=⟨_,_,rfl⟩;rw[hx]at R ⊢;refine An.mk R ?_;rintro v H1 hv;cases ab with
 | error e=>
   have Q:=hE.err _ _ _ _ hx;obtain⟨l,rfl,ay,b8,st1⟩:=hv;replace st1:D_ B H0 H1 (zM bb 0 n (.func (.func f) first cap) N c es (ps++P t)):=st1;refine Aq _ [B_ 0,B_ 0,B_ 0,.slice zV 0 0] EZ rfl ?_;intro x H2 ad ae ah ai;have T:=(st1.box ad ae ah ai).perm (wP _ _);refine AB (cs:=l) T 0 (by rw[ay];rfl) rfl (by rw[ay];decide) b8 λH3 d=>?_;replace d:=d.sub (xK _ _);have d1:(e != 0)=zW:=bne_iff_ne.2 Q;(conv=>whnf);rw[d1];refine fa ?_;refine Bc d 0 rfl (zQ:5<6) rfl λH4 C=>?_;(conv=>whnf);exact⟨Q,0,0,n,N,c,es,rfl,zO,zO,zO,zO,zO,C⟩
 | ok a=>
   obtain⟨c8,I,g,m,rfl,st1⟩:=hv;have J:a.edges.length<=33554432:=zO
   replace st1:D_ B H0 H1 (pS yB 277 g a.edges.length m a.edges::zM bb 0 n (.func (.func f) first cap) N c es (ps++P t)):=D_.perm st1 (wP _ (zM bb 0 n (.func (.func f) first cap) N c es (ps++P t)));refine Aq _ [B_ 0,B_ 0,B_ 0,.slice zV 0 0] EZ rfl ?_;intro x H2 ad ae ah ai;have T:=(st1.box ad ae ah ai).perm (wP _ _);refine AB (cs:=yG a (.slice g a.edges.length m)) T 0 rfl rfl (I_ _) rfl λH3 d=>?_;rw[AA (show(yG a (.slice g a.edges.length m)).length=4 from rfl)]at d;replace d:D_ B H0 H3 (pB 225 x (yG a (.slice g a.edges.length m))::pS yB 277 g a.edges.length m a.edges::zM bb 0 n (.func (.func f) first cap) N c es (ps++P t)):=d;clear st1 T;have L:∀(G:Aa) (K:Aa->Prop),EW a=zU->D_ B H0 G (pB 225 x (yG a (.slice g a.edges.length m))::pS yB 277 g a.edges.length m a.edges::zM bb 0 n (.func (.func f) first cap) N c es (ps++P t))->
     (∀G',Y4 B H0 E bb n 1 es (.func (.func f) first cap) ps P (DV (t,.ok a) n) (.tuple #[B_ 0,B_ 0]) G'->K G')->BK prog (Instr.storeAt 22 (.pointer (zY ⟨bb,0+5,zV⟩)) (.int .i64 2)) G K:=λG K U D k=>
    Bc D 2 rfl (zQ:5<6) rfl λG' bd=>k G' (by
     have e1:DV (t,(.ok a:Except Int O_)) n=(t,.error 2):=by unfold DV Bm;simp[U]
     rw[e1];exact⟨zQ,0,0,n,N,c,es,rfl,zO,zO,zO,zO,zO,bd.sub (List.Sublist.cons _ (xK _ _))⟩)
   refine Jl I J (d.blk 0 rfl) zA (d.view 1 rfl) λv4 be=>(fa ?_);refine C_ ((d.blk 0 rfl).cellE rfl) zA (Af (Wm be) λH4 bf=>?_);have C:=d.call bf;cases hs:a.has a.start with
   | false=>
     have U:EW a=zU:=by unfold EW;simp[hs]
     refine fa ?_;refine L _ _ U C λG' hG=>?_;(conv=>whnf);exact hG
   | true=>
   refine Jl I J (C.blk 0 rfl) zA (C.view 1 rfl) λv5 bh=>(fa ?_);refine C_ ((C.blk 0 rfl).cellE rfl) zA (Af (Wm bh) λH5 bj=>?_);have V:=C.call bj;cases hf:a.has a.fin with
   | false=>
     have U:EW a=zU:=by unfold EW;simp[hf]
     refine fa ?_;refine L _ _ U V λG' hG=>?_;(conv=>whnf);exact hG
   | true=>
   refine fa ?_;refine lT ((V.blk 0 rfl).cellE rfl) ?_;(conv=>whnf);refine AD.mk [54] (λk:Nat=>[B_ k]) (λk G=>k<=a.edges.length/\(∀e∈a.edges.take k,a.has e.fr=zW/\a.has e.to=zW)/\D_ B H0 G (pB 225 x (yG a (.slice g a.edges.length m))::pS yB 277 g a.edges.length m a.edges::zM bb 0 n (.func (.func f) first cap) N c es (ps++P t))) (λk _=>a.edges.length-k) ?_ ?_
   ·(conv=>whnf);exact⟨0,rfl,V_ _,(λe Q=>by simp at Q),V⟩
   ·rintro k G az ⟨Z,F,D⟩;refine Av.m2 (λhz=>?_) (λhz=>?_)
    ·obtain⟨e,Q⟩:∃e,a.edges[k]?=zY e:=⟨_,zH zO⟩;have W:e∈a.edges:=Y_ Q;(conv=>whnf);try refine AC.run ?_
     refine xM (j:=k) (x:=e) EO D 1 rfl Q rfl λb9 o9 bn bo aj ak=>?_;obtain⟨rfl,bp⟩:=ak;refine K_ (cs:=zN e) aj zA (Aq _ [B_ 0,B_ 0,.bool zU,.int .u64 0,.int .u64 0,.int .u64 0,.int .u64 0] JZ rfl ?_);intro y G1 hy am ao ap;have X:=(D.box hy am ao ap).perm (wP _ _);refine AB (cs:=zN e) X 0 rfl rfl (I_ _) rfl λG2 b=>?_;rw[AA (show(zN e).length=7 from rfl)]at b;replace b:D_ B H0 G2 (pB 277 y (zN e)::pB 225 x (yG a (.slice g a.edges.length m))::pS yB 277 g a.edges.length m a.edges::zM bb 0 n (.func (.func f) first cap) N c es (ps++P t)):=b;(conv=>whnf);try refine AC.run ?_
     refine Jl I J (b.blk 1 rfl) zA (b.view 2 rfl) λv6 bq=>(fa ?_);refine C_ ((b.blk 0 rfl).cellE rfl) zA (Af (Wm bq) λG3 br=>?_);have A:=b.call br;have nw:a.has e.fr=zU\/a.has e.to=zU->EW a=zU:=λh=>by
      cases U:EW a with
      | false=>rfl
      | true=>
        have:=(FL.1 U).2.2 e W;rw[this.1,this.2]at h;rcases h with h | h<;>cases h
     cases h1:a.has e.fr with
     | false=>
       refine fa ?_;refine L _ _ (nw (.inl h1)) (A.sub (xK _ _)) λG' hG=>?_;(conv=>whnf);exact hG
     | true=>
     refine Jl I J (A.blk 1 rfl) zA (A.view 2 rfl) λv7 bu=>(fa ?_);refine C_ ((A.blk 0 rfl).cellE rfl) zA (Af (Wm bu) λG4 bv=>?_);have p:=A.call bv;cases h2:a.has e.to with
     | false=>
       refine fa ?_;refine L _ _ (nw (.inr h2)) (p.sub (xK _ _)) λG' hG=>?_;(conv=>whnf);exact hG
     | true=>
     (conv=>whnf);rw[S_ k zO];refine⟨rfl,k+1,rfl,⟨zO,λe' O=>?_,p.sub (xK _ _)⟩,zO⟩;rw[dQ,Q]at O;rcases n_.1 O with O | O
     ·exact F e' O
     ·rw[show e'=e by simpa using O];exact⟨h1,h2⟩
    ·obtain rfl:k=a.edges.length:=zO
     rw[tU (I_ _)]at F;have U:EW a=zW:=FL.2 ⟨hs,hf,F⟩;have cd:=O_.has_iff.1 hs;have ce:=O_.has_iff.1 hf;obtain⟨u,hu⟩:∃u:Nat,a.st=(u:Int):=⟨a.st.toNat,zO⟩;obtain⟨s0,b0⟩:∃u:Nat,a.start=(u:Int):=⟨a.start.toNat,zO⟩;obtain⟨f0,b4⟩:∃u:Nat,a.fin=(u:Int):=⟨a.fin.toNat,zO⟩;refine fa ?_;refine fa ?_;refine C_ ((D.blk 2 rfl).cellE rfl) zA (Ap.heldZ (λk=>k=bb\/k=x) [11] (sq [0,1,2,3,4,5,6,7,8,9,10] (.f 11 .e)) rfl zX (fa ?_));refine fa ?_;refine C_ ((D.blk 2 rfl).cellE rfl) (.inl rfl) (fa ?_);refine C_ (v:=B_ u) (by rw[(D.blk 0 rfl).cell,<-hu];rfl) (.inr rfl) ?_;(conv=>whnf);rw[m_ (x:=(n:Int)+(u:Int)) zO,show(n:Int)+(u:Int)=((n+u:Nat):Int) by omega];refine fa ?_;refine fa ?_;refine Bc D 2 rfl (zQ:0<6) rfl λH7 S=>?_;replace S:D_ B H0 H7 (pB 225 x (yG a (.slice g a.edges.length m))::pS yB 277 g a.edges.length m a.edges::zM bb 0 (n+u) (.func (.func f) first cap) N c es (ps++P t)):=S;clear d C V D;refine fa ?_;refine lT ((S.blk 0 rfl).cellE rfl) ?_;(conv=>whnf);refine AD.mk [93] (λk:Nat=>[B_ k]) (λk G=>k<=a.edges.length/\∃a' Y,D_ B H0 G (pB 225 x (yG a (.slice g a.edges.length m))::pS yB 277 g a.edges.length m a.edges::zM bb 0 (n+u) (.func (.func f) first cap) a' Y (es++(a.edges.take k).map (xP n)) (ps++P t))) (λk _=>a.edges.length-k) ?_ ?_
     ·(conv=>whnf);refine⟨0,rfl,V_ _,N,c,?_⟩;rw[List.take_zero,rJ,List.append_nil];exact S
     ·rintro k G az ⟨Z,a',Y,D⟩;clear S;refine Av.m2 (λhz=>?_) (λhz=>?_)
      ·obtain⟨e,Q⟩:∃e,a.edges[k]?=zY e:=⟨_,zH zO⟩;have W:e∈a.edges:=Y_ Q;have cg:=O_.has_iff.1 (F e W).1;have ch:=O_.has_iff.1 (F e W).2;have b5:(es++(a.edges.take k).map (xP n)).length=es.length+k:=by simp;omega
       refine xM (j:=k) (x:=e) EO D 1 rfl Q rfl λb9 o9 bn bo aj ak=>?_;obtain⟨rfl,bp⟩:=ak;refine K_ (cs:=zN e) aj zA (Aq _ [B_ 0,B_ 0,.bool zU,.int .u64 0,.int .u64 0,.int .u64 0,.int .u64 0] JZ rfl ?_);intro y G1 hy am ao ap;have X:=(D.box hy am ao ap).perm (wP _ _);refine AB (cs:=zN e) X 0 rfl rfl (I_ _) rfl λG2 b=>?_;rw[AA (show(zN e).length=7 from rfl)]at b;replace b:D_ B H0 G2 (pB 277 y (zN e)::pB 225 x (yG a (.slice g a.edges.length m))::pS yB 277 g a.edges.length m a.edges::zM bb 0 (n+u) (.func (.func f) first cap) a' Y (es++(a.edges.take k).map (xP n)) (ps++P t)):=b;refine fa ?_;refine lT ((b.blk 0 rfl).cellE rfl) ?_;(conv=>whnf);rw[m_ (x:=e.fr+(n:Int)) zO];refine fa ?_;refine Bc b 0 rfl (zQ:0<7) rfl λG3 A=>(fa ?_);refine lT ((A.blk 0 rfl).cellE rfl) ?_;(conv=>whnf);rw[m_ (x:=e.to+(n:Int)) zO];refine fa ?_;refine Bc A 0 rfl (zQ:1<7) rfl λG4 p=>?_;replace p:D_ B H0 G4 (pB 277 y ([B_ (e.fr+n),B_ (e.to+n),.bool e.sil]++Ag e.set)::pB 225 x (yG a (.slice g a.edges.length m))::pS yB 277 g a.edges.length m a.edges::zM bb 0 (n+u) (.func (.func f) first cap) a' Y (es++(a.edges.take k).map (xP n)) (ps++P t)):=p;(conv=>whnf);refine AC.cut (α:=Unit) [] (λ_=>[]) (λ_ G=>D_ B H0 G (pB 277 y (zN (xP n e))::pB 225 x (yG a (.slice g a.edges.length m))::pS yB 277 g a.edges.length m a.edges::zM bb 0 (n+u) (.func (.func f) first cap) a' Y (es++(a.edges.take k).map (xP n)) (ps++P t))) ?_ ?_
       ·refine fa ?_;refine lT ((p.blk 0 rfl).cellE rfl) ?_;cases M:e.sil with
        | true=>
          refine Em De (AX 0) rfl [.int .u64 0,.int .u64 0,.int .u64 0,.int .u64 0] rfl (fa ?_);refine AB (cs:=[.int .u64 0,.int .u64 0,.int .u64 0,.int .u64 0]) p 0 rfl rfl (by show 3+4<=7;decide) rfl λG5 q=>?_;(conv=>whnf);refine⟨rfl,(),rfl,?_⟩;rw[We,M,H_ rfl];rw[M]at q;exact q
        | false=>
          (conv=>whnf);refine⟨rfl,(),rfl,?_⟩;rw[We,M];rw[M]at p;exact p
       ·rintro⟨⟩ G5 bw q;clear D X b A p;have b6:=q.apart2 (i:=3) (j:=4) rfl rfl zQ;have aq:=q.apart2 (i:=0) (j:=4) rfl rfl zQ;have bx:bb<G5.size/\¬R_ (.slice a' (es++(a.edges.take k).map (xP n)).length Y) bb:=⟨(q.in_ 3 rfl rfl).2,λh=>b6 bb rfl (.inl h)⟩;have bz:y<G5.size/\¬R_ (.slice a' (es++(a.edges.take k).map (xP n)).length Y) y:=⟨(q.in_ 0 rfl rfl).2,λh=>aq y rfl (.inl h)⟩;refine Ap.heldZ (λk2=>k2<G5.size/\¬R_ (.slice a' (es++(a.edges.take k).map (xP n)).length Y) k2) [12] (sq [0,1,2,3,4,5,6] (.f 7 (.f 8 (sq [9,10,11] (.f 12 .e))))) rfl zX (fa ?_);refine fa ?_;refine C_ ((q.blk 3 rfl).cellE rfl) bx ?_;refine K_ (cs:=zN (xP n e)) ((q.blk 0 rfl).cells λj v hv=>by rw[N_];exact hv) bz ?_;refine Az EO (zN (xP n e)) rfl rfl zQ zQ ?_;intro z G6 c2 ci c3 au;have c4:=q.skip c2 au;refine⟨au.mono λk Z=>by have:=Z.1;omega,?_⟩;refine JP (ys:=[xP n e]) c4 4 EO rfl (c3.cells (o:=0) (cs:=zN (xP n e)) λj v hv=>by rw[N_];exact hv) (Ty.reps_one ⟨rfl,show(xP n e).Ok from⟨⟨by show(-9223372036854775808:Int)<=e.fr+(n:Int);omega,by show e.fr+(n:Int)<=(9223372036854775807:Int);omega⟩,⟨by show(-9223372036854775808:Int)<=e.to+(n:Int);omega,by show e.to+(n:Int)<=(9223372036854775807:Int);omega⟩⟩⟩) rfl (λu hu=>xJ.1 (Jf _) u hu) (by unfold maxLen;simp;omega) (by rw[b5];simp;omega) λa9 c9 G9 c5 c6=>?_;refine⟨(au.mono λk Z=>by have:=Z.1;omega).trans (c6.mono λk Z=>⟨by have:=Z.1;omega,Z.2⟩),?_⟩;refine fa ?_;refine fa ?_;refine Bc c5 3 rfl (zQ:3<6) rfl λG10 a8=>?_;have b7:(es++(a.edges.take k).map (xP n))++[xP n e]=es++(a.edges.take (k+1)).map (xP n):=by rw[dQ,Q];simp
        have el:(es++(a.edges.take k).map (xP n)).length+[xP n e].length=(es++(a.edges.take (k+1)).map (xP n)).length:=by rw[<-b7];simp;omega
        rw[el,b7]at a8;(conv=>whnf);rw[S_ k zO];exact⟨rfl,k+1,rfl,⟨zO,a9,c9,a8.sub (xK _ _)⟩,zO⟩
      ·obtain rfl:k=a.edges.length:=zO
       rw[tU (I_ _)]at D;refine Ap.lex rfl zX (fa ?_);refine C_ (v:=B_ s0) (by rw[(D.blk 0 rfl).cell,<-b0];rfl) zA ?_;(conv=>whnf);rw[m_ (x:=(s0:Int)+(n:Int)) zO];refine fa ?_;refine C_ (v:=B_ f0) (by rw[(D.blk 0 rfl).cell,<-b4];rfl) zA ?_;(conv=>whnf);rw[m_ (x:=(f0:Int)+(n:Int)) zO];(conv=>whnf);have e1:DV (t,(.ok a:Except Int O_)) n=(t,.ok ⟨n+s0,n+f0,u,a.edges.map (xP n)⟩):=by unfold DV Bm;simp[U,b0,b4,hu]
       rw[e1];exact⟨a',Y,by rw[show(s0:Int)+(n:Int)=((n+s0:Nat):Int) by omega,show(f0:Int)+(n:Int)=((n+f0:Nat):Int) by omega],D.sub (List.Sublist.cons _ (xK _ _))⟩
def On{B:Nat->Prop}{bb:Nat}{a:Option Addr}{er:Int}{b:v_}(e:er≠0)(d:D_ B H0 H (zM bb er n b a c es ps)):Am prog 132 #[J_ bb,Al r] H λv H'=>v= .tuple #[B_ ((0:Nat):Int),B_ ((0:Nat):Int)]/\D_ B H0 H' (zM bb er n b a c es ps):=by refine Am.of_vc func132 rfl (call132 _) (fa ?_);refine lT ((d.blk 0 rfl).cellE rfl) ?_;have f:(er != 0)=zW:=bne_iff_ne.2 e;(conv=>whnf);rw[f];(conv=>whnf);exact⟨rfl,d⟩
def Af4{σ:Type}{B:Nat->Prop}{P:σ->List Pc}{sub:ReM->σ->σ×Except Int O_}{E N:Nat}(hE:Ue sub E)(bd:E<=33554432){bb:Nat}{first:Array v_}(am:∀(r:ReM),NQ r=zW->r.nodes<=N->∀(s:σ) {ps':List Pc} {H':Aa},D_ B H0 H' (ps'++P s)->Am prog f (first.toList++[Al r]++cap.toList).toArray H' (Ug B H0 E ps' P (sub r s))):∀(r:ReM),r.nodes<=N->∀{H:Aa} {ps:List Pc} {n c:Nat} {a:Option Addr} {es:List U'} {s:σ} (R:D_ B H0 H (zM bb 0 n (.func (.func f) first cap) a c es (ps++P s))),n+65536*r.nodes<=1099511627776->es.length+(E+4)*r.nodes<=1099511627776->Am prog 132 #[J_ bb,Al r] H (Y4 B H0 E bb n r.nodes es (.func (.func f) first cap) ps P (Bs sub r n s)):=λr=>by
 induction r with
 | eps=>
   intro hN H ps n c a es s R hn hl;generalize g:Bs sub .eps n s=xF;refine Am.of_vc func132 rfl (call132 _) (fa ?_);refine lT ((R.blk 0 rfl).cellE rfl) ?_;simp only[ReM.nodes,wQ,yW]at hn hl hN;refine Bz underlying62 (by intro A h;cases h) ?_;refine Aq (.agg #[]) [] rfl rfl ?_;intro x H1 hx F G I;have st1:D_ B H0 H1 (pB 62 x []::zM bb 0 n (.func (.func f) first cap) a c es (ps++P s)):=(R.box hx F G I).perm (wP _ _);refine AB (cs:=[]) st1 0 rfl rfl (I_ _) rfl λH2 k=>?_;have D:D_ B H0 H2 (zM bb 0 n (.func (.func f) first cap) a c es (ps++P s)):=k.sub (xK _ _);refine CD D zO λH4 J=>(CD J zO λH5 be=>(BD be zO zO zO λa' c' H6 V=>?_));(conv=>whnf);subst g;exact⟨a',c',rfl,V⟩
 | cls t=>
   intro hN H ps n c a es s R hn hl;generalize g:Bs sub (.cls t) n s=xF;refine Am.of_vc func132 rfl (call132 _) (fa ?_);refine lT ((R.blk 0 rfl).cellE rfl) ?_;simp only[ReM.nodes,wQ,yW]at hn hl hN;refine Bp underlying62 (by intro A h;cases h) HB zQ ?_;refine Bz underlying67 (by intro A h;cases h) ?_;refine Aq _ [.int .u64 0,.int .u64 0,.int .u64 0,.int .u64 0] Fg rfl ?_;intro x H1 hx F G I;have st1:D_ B H0 H1 (pB 67 x [.int .u64 0,.int .u64 0,.int .u64 0,.int .u64 0]::zM bb 0 n (.func (.func f) first cap) a c es (ps++P s)):=(R.box hx F G I).perm (wP _ _);refine AB (cs:=Ag t) st1 0 rfl rfl (I_ _) rfl λH2 k=>?_;rw[AA (show(Ag t).length=4 from rfl)]at k;refine fa ?_;refine lN (cs:=Ag t) ((k.blk 0 rfl).cells λj v hv=>by simpa using hv) ?_;have D:D_ B H0 H2 (zM bb 0 n (.func (.func f) first cap) a c es (ps++P s)):=k.sub (xK _ _);refine YN D zO zO λa' c' H4 J=>?_;(conv=>whnf);subst g;exact⟨a',c',rfl,J⟩
 | cat e z Y ad=>
   intro hN H ps n c a es s R hn hl;generalize g:Bs sub (.cat e z) n s=xF;refine Am.of_vc func132 rfl (call132 _) (fa ?_);refine lT ((R.blk 0 rfl).cellE rfl) ?_;simp only[ReM.nodes,wQ,yW]at hn hl hN;refine Bp underlying62 (by intro A h;cases h) HB zQ ?_;refine Bp underlying67 (by intro A h;cases h) Fg zQ ?_;refine Bz underlying73 (by intro A h;cases h) ?_;refine Aq _ [.nilIface,.nilIface] Jm rfl ?_;intro x H1 hx F G I;have st1:D_ B H0 H1 (pB 73 x [.nilIface,.nilIface]::zM bb 0 n (.func (.func f) first cap) a c es (ps++P s)):=(R.box hx F G I).perm (wP _ _);refine AB (cs:=[Al e,Al z]) st1 0 rfl rfl (I_ _) (by simp[AV]) λH2 k=>?_;rw[AA (show([Al e,Al z]).length=([.nilIface,.nilIface]:List v_).length from rfl)]at k;have D:D_ B H0 H2 (zM bb 0 n (.func (.func f) first cap) a c es ((pB 73 x [Al e,Al z]::ps)++P s)):=k.pickN 3 [1,2,0] zQ;refine fa ?_;refine lT ((D.blk 2 rfl).cellE rfl) ?_;obtain⟨s4,x4,W⟩:∃s1 C,Bs sub e (n) s=(s1,C):=⟨_,_,rfl⟩;have Z:=Y zO (s:=s) D zO (by(try simp only[M_,U_,i_]);omega);rw[W]at Z;refine An.mk Z ?_;rintro v4 G4 a9;cases x4 with
   | error e4=>
     obtain⟨ae,p4,q4,n4,a4,c4,ah,rfl,ao,ap,aq,bf,au,w⟩:=a9;replace w:D_ B H0 G4 (zM bb e4 n4 (.func (.func f) first cap) a4 c4 ah ((pB 73 x [Al e,Al z]::ps)++P s4)):=w
     try simp only[M_,U_,i_]at au
     refine fa ?_;refine C_ ((w.blk 2 rfl).cellE rfl) zA (An.mk (On (r:=z) ae w) ?_);rintro _ G5 ⟨rfl,b⟩;refine BD b zO zO (by(try simp only[M_,U_,i_]);omega) λb6 d6 H6 V=>?_;(conv=>whnf);obtain rfl:xF=(s4,.error e4):=by rw[<-g];simp only[Bs];rw[C9 W]
     exact⟨ae,p4,0,n4,b6,d6,(ah++[Ba q4 0]),rfl,zO,zO,zO,by simp only[ReM.nodes];omega,by simp only[ReM.nodes,wQ,yW,M_,U_,i_];omega,V.pickN 3 [0,1] zQ⟩
   | ok A4=>
     obtain⟨a4,c4,rfl,w⟩:=a9;have bo:=CG hE _ _ _ _ _ W;replace w:D_ B H0 G4 (zM bb 0 (n+A4.u) (.func (.func f) first cap) a4 c4 (es++A4.es) ((pB 73 x [Al e,Al z]::ps)++P s4)):=w;refine fa ?_;refine lT ((w.blk 2 rfl).cellE rfl) ?_;obtain⟨X,x5,d⟩:∃s1 C,Bs sub z (n+A4.u) s4=(s1,C):=⟨_,_,rfl⟩;have S:=ad zO (s:=s4) w zO (by(try simp only[M_,U_,i_]);omega);rw[d]at S;refine An.mk S ?_;rintro v5 G5 T;cases x5 with
     | error e5=>
       obtain⟨a0,p5,q5,n5,a5,c5,a8,rfl,aw,ay,az,b0,ab,b⟩:=T;replace b:D_ B H0 G5 (zM bb e5 n5 (.func (.func f) first cap) a5 c5 a8 ((pB 73 x [Al e,Al z]::ps)++P X)):=b
       try simp only[M_,U_,i_]at ab
       refine BD b zO zO (by(try simp only[M_,U_,i_]);omega) λb6 d6 H6 V=>?_;(conv=>whnf);obtain rfl:xF=(X,.error e5):=by rw[<-g];simp only[Bs];rw[Cm W,C9 d]
       exact⟨a0,A4.p,q5,n5,b6,d6,(a8++[Ba A4.q p5]),rfl,zO,zO,zO,by simp only[ReM.nodes];omega,by simp only[ReM.nodes,wQ,yW,M_,U_,i_];omega,V.pickN 3 [0,1] zQ⟩
     | ok A5=>
       obtain⟨a5,c5,rfl,b⟩:=T;have b4:=CG hE _ _ _ _ _ d;replace b:D_ B H0 G5 (zM bb 0 (n+A4.u+A5.u) (.func (.func f) first cap) a5 c5 (es++A4.es++A5.es) ((pB 73 x [Al e,Al z]::ps)++P X)):=b;refine BD b zO zO (by(try simp only[M_,U_,i_]);omega) λb6 d6 H6 V=>?_;(conv=>whnf);obtain rfl:xF=(X,.ok ⟨A4.p,A5.q,A4.u+A5.u,A4.es++A5.es++[Ba A4.q A5.p]⟩):=by rw[<-g];simp only[Bs];rw[Cm W,Cm d]
       have y:=V.pickN 3 [0,1] zQ;rw[rT n A4.u A5.u]at y;have ee:es++A4.es++A5.es++[Ba A4.q A5.p]=es++(A4.es++A5.es++[Ba A4.q A5.p]):=zZ
       rw[ee]at y;exact⟨b6,d6,rfl,y⟩
 | alt e z Y ad=>
   intro hN H ps n c a es s R hn hl;generalize g:Bs sub (.alt e z) n s=xF;refine Am.of_vc func132 rfl (call132 _) (fa ?_);refine lT ((R.blk 0 rfl).cellE rfl) ?_;simp only[ReM.nodes,wQ,yW]at hn hl hN;refine Bp underlying62 (by intro A h;cases h) HB zQ ?_;refine Bp underlying67 (by intro A h;cases h) Fg zQ ?_;refine Bp underlying73 (by intro A h;cases h) Jm zQ ?_;refine Bz underlying70 (by intro A h;cases h) ?_;refine Aq _ [.nilIface,.nilIface] Nh rfl ?_;intro x H1 hx F G I;have st1:D_ B H0 H1 (pB 70 x [.nilIface,.nilIface]::zM bb 0 n (.func (.func f) first cap) a c es (ps++P s)):=(R.box hx F G I).perm (wP _ _);refine AB (cs:=[Al e,Al z]) st1 0 rfl rfl (I_ _) (by simp[AV]) λH2 k=>?_;rw[AA (show([Al e,Al z]).length=([.nilIface,.nilIface]:List v_).length from rfl)]at k;have D:D_ B H0 H2 (zM bb 0 n (.func (.func f) first cap) a c es ((pB 70 x [Al e,Al z]::ps)++P s)):=k.pickN 3 [1,2,0] zQ;refine CD D zO λH4 J=>(fa ?_);refine lT ((J.blk 2 rfl).cellE rfl) ?_;obtain⟨X,x5,d⟩:∃s1 C,Bs sub e (n+1) s=(s1,C):=⟨_,_,rfl⟩;have S:=Y zO (s:=s) J zO (by(try simp only[M_,U_,i_]);omega);rw[d]at S;refine An.mk S ?_;rintro v5 G5 T;cases x5 with
   | error e5=>
     obtain⟨a0,p5,q5,n5,a5,c5,a8,rfl,aw,ay,az,b0,ab,b⟩:=T;replace b:D_ B H0 G5 (zM bb e5 n5 (.func (.func f) first cap) a5 c5 a8 ((pB 70 x [Al e,Al z]::ps)++P X)):=b
     try simp only[M_,U_,i_]at ab
     refine fa ?_;refine C_ ((b.blk 2 rfl).cellE rfl) zA (An.mk (On (r:=z) a0 b) ?_);rintro _ G6 ⟨rfl,K⟩;refine CD K zO λH7 y=>?_;refine BD y zO zO (by(try simp only[M_,U_,i_]);omega) λb8 d8 H8 L=>?_;refine BD L zO zO (by(try simp only[M_,U_,i_]);omega) λb9 d9 H9 M=>?_;refine BD M zO zO (by(try simp only[M_,U_,i_]);omega) λai aj H10 l=>?_;refine BD l zO zO (by(try simp only[M_,U_,i_]);omega) λO Q H11 m=>?_;(conv=>whnf);obtain rfl:xF=(X,.error e5):=by rw[<-g];simp only[Bs];rw[C9 d]
     exact⟨a0,n,n5,(n5+1),O,Q,_,rfl,zO,zO,zO,by simp only[ReM.nodes];omega,by simp only[ReM.nodes,wQ,yW,M_,U_,i_];omega,m.pickN 3 [0,1] zQ⟩
   | ok A5=>
     obtain⟨a5,c5,rfl,b⟩:=T;have b4:=CG hE _ _ _ _ _ d;replace b:D_ B H0 G5 (zM bb 0 (n+1+A5.u) (.func (.func f) first cap) a5 c5 (es++A5.es) ((pB 70 x [Al e,Al z]::ps)++P X)):=b;refine fa ?_;refine lT ((b.blk 2 rfl).cellE rfl) ?_;obtain⟨s6,x6,ak⟩:∃s1 C,Bs sub z (n+1+A5.u) X=(s1,C):=⟨_,_,rfl⟩;have b5:=ad zO (s:=X) b zO (by(try simp only[M_,U_,i_]);omega);rw[ak]at b5;refine An.mk b5 ?_;rintro v6 G6 b7;cases x6 with
     | error e6=>
       obtain⟨bh,p6,q6,n6,a6,c6,bj,rfl,bp,bq,br,bu,bn,K⟩:=b7;replace K:D_ B H0 G6 (zM bb e6 n6 (.func (.func f) first cap) a6 c6 bj ((pB 70 x [Al e,Al z]::ps)++P s6)):=K
       try simp only[M_,U_,i_]at bn
       refine CD K zO λH7 y=>?_;refine BD y zO zO (by(try simp only[M_,U_,i_]);omega) λb8 d8 H8 L=>?_;refine BD L zO zO (by(try simp only[M_,U_,i_]);omega) λb9 d9 H9 M=>?_;refine BD M zO zO (by(try simp only[M_,U_,i_]);omega) λai aj H10 l=>?_;refine BD l zO zO (by(try simp only[M_,U_,i_]);omega) λO Q H11 m=>?_;(conv=>whnf);obtain rfl:xF=(s6,.error e6):=by rw[<-g];simp only[Bs];rw[Cm d,C9 ak]
       exact⟨bh,n,n6,(n6+1),O,Q,_,rfl,zO,zO,zO,by simp only[ReM.nodes];omega,by simp only[ReM.nodes,wQ,yW,M_,U_,i_];omega,m.pickN 3 [0,1] zQ⟩
     | ok A6=>
       obtain⟨a6,c6,rfl,K⟩:=b7;have bv:=CG hE _ _ _ _ _ ak;replace K:D_ B H0 G6 (zM bb 0 (n+1+A5.u+A6.u) (.func (.func f) first cap) a6 c6 (es++A5.es++A6.es) ((pB 70 x [Al e,Al z]::ps)++P s6)):=K;refine CD K zO λH7 y=>?_;refine BD y zO zO (by(try simp only[M_,U_,i_]);omega) λb8 d8 H8 L=>?_;refine BD L zO zO (by(try simp only[M_,U_,i_]);omega) λb9 d9 H9 M=>?_;refine BD M zO zO (by(try simp only[M_,U_,i_]);omega) λai aj H10 l=>?_;refine BD l zO zO (by(try simp only[M_,U_,i_]);omega) λO Q H11 m=>?_;(conv=>whnf);obtain rfl:xF=(s6,.ok ⟨n,n+1+A5.u+A6.u,A5.u+A6.u+2,A5.es++A6.es++[Ba n A5.p,Ba n A6.p,Ba A5.q (n+1+A5.u+A6.u),Ba A6.q (n+1+A5.u+A6.u)]⟩):=by rw[<-g];simp only[Bs];rw[Cm d,Cm ak]
       have U:=m.pickN 3 [0,1] zQ;have en:n+1+A5.u+A6.u+1=n+(A5.u+A6.u+2):=zO
       have ee:es++A5.es++A6.es++[Ba n A5.p]++[Ba n A6.p]++[Ba A5.q (n+1+A5.u+A6.u)]++[Ba A6.q (n+1+A5.u+A6.u)]=es++(A5.es++A6.es++[Ba n A5.p,Ba n A6.p,Ba A5.q (n+1+A5.u+A6.u),Ba A6.q (n+1+A5.u+A6.u)]):=zZ
       rw[en,ee]at U;exact⟨O,Q,rfl,U⟩
 | star e Y=>
   intro hN H ps n c a es s R hn hl;generalize g:Bs sub (.star e) n s=xF;refine Am.of_vc func132 rfl (call132 _) (fa ?_);refine lT ((R.blk 0 rfl).cellE rfl) ?_;simp only[ReM.nodes,wQ,yW]at hn hl hN;refine Bp underlying62 (by intro A h;cases h) HB zQ ?_;refine Bp underlying67 (by intro A h;cases h) Fg zQ ?_;refine Bp underlying73 (by intro A h;cases h) Jm zQ ?_;refine Bp underlying70 (by intro A h;cases h) Nh zQ ?_;refine Bz underlying75 (by intro A h;cases h) ?_;refine Aq _ [.nilIface] Ni rfl ?_;intro x H1 hx F G I;have st1:D_ B H0 H1 (pB 75 x [.nilIface]::zM bb 0 n (.func (.func f) first cap) a c es (ps++P s)):=(R.box hx F G I).perm (wP _ _);refine AB (cs:=[Al e]) st1 0 rfl rfl (I_ _) (by simp[AV]) λH2 k=>?_;rw[AA (show([Al e]).length=([.nilIface]:List v_).length from rfl)]at k;have D:D_ B H0 H2 (zM bb 0 n (.func (.func f) first cap) a c es ((pB 75 x [Al e]::ps)++P s)):=k.pickN 3 [1,2,0] zQ;refine CD D zO λH4 J=>(fa ?_);refine lT ((J.blk 2 rfl).cellE rfl) ?_;obtain⟨X,x5,d⟩:∃s1 C,Bs sub e (n+1) s=(s1,C):=⟨_,_,rfl⟩;have S:=Y zO (s:=s) J zO (by(try simp only[M_,U_,i_]);omega);rw[d]at S;refine An.mk S ?_;rintro v5 G5 T;cases x5 with
   | error e5=>
     obtain⟨a0,p5,q5,n5,a5,c5,a8,rfl,aw,ay,az,b0,ab,b⟩:=T;replace b:D_ B H0 G5 (zM bb e5 n5 (.func (.func f) first cap) a5 c5 a8 ((pB 75 x [Al e]::ps)++P X)):=b
     try simp only[M_,U_,i_]at ab
     refine CD b zO λH7 y=>?_;refine BD y zO zO (by(try simp only[M_,U_,i_]);omega) λb8 d8 H8 L=>?_;refine BD L zO zO (by(try simp only[M_,U_,i_]);omega) λb9 d9 H9 M=>?_;refine BD M zO zO (by(try simp only[M_,U_,i_]);omega) λai aj H10 l=>?_;refine BD l zO zO (by(try simp only[M_,U_,i_]);omega) λO Q H11 m=>?_;(conv=>whnf);obtain rfl:xF=(X,.error e5):=by rw[<-g];simp only[Bs];rw[C9 d]
     exact⟨a0,n,n5,(n5+1),O,Q,_,rfl,zO,zO,zO,by simp only[ReM.nodes];omega,by simp only[ReM.nodes,wQ,yW,M_,U_,i_];omega,m.pickN 3 [0,1] zQ⟩
   | ok A5=>
     obtain⟨a5,c5,rfl,b⟩:=T;have b4:=CG hE _ _ _ _ _ d;replace b:D_ B H0 G5 (zM bb 0 (n+1+A5.u) (.func (.func f) first cap) a5 c5 (es++A5.es) ((pB 75 x [Al e]::ps)++P X)):=b;refine CD b zO λH7 y=>?_;refine BD y zO zO (by(try simp only[M_,U_,i_]);omega) λb8 d8 H8 L=>?_;refine BD L zO zO (by(try simp only[M_,U_,i_]);omega) λb9 d9 H9 M=>?_;refine BD M zO zO (by(try simp only[M_,U_,i_]);omega) λai aj H10 l=>?_;refine BD l zO zO (by(try simp only[M_,U_,i_]);omega) λO Q H11 m=>?_;(conv=>whnf);obtain rfl:xF=(X,.ok ⟨n,n+1+A5.u,A5.u+2,A5.es++[Ba n A5.p,Ba n (n+1+A5.u),Ba A5.q A5.p,Ba A5.q (n+1+A5.u)]⟩):=by rw[<-g];simp only[Bs];rw[Cm d]
     have U:=m.pickN 3 [0,1] zQ;have en:n+1+A5.u+1=n+(A5.u+2):=zO
     have ee:es++A5.es++[Ba n A5.p]++[Ba n (n+1+A5.u)]++[Ba A5.q A5.p]++[Ba A5.q (n+1+A5.u)]=es++(A5.es++[Ba n A5.p,Ba n (n+1+A5.u),Ba A5.q A5.p,Ba A5.q (n+1+A5.u)]):=zZ
     rw[en,ee]at U;exact⟨O,Q,rfl,U⟩
 | _ e z Y ad=>
   first | (obtain⟨r0,h0⟩:∃r0,r0=ReM.and_ e z:=⟨_,rfl⟩;rw[<-h0]) | (obtain⟨r0,h0⟩:∃r0,r0=ReM.minus e z:=⟨_,rfl⟩;rw[<-h0])
   have h1:1<=r0.nodes:=by rw[h0];simp only[ReM.nodes];omega
   have hp:NQ r0=zW:=by rw[h0];rfl
   have h2:=Nat.mul_le_mul_left (E+4) h1;intro hN H ps n c a es s R hn hl;rw[show Bs sub r0 n s=DV (sub r0 s) n by rw[h0];rfl];obtain⟨v,hv⟩:∃v,v=Al r0:=⟨_,rfl⟩;rw[<-hv];rw[h0]at hv;subst hv;refine Am.of_vc func132 rfl (call132 _) (fa ?_);refine lT ((R.blk 0 rfl).cellE rfl) ?_;refine Bp underlying62 (by intro A h;cases h) HB zQ ?_;refine Bp underlying67 (by intro A h;cases h) Fg zQ ?_;refine Bp underlying73 (by intro A h;cases h) Jm zQ ?_;refine Bp underlying70 (by intro A h;cases h) Nh zQ ?_;refine Bp underlying75 (by intro A h;cases h) Ni zQ ?_;(conv=>whnf);first | refine Bz underlying71 (by intro A h;cases h) ?_ | refine Bp underlying71 (by intro A h;cases h) Rw zQ ?_
   (conv=>whnf);first | refine Bz underlying72 (by intro A h;cases h) ?_ | refine Bp underlying72 (by intro A h;cases h) W8 zQ ?_
   obtain⟨s4,x4,W⟩:∃s1 C,DV (sub r0 s) n=(s1,C):=⟨_,_,rfl⟩;have Z:=AmI (r:=r0) hE bd R zO zO (am r0 hp hN s);rw[W]at Z ⊢;rw[h0]at Z;refine An.mk Z ?_;rintro v4 G4 a9;cases x4 with
   | error e4=>
     obtain⟨ae,p4,q4,n4,a4,c4,ah,rfl,ao,ap,aq,bf,au,w⟩:=a9;(conv=>whnf);exact⟨ae,p4,q4,n4,a4,c4,ah,rfl,ao,ap,aq,zO,zO,w⟩
   | ok A4=>
     obtain⟨a4,c4,rfl,w⟩:=a9;(conv=>whnf);exact⟨a4,c4,rfl,w⟩
abbrev pe(x:v_):List PanicEntry:=[{v:=x,recovered:=zU}]
def VI(R E:v_->Aa->Prop):Ending->Aa->Prop | .returned v,H=>R v H | .panicked c,H=>∃x,c=pe x/\E x H | .outgrown,_=>False
def VI.mono{E:v_->Aa->Prop}{e:Ending}(h:VI R E e H)(a:∀v H,R v H->R' v H)(b:∀v H,E v H->E' v H):VI R' E' e H:=by cases e with|returned v=>exact a v H h|panicked c=>have⟨x,d,f⟩:=h;exact⟨x,d,b x H f⟩|outgrown=>exact h
def Aw(P:w_)(f:FuncId)(args:Array v_)(H:Aa)(R E:v_->Aa->Prop):Prop:=∀w:y_,w.heap=H->(callFunc f args).run P w= .ok (.enter f args) w/\Calls P f args w λe w'=>Z_ w w'/\VI R E e w'.heap
section
variable{a:Array v_}{E:v_->Aa->Prop}
def Aw.mono(h:Aw P f a H R E)(c:∀v H,R v H->R' v H)(d:∀v H,E v H->E' v H):Aw P f a H R' E':=λw b=>
 ⟨(h w b).1,(h w b).2.mono λe k ⟨g,j⟩=>⟨g,j.mono c d⟩⟩
def Am.pan(h:Am P f a H R):Aw P f a H R E:=λw b=>
 ⟨(h w b).1,(h w b).2.mono λe j ⟨v,c,d,g⟩=>by subst c;exact⟨d,g⟩⟩
end
structure Ab(P:w_)(f:FuncId)(args:Array v_)(H:Aa)(K E:v_->Aa->Prop):Prop where
 in_::
 out_:Aw P f args H K E
section
variable{a:Array v_}{K E:v_->Aa->Prop}
def Ab.mk(h:Aw P f a H R E')(k:∀v H',R v H'->K v H')(e:∀v H',E' v H'->E v H'):Ab P f a H K E:=⟨h.mono k e⟩
def Ab.of(h:An P f a H K):Ab P f a H K E:=⟨h.out_.pan⟩
end
structure AtX(ds:List Deferred)(fr:Fr)(a:Act):Prop where
 tmps:a.tmps.toList=fr
 defers:a.defers=ds
def AtX.at_{fr:Fr}(h:AtX [] fr a):At fr a:=⟨h.tmps,h.defers⟩
def AtX.bare{fr:Fr}(h:AtX ds fr a):At fr {tmps:=a.tmps,defers:=[]}:=⟨h.tmps,rfl⟩
def AtX.evalF{fr:Fr}(h:AtX ds fr a):a.eval=yI fr:=by rw[<-h.bare.evalF];funext x;cases x<;>rfl
def AtX.put{fr:Fr}(h:AtX ds fr a)(b:Option Tmp)(v:v_):AtX ds (match b with | none=>fr | some d=>fr.set d v) (a.put b v):=by obtain⟨rfl,c⟩:=h;cases b with|none=>exact⟨rfl,c⟩|some d=>exact⟨by simp[Act.put],c⟩
def nD{b:Option Tmp}{v c:v_}(h:({tmps:=a.tmps,defers:=[]}:Act).put b v=({tmps:=a.tmps,defers:=[]}:Act).put b c):a.put b v=a.put b c:=by cases b with|none=>rfl|some d=>have:=congrArg Act.tmps h;simp only[Act.put]at this ⊢;rw[this]
def Y3(P:w_)(o:Oper)(a:Act)(w:y_)(K E:v_->Aa->Prop):Prop:=∀Q:Exit->Act->y_->Prop,(∀x w',Z_ w w'->E x w'.heap->Q (.panic (pe x)) a w')->o.wp P a w (λa' w'=>∃v,a'=a.put o.dst v/\Z_ w w'/\K v w'.heap) Q
def Aj5{o:Oper}{K E:v_->Aa->Prop}(h:Ud P o {tmps:=a.tmps,defers:=[]} w K):Y3 P o a w K E:=by
 intro Q _;have b:=h (λe _ w=>Q e a w);unfold Oper.wp at b ⊢;have q:({tmps:=a.tmps,defers:=[]}:Act).eval=a.eval:=by funext x;cases x<;>rfl
 rw[q]at b;revert b;generalize (execOp a.eval o).run P w=r;intro b;cases r with|ok nx t=>{cases nx with|value v=>have⟨k,e,g,j⟩:=b;exact⟨k,nD e,g,j⟩|skip=>have⟨k,e,g,j⟩:=b;exact⟨k,nD e,g,j⟩|defer d=>have⟨k,e,g,j⟩:=b;have:=congrArg Act.defers e;cases l:o.dst<;>rw[l]at this<;>simp[Act.put]at this|enter f m=>{refine Calls.mono b ?_;intro e n g;cases e with|returned v=>have⟨k,e,j,p⟩:=g;exact⟨k,nD e,j,p⟩|panicked c=>exact g|outgrown=>obtain⟨_,w,j⟩:=g;exact⟨a,w,j⟩}|row row m=>refine Rows.mono b ?_;intro v n g;have⟨k,e,j,p⟩:=g;exact⟨k,nD e,j,p⟩|_=>exact b.elim}|halt s t=>{cases s<;>first | exact b | exact b.elim}
def YS(P:w_)(f:v_)(args:List v_)(H:Aa)(K E:v_->Aa->Prop):Prop:=match f with
 | .func (.func g) first cap=>Ab P g (first.toList++args++cap.toList).toArray H K E
 | _=>False
def Pg(P:w_)(o:Oper)(fr:Fr)(H:Aa)(K:v_->Aa->Prop)(E:Fr->v_->Aa->Prop):Prop:=match o.op with
 | .panic x=>N' fr x λv=>match v with
   | .iface t y=>E fr (.iface t y) H
   | _=>False
 | .call {callee:=.value f,args, .. }=>N' fr f λg=>Iy fr args.toList λvs=>YS P g vs H K (E fr)
 | _=>wH P zU (λ_=>True) o fr H K
def Ab.out{a:Array v_}{K E:v_->Aa->Prop}(h:Ab P f a H K E):Aw P f a H K E:=by exact h.out_
def DK{o:Oper}{fr:Fr}{K:v_->Aa->Prop}(j:AtX ds fr a)(h:Pg P o fr w.heap K E):Y3 P o a w K (E fr):=by
 unfold Pg at h;split at h;{rename_i x l;rw[Ix]at h;split at h;{rename_i t y m;intro Q n;have:(execOp a.eval o).run P w= .halt (.panic (.iface t y)) w:=by{rw[j.evalF];simp only[execOp,l,m];simp[Instr.panic,goPanic]};unfold Oper.wp;rw[this];exact n _ w (Z_.refl w) h};exact h.elim};{
 rename_i f b k l;simp only[Ix,Jg,<-rA]at h;unfold YS at h;split at h;{
 rename_i g first cap r
 intro Q n;have e:(first.toList++(ArL (yI fr) b).toList++cap.toList).toArray=first++ArL (yI fr) b++cap:=Array.ext' zZ
 have p:=h.out;rw[e]at p;have u:(execOp a.eval o).run P w=(callFunc g (first++ArL (yI fr) b++cap)).run P w:=by{rw[j.evalF];simp only[execOp,l,resolve,r,Deferred.ofValue];simp[invoke]};unfold Oper.wp;rw[u,(p w rfl).1];refine(p w rfl).2.mono ?_;intro e z ⟨d,q⟩;cases e with|returned v=>exact⟨v,rfl,d,q⟩|panicked c=>obtain⟨x,rfl,m⟩:=q;exact n x z d m|outgrown=>exact q.elim};exact h.elim};exact Aj5 (Cn j.bare h)
def QZ(P:w_)(o:Oper)(want:Bool)(t:Nat)(fr:Fr)(H:Aa)(K:Fr->Aa->Prop)(E:Fr->v_->Aa->Prop):Prop:=yJ fr t λv=>match v with
  | .bool b=>Av b
    (xS fr t (.bool zW) λfr1=>match want with
     | true=>Pg P o fr1 H (λv H'=>Cf o.dst fr1 v λfr'=>wT K fr' H') E
     | false=>Cf o.dst fr1 undef λfr'=>wT K fr' H)
    (xS fr t (.bool zU) λfr1=>match want with
     | false=>Pg P o fr1 H (λv H'=>Cf o.dst fr1 v λfr'=>wT K fr' H') E
     | true=>Cf o.dst fr1 undef λfr'=>wT K fr' H)
  | .tuple _=>Cf o.dst fr undef λfr'=>wT K fr' H
  | _=>False
def Ms(P:w_)(all:List Oper)(E:Fr->v_->Aa->Prop)(l:List Oper):Fr->Aa->(Fr->Aa->Prop)->Prop:=List.rec (motive:=λ_=>Fr->Aa->(Fr->Aa->Prop)->Prop) (λfr H K=>K fr H) (λo _ ih fr H K=>
  match o.guard with
  | none=>Pg P o fr H (λv H'=>Cf o.dst fr v λfr'=>ih fr' H' K) E
  | some (j,want)=>match(all[j]?).bind (·.dst)with
    | none=>False
    | some t=>QZ P o want t fr H (λfr' H'=>ih fr' H' K) E) l
def Vf(P:w_)(all rest:List Oper)(o:Oper)(E:Fr->v_->Aa->Prop)(fr:Fr)(H:Aa)(K:Fr->Aa->Prop):Ms P all E (o::rest) fr H K=(match o.guard with | none=>Pg P o fr H (λv H'=>Cf o.dst fr v λa=>Ms P all E rest a H' K) E | some (j,want)=>match(all[j]?).bind (·.dst)with | none=>False | some t=>QZ P o want t fr H (λa H'=>Ms P all E rest a H' K) E):=rfl
def OY{c:List Oper}{fr:Fr}(d:AtX ds fr a){t:Nat}(e:(c[j]?).bind (·.dst)=zY t){b:Bool}(f:rd fr t= .bool b):yielded c.toArray a.tmps j=zY b:=HR d.bare e f
def MA{b:List Oper}{fr:Fr}(c:AtX ds fr a){t:Nat}(d:(b[j]?).bind (·.dst)=zY t){vs:Array v_}(e:rd fr t= .tuple vs):yielded b.toArray a.tmps j=zV:=(HS c.bare d e:)
def I8{P:w_}{all:List Oper}{ds:List Deferred}{E:Fr->v_->Aa->Prop}{Q:Exit->Act->y_->Prop}{w0:y_}(n:∀x fr a' f,AtX ds fr a'->Z_ w0 f->E fr x f.heap->Q (.panic (pe x)) a' f):∀(l:List Oper) (fr:Fr) (a:Act) (w:y_) (K:Fr->Aa->Prop),AtX ds fr a->Z_ w0 w->
  (∀d a' f,AtX ds d a'->Z_ w0 f->K d f.heap->Q .normal a' f)->
  Ms P all E l fr w.heap K->wpList P all.toArray Q l a w
 | [],fr,a,w,K,hat,he,hq,h=>hq fr a w hat he h
 | o::l,fr,a,w,K,hat,he,hq,h=>by
   have go:∀(c:Bool),(c=zW->Y3 P o a w (λv H'=>Cf o.dst fr v λd=>Ms P all E l d H' K) (E fr))->
     (c=zU->Cf o.dst fr undef λd=>Ms P all E l d w.heap K)->
     Region.wanted o (yielded all.toArray a.tmps)=c->wpList P all.toArray Q (o::l) a w:=by
    intro c u y z;unfold wpList;rw[z];cases c with
    | true=>
      refine .inl (Oper.wp_mono ?_ (u rfl _ λx f e A=>n x fr a f hat (he.trans e) A));rintro a' f ⟨v,rfl,e,p⟩;rw[Bk]at p;exact I8 n l _ _ _ K (hat.put o.dst v) (he.trans e) hq p
    | false=>
      have q:=y rfl;rw[Bk]at q;exact I8 n l _ _ _ K (hat.put o.dst undef) he hq q
   rw[Vf]at h;split at h
   ·rename_i g;exact go zW (λ_=>DK hat h) (λh=>by cases h) (by simp[Region.wanted,g])
   ·rename_i j c g;split at h
    ·exact h.elim
    ·rename_i t r;unfold QZ at h;simp only[wT]at h;rw[Dm]at h;split at h
     ·rename_i b k;have m:=OY hat r k;have hs:fr.set t (.bool b)=fr:=DS k (by simp[undef]);cases b<;>cases c<;>simp only[Av,EX,hs]at h
      ·exact go zW (λ_=>DK hat h) (λh=>by cases h) (by simp[Region.wanted,g,m])
      ·exact go zU (λh=>by cases h) (λ_=>h) (by simp[Region.wanted,g,m])
      ·exact go zU (λh=>by cases h) (λ_=>h) (by simp[Region.wanted,g,m])
      ·exact go zW (λ_=>DK hat h) (λh=>by cases h) (by simp[Region.wanted,g,m])
     ·rename_i vs k;exact go zU (λh=>by cases h) (λ_=>h) (by simp[Region.wanted,g,MA hat r k])
     ·exact h.elim
def RV(E:Fr->v_->Aa->Prop)(l:List Oper):Prop:=∀o∈l,∀d,o.dst=zY d->∀fr v x H,E (fr.set d v) x H->E fr x H
def AG(E:v_->Aa->Prop)(l:List Oper):RV (λ_=>E) l:=λ_ _ _ _ _ _ _ _ h=>h
structure A7(P:w_)(ds:List Deferred)(l:List Oper)(fr:Fr)(H:Aa)(K:Fr->Aa->Prop)(E:Fr->v_->Aa->Prop):Prop where
 in_::
 out_:∀(id:Nat) (Q:Exit->Act->y_->Prop) (a:Act) (w:y_),AtX ds fr a->w.heap=H->(∀x fr a' w',AtX ds fr a'->Z_ w w'->E fr x w'.heap->Q (.panic (pe x)) a' w')->
  (RV E l->∀c,∀o∈l,∀v a w,Q (.panic c) (a.put o.dst v) w->Q (.panic c) a w)->
  (∀fr' a' w',AtX ds fr' a'->Z_ w w'->K fr' w'.heap->Q .normal a' w')->(Code.region id l.toArray zW).wp P Q a w
def A7.of{l:List Oper}{fr:Fr}{K:Fr->Aa->Prop}(h:Ap P l fr H K):A7 P [] l fr H K E:=by refine⟨λid Q a w b g _ _ j=>?_⟩;refine Code.wp_mono (Q:=λe a w=>Q e a w/\∀c,e≠ .panic c) (λe a w h=>h.1) ?_;exact h.out id _ a w b.at_ g (λc a w h=>h.2 c rfl) λd a' k f m n=>⟨j d a' k ⟨f.tmps,f.defers⟩ m n,λc=>zZ⟩
def pR(P:w_)(S:Nat->Prop)(Z:List Nat)(H0:Aa)(all:List Oper)(E:Fr->v_->Aa->Prop)(i:Nat)(fr:Fr)(H:Aa)(next:Fr->Aa->Prop):Prop:=match all[i]? with
 | none=>False
 | some o=>match o.guard with
   | some _=>False
   | none=>match Z.contains i with
     | true=>Pg P o fr H (λv H'=>Cf o.dst fr v λfr'=>next fr' H') E
     | false=>Pg P o fr H (λv H'=>A_ S H0 H'/\Cf o.dst fr v λfr'=>next fr' H') E
def Wn(P:w_)(S:Nat->Prop)(Z:List Nat)(H0:Aa)(all:List Oper)(E:Fr->v_->Aa->Prop)(s:Sch):Fr->Aa->(Fr->Aa->Prop)->Prop:=Sch.rec (motive:=λ_=>Fr->Aa->(Fr->Aa->Prop)->Prop) (λfr H K=>K fr H)
  (λi _ ih fr H K=>match all[i]? with
   | none=>False
   | some o=>match o.guard with
     | some _=>False
     | none=>match HV o&&DC P o with
       | true=>J7 P S o fr H λv=>Cf o.dst fr v λfr'=>ih fr' H K
       | false=>False)
  (λi _ ih fr H K=>pR P S Z H0 all E i fr H λfr' H'=>ih fr' H' K)
  (λi _ j _ ih ih' fr H K=>(pR P S Z H0 all E i fr H λfr' H'=>ih fr' H' K)/\pR P S Z H0 all E j fr H λfr' H'=>ih' fr' H' K) s
def AdW(P:w_)(S:Nat->Prop)(Z:List Nat)(H0:Aa)(all:List Oper)(E:Fr->v_->Aa->Prop)(i:Nat)(s:Sch)(fr:Fr)(H:Aa)(K:Fr->Aa->Prop):Wn P S Z H0 all E (.q i s) fr H K=(match all[i]? with | none=>False | some o=>match o.guard with | some _=>False | none=>match HV o&&DC P o with | true=>J7 P S o fr H λv=>Cf o.dst fr v λa=>Wn P S Z H0 all E s a H K | false=>False):=rfl
def IK{Z:List Nat}{w0:y_}{all:List Oper}{Q:Exit->Act->y_->Prop}(p:∀x fr a' c,AtX ds fr a'->Z_ w0 c->E fr x c.heap->Q (.panic (pe x)) a' c){i:Nat}{fr:Fr}{next:Fr->Aa->Prop}{N:Act->y_->Prop}(d:AtX ds fr a) (f:Z_ w0 w) (h:pR P S Z w0.heap all E i fr w.heap next)(q:∀g a' c,AtX ds g a'->Z_ w0 c->(Z.contains i=zU->yU w0 S c)->next g c.heap->N a' c):wpOp P all.toArray Q i N a w:=by
 unfold pR at h;split at h;{exact h.elim};rename_i o r;have m:all.toArray[i]?=zY o:=by simpa using r
 split at h;{exact h.elim};rename_i t;have e:Region.wanted o (yielded all.toArray a.tmps)=zW:=by simp[Region.wanted,t]
 unfold wpOp;rw[m];dsimp only;rw[H_ e];split at h;{rename_i u;refine .inl (Oper.wp_mono ?_ (DK d h _ λx c b n=>p x fr a c d (f.trans b) n));rintro a' c ⟨v,rfl,b,j⟩;rw[Bk]at j;exact q _ _ _ (d.put o.dst v) (f.trans b) (λk=>by rw[u]at k;cases k) j};refine .inl (Oper.wp_mono ?_ (DK d h _ λx c b n=>p x fr a c d (f.trans b) n));rintro a' c ⟨v,rfl,b,l,j⟩;rw[Bk]at j;exact q _ _ _ (d.put o.dst v) (f.trans b) (λ_=>⟨f.trans b,l⟩) j
def Vn(a:Act)(b:Option Tmp)(v:v_):(a.put b v).defers=a.defers:=by cases b<;>rfl
def EF{P:w_}{S:Nat->Prop}{Z:List Nat}{w0:y_}{all:List Oper}{ds:List Deferred}{E:Fr->v_->Aa->Prop}{Q:Exit->Act->y_->Prop}(hs:Region.noSelect all.toArray=zW)
  (z:∀x fr a' m,AtX ds fr a'->Z_ w0 m->E fr x m.heap->Q (.panic (pe x)) a' m) (n:∀c,∀o∈all,∀v a w,Q (.panic c) (a.put o.dst v) w->Q (.panic c) a w):∀(l:Sch) (d:Array Bool) (fr:Fr) (a:Act) (w:y_) (K:Fr->Aa->Prop),AtX ds fr a->Z_ w0 w->(MM Z l=zU->yU w0 S w)->Zad all.toArray d->
  (∀p a' m,AtX ds p a'->Z_ w0 m->K p m.heap->Q .normal a' m)->Cz all.toArray Z l d=zW->l.even=zW->
  Wn P S Z w0.heap all E l fr w.heap K->IV P all.toArray Q (yU w0 S) Z l.len d a w
 | .e,d,fr,a,w,K,hat,he,_,_,hq,hB,_,h=>⟨by simpa [Cz]using hB,hq fr a w hat he h⟩
 | .q i s,d,fr,a,w,K,hat,he,A,hsh,hq,hB,hev,h=>by
   have A:=A rfl;simp only[Cz,o_,wD,xJ]at hB;obtain⟨⟨⟨⟨B,g⟩,U⟩,V⟩,r⟩:=hB;rw[AdW]at h;split at h
   ·exact h.elim
   ·rename_i o T;have D:all.toArray[i]?=zY o:=by simpa using T
    have F:i∈Region.ready .any all.toArray d:=by simpa using B
    split at h
    ·exact h.elim
    ·rename_i W;have C:Region.wanted o (yielded all.toArray a.tmps)=zW:=by simp[Region.wanted,W]
     split at h
     ·have⟨v,X,t⟩:=CJ h;rw[Bk]at t;refine Dv (v:=v) (f:=all.toArray.size) D (Region.noSelect_spec hs) (λc a' m Y=>n c o (Y_ T) v a' m Y) U (λj G=>V j (by simpa using G)) s.len d a w hsh (Region.free_spec D g) F
       (.inl ⟨C,λm N=>?_⟩) A ?_
      ·rw[hat.evalF];exact X m λk t=>(N.2 k t).trans (A.2 k t).symm
      ·exact EF hs z n s _ _ _ w K (hat.put o.dst v) he (λ_=>A) (hsh.put F) hq r hev t
     ·exact h.elim
 | .f i s,d,fr,a,w,K,hat,he,A,hsh,hq,hB,hev,h=>by
   simp only[Cz,o_,wX,wD,beq_iff_eq]at hB;obtain⟨⟨B,g⟩,r⟩:=hB;refine⟨(λH=>by rw[B]at H;cases H),λj G=>?_⟩;have O:=G;rw[B]at G;obtain rfl:j=i:=by simpa using G
   refine IK z hat he h λp a' m I J u L=>⟨u,EF hs z n s _ _ _ m K I J (λy=>?_) (hsh.put O) hq r hev L⟩;rcases g with g | g
   ·exact u g
   ·rw[g]at y;cases y
 | .b i s j s',d,fr,a,w,K,hat,he,A,hsh,hq,hB,hev,h=>by
   simp only[Cz,o_,wX,wD,beq_iff_eq]at hB;obtain⟨⟨⟨B,g⟩,r⟩,R⟩:=hB;simp only[Sch.even,o_,beq_iff_eq]at hev;obtain⟨⟨e1,e2⟩,e3⟩:=hev;refine⟨(λH=>by rw[B]at H;cases H),λk t=>?_⟩;have M:=t;rw[B]at t;rcases J'.1 t with rfl | t
   ·refine IK z hat he h.1 λp a' m I J u L=>⟨u,EF hs z n s _ _ _ m K I J (λy=>?_) (hsh.put M) hq r e1 L⟩;rcases g with g | g
    ·exact u g.1
    ·rw[g.1]at y;cases y
   ·obtain rfl:k=j:=by simpa using t
    rw[e3];refine IK z hat he h.2 λp a' m I J u L=>⟨u,EF hs z n s' _ _ _ m K I J (λy=>?_) (hsh.put M) hq R e2 L⟩;rcases g with g | g
    ·exact u g.2
    ·rw[g.2]at y;cases y
def A7.held{l:List Oper}{fr:Fr}{K:Fr->Aa->Prop}(S:Nat->Prop)(Z:List Nat)(b:Sch)(d:RV E l)(m:P.follows .mixedOrders=zW)(c:(Region.noSelect l.toArray&&(b.len==l.length)&&b.even&&Cz l.toArray Z b (AqC l.length zU))=zW)(h:Wn P S Z H l E b fr H K):A7 P ds l fr H K E:=by refine⟨?_⟩;intro id Q a w e n p f q;subst n;simp only[o_,beq_iff_eq]at c;refine wp_region_any m (FM (S:=yU w S) (Z:=Z) _ _ _ _ ?_);have g:Zad l.toArray (AqC l.length zU):=λj o _ k=>by{rw[Array.getD_eq_getD_getElem?,Array.getElem?_replicate]at k;split at k<;>simp at k};have:=EF (P:=P) (S:=S) (Z:=Z) (w0:=w) (Q:=Q) c.1.1.1 p (f d) b (AqC l.length zU) fr a {w with drawn:=w.drawn+1} K e ⟨rfl,rfl,rfl⟩ (λ_=>⟨⟨rfl,rfl,rfl⟩,A_.refl _ _⟩) g q c.2 c.1.2 h;rw[c.1.1.2]at this;simpa using this
def Dy(ds:List Deferred)(w0:y_)(E:Fr->v_->Aa->Prop)(Q:Exit->Fr->Aa->Prop):Exit->Act->y_->Prop | .panic c,a,w=>∃fr,AtX ds fr a/\Z_ w0 w/\∃x,c=pe x/\E fr x w.heap | .outgrown,_,_=>False | e,a,w=>∃fr,AtX ds fr a/\Z_ w0 w/\Q e fr w.heap
structure CU(P:w_)(ds:List Deferred)(E:Fr->v_->Aa->Prop)(c:Code)(fr:Fr)(H:Aa)(X:List (Nat×(Fr->Aa->Prop)))(kr:Fr->Aa->Prop):Prop where
 in_::
 out_:∀(a:Act) (w:y_),AtX ds fr a->w.heap=H->(Code.loop c).wp P (Dy ds w E (Qx (λ_ _=>False) X kr)) a w
structure Ah(P:w_)(ds:List Deferred)(E:Fr->v_->Aa->Prop)(x y:Code)(fr:Fr)(H:Aa)(kn:Fr->Aa->Prop)(X:List (Nat×(Fr->Aa->Prop)))(kr:Fr->Aa->Prop):Prop where
 in_::
 out_:∀(a:Act) (w:y_),AtX ds fr a->w.heap=H->(Code.seq x y).wp P (Dy ds w E (Qx kn X kr)) a w
def wK(P:w_)(ds:List Deferred)(E:Fr->v_->Aa->Prop)(c:Code):Fr->Aa->(Fr->Aa->Prop)->List (Nat×(Fr->Aa->Prop))->(Fr->Aa->Prop)->Prop:=Code.rec (motive:=λ_=>Fr->Aa->(Fr->Aa->Prop)->List (Nat×(Fr->Aa->Prop))->(Fr->Aa->Prop)->Prop)
  (λfr H kn _ _=>kn fr H)
  (λ_ ops draw fr H kn _ _=>match draw with
   | false=>Ms P ops.toList E ops.toList fr H kn
   | true=>A7 P ds ops.toList fr H kn E)
  (λa b iha ihb fr H kn X kr=>match LA a with
   | true=>Ah P ds E a b fr H kn X kr
   | false=>iha fr H (λfr' H'=>ihb fr' H' kn X kr) X kr)
  (λc _ _ ihx ihy fr H kn X kr=>match c with
   | .tmp t=>yJ fr t λv=>match v with
     | .bool b=>Av b (xS fr t (.bool zW) λfr1=>ihx fr1 H kn X kr) (xS fr t (.bool zU) λfr1=>ihy fr1 H kn X kr)
     | _=>False
   | .const (.bool b)=>Av b (ihx fr H kn X kr) (ihy fr H kn X kr)
   | _=>False)
  (λid _ ih fr H kn X kr=>ih fr H kn ((id,kn)::X) kr)
  (λc _ fr H _ X kr=>CU P ds E c fr H X kr)
  (λ_ _ _ _ _ _ _ _ _ _ _=>False)
  (λid fr H _ X _=>P0 X id fr H)
  (λ_ _ _ _ _ _ _=>False)
  (λ_ _ _ _ _ _=>False)
  (λ_ _ _ _ _ _=>False)
  (λfr H _ _ kr=>kr fr H)
  (λ_ _ _ _ _ _=>False) c
section
variable(P:w_)(ds:List Deferred)(E:Fr->v_->Aa->Prop)(a b:Code)(fr:Fr)(H:Aa)(kn:Fr->Aa->Prop)(X:List (Nat×(Fr->Aa->Prop)))(kr:Fr->Aa->Prop)
def VF(id:Nat)(a:Array Oper)(b:Bool):wK P ds E (.region id a b) fr H kn X kr=(match b with | false=>Ms P a.toList E a.toList fr H kn | true=>A7 P ds a.toList fr H kn E):=rfl
def Ag9:wK P ds E (.seq a b) fr H kn X kr=(match LA a with | true=>Ah P ds E a b fr H kn X kr | false=>wK P ds E a fr H (λc H'=>wK P ds E b c H' kn X kr) X kr):=rfl
def bX(c:z_):wK P ds E (.cond c a b) fr H kn X kr=(match c with
   | .tmp t=>yJ fr t λv=>match v with
     | .bool x=>Av x (xS fr t (.bool zW) λd=>wK P ds E a d H kn X kr) (xS fr t (.bool zU) λd=>wK P ds E b d H kn X kr)
     | _=>False
   | .const (.bool x)=>Av x (wK P ds E a fr H kn X kr) (wK P ds E b fr H kn X kr)
   | _=>False):=rfl
def Yw(id:Nat):wK P ds E (.block id a) fr H kn X kr=wK P ds E a fr H kn ((id,kn)::X) kr:=rfl
end
def CU.out{c:Code}{fr:Fr}(h:CU P ds E c fr H X kr):∀(a:Act) (w:y_),AtX ds fr a->w.heap=H->(Code.loop c).wp P (Dy ds w E (Qx (λ_ _=>False) X kr)) a w:=by exact h.out_
def Ah.out{x:Code}{fr:Fr}(h:Ah P ds E x y fr H kn X kr):∀(a:Act) (w:y_),AtX ds fr a->w.heap=H->(Code.seq x y).wp P (Dy ds w E (Qx kn X kr)) a w:=by exact h.out_
def Dy.env{w0 d:y_}(b:Z_ w0 d):∀{e:Exit} {a:Act} {w:y_},Dy ds d E Q e a w->Dy ds w0 E Q e a w | .normal,_,_,⟨fr,h1,h2,h3⟩ | .exit _,_,_,⟨fr,h1,h2,h3⟩ | .goto _,_,_,⟨fr,h1,h2,h3⟩ | .ret,_,_,⟨fr,h1,h2,h3⟩=>⟨fr,h1,b.trans h2,h3⟩ | .panic c,_,_,⟨fr,h1,h2,h3⟩=>⟨fr,h1,b.trans h2,h3⟩
def Dy.mono{w0:y_}{Q':Exit->Fr->Aa->Prop}(b:∀e fr H,Q e fr H->Q' e fr H):∀{e:Exit} {a:Act} {w:y_},Dy ds w0 E Q e a w->Dy ds w0 E Q' e a w | .normal,_,_,⟨fr,h1,h2,h3⟩ | .exit _,_,_,⟨fr,h1,h2,h3⟩ | .goto _,_,_,⟨fr,h1,h2,h3⟩ | .ret,_,_,⟨fr,h1,h2,h3⟩=>⟨fr,h1,h2,b _ _ _ h3⟩ | .panic c,_,_,h=>h
def LJ{x:Code}{d:Fr->Aa->Prop}(g:x.wp P (Dy ds w E (Qx d X kr)) a w)(j:∀fr a' b,AtX ds fr a'->Z_ w b->d fr b.heap->y.wp P (Dy ds b E (Qx kn X kr)) a' b):(Code.seq x y).wp P (Dy ds w E (Qx kn X kr)) a w:=by refine wp_seq (Code.wp_mono ?_ g);intro e a' b h;cases e with|normal=>have⟨fr,k,f,m⟩:=h;exact Code.wp_mono (λe a w h=>Dy.env f h) (j fr a' b k f m)|exit id=>exact h|goto l=>exact h|ret=>exact h|panic c=>exact h|outgrown=>exact h
def Ca{P:w_}{ds:List Deferred}{E:Fr->v_->Aa->Prop}:∀(c:Code) (fr:Fr) (kn:Fr->Aa->Prop) (X:List (Nat×(Fr->Aa->Prop))) (kr:Fr->Aa->Prop) (a:Act) (w:y_),AtX ds fr a->
  wK P ds E c fr w.heap kn X kr->c.wp P (Dy ds w E (Qx kn X kr)) a w
 | .skip,fr,kn,X,kr,a,w,hat,h=>wp_skip ⟨fr,hat,Z_.refl w,h⟩
 | .region id ops draw,fr,kn,X,kr,a,w,hat,h=>by
   rw[VF]at h;cases draw with
   | false=>
     have:=wp_region_lit (P:=P) (id:=id) (l:=ops.toList) (I8 (P:=P) (all:=ops.toList) (ds:=ds) (E:=E) (Q:=Dy ds w E (Qx kn X kr)) (w0:=w) (λx fr a' m j k g=>⟨fr,j,k,x,rfl,g⟩) ops.toList fr a w kn hat (Z_.refl w) (λf a' m j k g=>⟨f,j,k,g⟩) h);simpa using this
   | true=>
     have:=h.out_ id (Dy ds w E (Qx kn X kr)) a w hat rfl (λx fr a' m j k g=>⟨fr,j,k,x,rfl,g⟩) (λr c o D v a m h=>by
      have⟨fr2,j,k,x,g,p⟩:=h;have⟨q,z⟩:=j;rw[Vn]at z;refine⟨a.tmps.toList,⟨rfl,z⟩,k,x,g,?_⟩;cases hd:o.dst with
      | none=>rw[hd]at q;rw[<-q]at p;exact p
      | some d=>
        rw[hd]at q;refine r o D d hd _ v x _ ?_;rw[<-q]at p;simpa [Act.put]using p) (λf a' m j k g=>⟨f,j,k,g⟩)
     simpa using this
 | .seq x y,fr,kn,X,kr,a,w,hat,h=>by
   rw[Ag9]at h;split at h
   ·exact h.out a w hat rfl
   ·exact LJ (Ca x fr _ X kr a w hat h) λf a' m j _ g=>Ca y f kn X kr a' m j g
 | .cond c x y,fr,kn,X,kr,a,w,hat,h=>by
   rw[bX]at h;split at h
   ·rename_i t;rw[Dm]at h;split at h
    ·rename_i b A;have hs:fr.set t (.bool b)=fr:=DS A (by simp[undef]);have B:a.eval (.tmp t)= .bool b:=by rw[hat.evalF];exact A
     cases b<;>simp only[Av,EX,hs]at h
     ·exact wp_cond_false B (Ca y fr kn X kr a w hat h)
     ·exact wp_cond_true B (Ca x fr kn X kr a w hat h)
    ·exact h.elim
   ·rename_i b;cases b<;>simp only[Av]at h
    ·exact wp_cond_false rfl (Ca y fr kn X kr a w hat h)
    ·exact wp_cond_true rfl (Ca x fr kn X kr a w hat h)
   ·exact h.elim
 | .block id c,fr,kn,X,kr,a,w,hat,h=>by
   rw[Yw]at h;refine wp_block (Code.wp_mono ?_ (Ca c fr kn _ kr a w hat h));intro e a' m h;cases e with
   | exit u=>
     have⟨f,j,k,g⟩:=h;simp only[Qx,P0]at g;simp only[Exit.inBlock];split at g
     ·rename_i n;have:=Nat.eq_of_beq_eq_true n;rw[H_ this.symm];exact⟨f,j,k,g⟩
     ·rename_i n;have:id≠u:=Nat.ne_of_beq_eq_false n;rw[G_ (Ne.symm this)];exact⟨f,j,k,g⟩
   | normal=>exact h
   | goto l=>exact h
   | ret=>exact h
   | panic c=>exact h
   | outgrown=>exact h
 | .loop c,fr,kn,X,kr,a,w,hat,h=>Code.wp_mono (λe a w=>Dy.mono λe fr H C=>by
   cases e<;>first | exact C | exact C.elim) (h.out a w hat rfl)
 | .exit id,fr,kn,X,kr,a,w,hat,h=>wp_exit ⟨fr,hat,Z_.refl w,h⟩
 | .ret,fr,kn,X,kr,a,w,hat,h=>wp_ret ⟨fr,hat,Z_.refl w,h⟩
 | .rangeFunc ..,_,_,_,_,_,_,_,h=>h.elim
 | .scope _,_,_,_,_,_,_,_,h=>h.elim
 | .label _,_,_,_,_,_,_,_,h=>h.elim
 | .goto _,_,_,_,_,_,_,_,h=>h.elim
 | .refuse _,_,_,_,_,_,_,_,h=>h.elim
def CU.mk{c:Code}{fr:Fr}{α:Type}(ts:List Nat)(enc:α->List v_)(I:α->Aa->Prop)(m:α->Aa->Nat)(h0:R8 fr ts λvs=>∃x,vs=enc x/\I x H)(K:∀(x:α) (H1:Aa) (k:Nat->v_),I x H1->Hw k fr (HQ c []) λt=>VG t ts (enc x) λf=> wK P ds E c f H1 (λd H'=>JH (HQ c []) fr d (R8 d ts λvs=>∃y,vs=enc y/\I y H'/\m y H'<m x H1)) X kr):CU P ds E c fr H X kr:=by generalize HQ c []=ws at K;refine⟨?_⟩;intro a w u M;subst M;have p:=h0;rw[Gf]at p;have⟨N,z,A⟩:=p;let J (n:Nat) (a':Act) (w':y_):Prop:=∃d x,AtX ds d a'/\Z_ w w'/\F8 (λ_=>undef) d ws=F8 (λ_=>undef) fr ws/\ts.map (rd d)=enc x/\I x w'.heap/\m x w'.heap=n;refine M9 J ?_ _ a w ⟨fr,N,u,Z_.refl w,rfl,z,A,rfl⟩;rintro n a1 L ⟨f,O,q,b,B,C,D,rfl⟩;have h:=K O L.heap (rd f) D;rw[CE,Jx,Dh B,<-C,Hf ts f]at h;refine Code.wp_mono ?_ (Ca c f _ X kr a1 L q h);intro e a2 Q g;cases e with|normal=>have⟨fr2,r,j,g⟩:=g;simp only[Qx,JH,CE,Gf]at g;have⟨F,y,R,G,S⟩:=g;exact⟨m y Q.heap,S,fr2,y,r,b.trans j,F,R,G,rfl⟩|exit id=>exact Dy.env b g|goto l=>exact Dy.env b g|ret=>exact Dy.env b g|panic c=>exact Dy.env b g|outgrown=>exact g
def Ah.run{x:Code}{fr:Fr}(h:wK P ds E x fr H (λb H'=>wK P ds E y b H' kn X kr) X kr):Ah P ds E x y fr H kn X kr:=by refine⟨?_⟩;intro a w c d;subst d;exact LJ (Ca x fr _ X kr a w c h) λb a' e f _ g=>Ca y b kn X kr a' e f g
def Ah.cut{x:Code}{fr:Fr}{α:Type}(ts:List Nat)(enc:α->List v_)(I:α->Aa->Prop)(h:wK P ds E x fr H (λc H'=>JH (HQ x []) fr c (R8 c ts λvs=>∃y,vs=enc y/\I y H')) X kr)(k:∀(z:α) (H1:Aa) (d:Nat->v_),I z H1->Hw d fr (HQ x []) λe=>VG e ts (enc z) λb=>wK P ds E y b H1 kn X kr):Ah P ds E x y fr H kn X kr:=by generalize HQ x []=ws at h k;refine⟨?_⟩;intro a w f l;subst l;refine LJ (Ca x fr _ X kr a w f h) λb a1 g m _ j=>?_;simp only[JH,CE,Gf]at j;have⟨n,z,p,q⟩:=j;have h:=k z g.heap (rd b) q;rw[CE,Jx,Dh n,<-p,Hf ts b]at h;exact Ca y b kn X kr a1 g m h
def Vr{fn:Func}{fr:Fr}(b:AtX ds fr a)(h:RA P fn.results.toList fr w.heap R):∃v,(results fn a.tmps).run P w= .ok v w/\R v w.heap:=O4 (a:={tmps:=a.tmps,defers:=[]}) b.bare h
def Aw.of_vc{fn:Func}{c:Code}{a:Array v_}{E:v_->Aa->Prop}(p:P.funcs[f]?=zY fn)(q:fn.body=zY c)(j:∀w:y_,(callFunc f a).run P w= .ok (.enter f a) w)(h:Oi (a.toList++Aq7 (fn.ntmps-a.size) undef) λfr=>wK P [] (λ_=>E) c fr H (λk H'=>RA P fn.results.toList k H' R) [] (λk H'=>RA P fn.results.toList k H' R)):Aw P f a H R E:=by intro w r;subst r;refine⟨j w,?_⟩;refine calls_of_wp p q ?_;rw[I7]at h;have n:AtX [] (a.toList++Aq7 (fn.ntmps-a.size) undef) {tmps:=a++AqC (fn.ntmps-a.size) undef,defers:=[]}:=⟨zZ,rfl⟩;refine Code.wp_mono ?_ (Ca c _ _ _ _ _ w n h);intro e a' m b;have fin:∀fr,AtX [] fr a'->Z_ w m->RA P fn.results.toList fr m.heap R->a'.defers=[]/\∃v,(results fn a'.tmps).run P m= .ok v m/\Z_ w m/\R v m.heap:=by{intro fr g b d;have⟨v,t,u⟩:=Vr g d;exact⟨g.defers,v,t,b,u⟩};cases e with|normal=>have⟨fr,g,b,d⟩:=b;exact fin fr g b d|ret=>have⟨fr,g,b,d⟩:=b;exact fin fr g b d|exit id=>have⟨fr,g,b,d⟩:=b;exact d.elim|goto l=>have⟨fr,g,b,d⟩:=b;exact d.elim|panic c=>have⟨fr,g,d,x,y,z⟩:=b;exact⟨g.defers,d,x,y,z⟩|outgrown=>exact b.elim
def Ii(P:w_)(rs:List ResultVar)(fr:Fr)(H:Aa):(List v_->Prop)->Prop:=List.rec (motive:=λ_=>(List v_->Prop)->Prop) (λR=>R []) (λr _ ih R=>match r with
  | .tmp t=>yJ fr t λv=>ih λvs=>R (v::vs)
  | .cell a t=>yJ fr a λp=>uK P t p H λv=>ih λvs=>R (v::vs)) rs
def Tu(vs:List v_):v_:=match vs with
 | [v]=>v
 | vs=>.tuple vs.toArray
def HG(tmps:Array v_)(r:ResultVar):Sem v_:=match r with
 | .tmp t=>pure (tmps.getD t undef)
 | .cell a t=>do loadVar t (<-asAddr (tmps.getD a undef))
def Ko{P:w_}{fr:Fr}{a:Act}{w:y_}(b:At fr a):∀(c:List ResultVar) (R:List v_->Prop),Ii P c fr w.heap R->
  ∃vs:List v_,(c.mapM (HG a.tmps)).run P w= .ok vs w/\R vs
 | [],R,h=>⟨[],by simp,h⟩
 | .tmp t::c,R,h=>by
   have e:yJ fr t (λv=>Ii P c fr w.heap λvs=>R (v::vs)):=h;rw[Dm]at e;have⟨vs,j,f⟩:=Ko b c _ e;have d:a.tmps.getD t undef=rd fr t:=b.eval (.tmp t);have g:(HG a.tmps (.tmp t)).run P w= .ok (rd fr t) w:=by simp[HG,d]
   refine⟨rd fr t::vs,?_,f⟩;rw[dV,Sem.run_bind,g];simp only[Result.andThen_ok,Sem.run_bind,j,Sem.run_pure]
 | .cell x t::c,R,h=>by
   have e:yJ fr x (λp=>uK P t p w.heap λv=>Ii P c fr w.heap λvs=>R (v::vs)):=h;rw[Dm]at e;have⟨p,v,k,l,f⟩:=Fq e;have⟨vs,m,n⟩:=Ko b c _ f;have d:a.tmps.getD x undef=rd fr x:=b.eval (.tmp x);have g:(HG a.tmps (.cell x t)).run P w= .ok v w:=by simp[HG,d,k,asAddr,l]
   refine⟨v::vs,?_,n⟩;rw[dV,Sem.run_bind,g];simp only[Result.andThen_ok,Sem.run_bind,m,Sem.run_pure]
def GE{fn:Func}{fr:Fr}{R:v_->Prop}(b:AtX ds fr a)(h:Ii P fn.results.toList fr w.heap λvs=>R (Tu vs)):∃v,(results fn a.tmps).run P w= .ok v w/\R v:=by
 have⟨vs,c,d⟩:=Ko (a:={tmps:=a.tmps,defers:=[]}) b.bare _ _ h;refine⟨Tu vs,?_,d⟩
 have e:results fn a.tmps=(do
  let vs <-fn.results.mapM (HG a.tmps)
  pure (if h:vs.size=1 then vs[0]else .tuple vs)):=rfl
 have e2:(fn.results.mapM (HG a.tmps)).run P w= .ok vs.toArray w:=by{rw[Array.mapM_eq_mapM_toList];have f:(List.toArray <$> fn.results.toList.mapM (HG a.tmps))=(fn.results.toList.mapM (HG a.tmps) >>= λl=>pure l.toArray):=rfl;rw[f,Sem.run_bind,c];simp};rw[e,Sem.run_bind,e2];simp only[Result.andThen_ok,Sem.run_pure];match vs with|[]=>rfl|[v]=>rfl|_::_::_=>rfl
def jU(o0 o1:Oper)(t0 t1:Nat):Prop:=(∃ats,o0.op= .call {callee:=.builtin .recover,args:= #[],argTypes:=ats})/\o0.guard=zV/\o0.dst=zY t0/\o1.op= .assign (.tmp t0)/\o1.guard=zV/\o1.dst=zY t1
inductive AhN:FrameMode->FrameMode->v_->Prop
 | ret:AhN .returning .returning .nilIface
 | pan (x:v_):AhN (.panicking (pe x)) (.panicking [{v:=x,recovered:=zW}]) x
def Ce{g:FuncId}{fn:Func}{F:Nat}{b j:Oper}{x O:Nat}{rest:Code}{a:Array v_}{u u':FrameMode}{R:Aa->Prop}(S:P.funcs[g]?=zY fn)(T:fn.body=zY (.seq (.region F #[b,j] zU) rest))(U:jU b j x O) (V:AhN u u' va) (B:fn.results= #[])(h:Oi (a.toList++Aq7 (fn.ntmps-a.size) undef) λfr=>yJ fr x λ_=>yJ (fr.set x va) x λv=>v=va/\xS fr x va λG=>xS G O va λfr2=>vc P rest fr2 H (λ_ H'=>R H') [] (λ_ H'=>R H')):∀w:y_,w.heap=H->CallsD P g a u w λe p d=>e= .returned (.tuple #[])/\p=u'/\Z_ w d/\R d.heap:=by
 intro w W;subst W;rw[I7]at h;simp only[Dm,EX]at h;have⟨I,h⟩:=h;obtain⟨⟨X,Y⟩,Z,J,b3,b4,Q⟩:=U;refine callsD_of_wpS S T ?_;intro k m K;let q:Act:={tmps:=a++AqC (fn.ntmps-a.size) undef,defers:=[]};have C:At (a.toList++Aq7 (fn.ntmps-a.size) undef) q:=⟨by simp[q],rfl⟩;refine wpS_seq (wpS_region ?_);have y:(execOp q.eval b).run P w= .ok .recover w:=by{simp only[execOp,Y,resolve];simp[invoke,builtin]};have D:∀(E:Frame),{k with mode:=u'}=E->wpOpsS P #[b,j] (Exit.thenS (rest.wpS P (bodyPostS P fn k m λe p d=>e= .returned (.tuple #[])/\p=u'/\Z_ w d/\R d.heap)) (bodyPostS P fn k m λe p d=>e= .returned (.tuple #[])/\p=u'/\Z_ w d/\R d.heap)) [1] (q.put b.dst va) (E::m) w:=by{intro E L;have r:=C.put b.dst va;have z:(execOp (q.put b.dst va).eval j).run P w= .ok (.value va) w:=by{rw[r.evalF,J];simp only[execOp,b3];have:yI ((a.toList++Aq7 (fn.ntmps-a.size) undef).set x va) (.tmp x)=va:=I;simp[this]};have M:Region.wanted j (yielded #[b,j] (q.put b.dst va).tmps)=zW:=by{simp[Region.wanted,b4]};unfold wpOpsS;have g1:(#[b,j]:Array Oper)[1]?=zY j:=rfl;rw[g1];simp only[M,if_true,z];simp only[Oper.upon,wpOpsS,Exit.thenS];refine wpS_of_wp ?_;have t:=r.put j.dst va;rw[J,Q]at t;rw[J,Q];refine Code.wp_mono ?_ (Cv rest _ _ _ _ _ w t h);intro e a' d f;have fin:∀fr,At fr a'->Z_ w d->R d.heap->a'.defers=[]/\∃p,E::m={k with mode:=p}::m/\∃v,(results fn a'.tmps).run P d= .ok v d/\Ending.returned v= .returned (.tuple #[])/\p=u'/\Z_ w d/\R d.heap:=by{intro fr A f n;refine⟨A.defers,u',by rw[L],.tuple #[],?_,rfl,rfl,f,n⟩;simp[results,B]};cases e with|normal=>have⟨fr,A,f,n⟩:=f;exact fin fr A f n|ret=>have⟨fr,A,f,n⟩:=f;exact fin fr A f n|exit id=>have⟨fr,A,f,n⟩:=f;exact n.elim|goto l=>have⟨fr,A,f,n⟩:=f;exact n.elim|panic c=>exact f.elim|outgrown=>exact f.elim};have N:Region.wanted b (yielded #[b,j] q.tmps)=zW:=by simp[Region.wanted,Z]
 show wpOpsS P #[b,j] _ [0,1] q (k::m) w;unfold wpOpsS;have g0:(#[b,j]:Array Oper)[0]?=zY b:=rfl;rw[g0];simp only[N,if_true,y];cases V with|ret=>have:recoverD (k::m)=zV:=by{simp[recoverD,K]};rw[this];exact D k (by rw[<-K])|pan=>{have:recoverD (k::m)=zY (va,{k with mode:=.panicking [{v:=va,recovered:=zW}]}::m):=by{simp[recoverD,K]};rw[this];exact D _ rfl}
structure BX(P:w_)(g:FuncId)(args:Array v_)(u u':FrameMode)(H:Aa)(K:Aa->Prop):Prop where
 in_::
 out_:∀w:y_,w.heap=H->CallsD P g args u w λe u2 w'=>e= .returned (.tuple #[])/\u2=u'/\Z_ w w'/\K w'.heap
def BX.mk{g:FuncId}{a:Array v_}{u u':FrameMode}{K R:Aa->Prop}(h:∀w:y_,w.heap=H->CallsD P g a u w λe c b=>e= .returned (.tuple #[])/\c=u'/\Z_ w b/\R b.heap)(k:∀H',R H'->K H'):BX P g a u u' H K:=⟨λw d=>(h w d).mono λe c b ⟨f,j,l,m⟩=>⟨f,j,l,k _ m⟩⟩
def jA(o1 o2:Oper)(tc:Nat)(g:FuncId)(cap:Array z_):Prop:=o1.op= .makeFunc (.func g) #[] cap/\o1.guard=zV/\o1.dst=zY tc/\(∃ats,o2.op= .defer {callee:=.value (.tmp tc),args:= #[],argTypes:=ats})/\o2.guard=zV/\o2.dst=zV
abbrev pY(g:FuncId)(vs:List v_):Deferred:={target:=.fn (.func g) vs.toArray,args:= #[]}
structure Bn(P:w_)(fn:Func)(R:v_->Aa->Prop)(c:Code)(fr:Fr)(H:Aa):Prop where
 in_::
 out_:∀(a:Act) (w w0:y_),At fr a->w.heap=H->Z_ w0 w->c.wp P (bodyPostD P fn λe w'=>∃v,e= .returned v/\Z_ w0 w'/\R v w'.heap) a w
def Am.of_rest{fn:Func}{c:Code}{a:Array v_}(d:P.funcs[f]?=zY fn)(e:fn.body=zY c)(b:∀w:y_,(callFunc f a).run P w= .ok (.enter f a) w)(h:Oi (a.toList++Aq7 (fn.ntmps-a.size) undef) λfr=>Bn P fn R c fr H):Am P f a H R:=by intro w g;refine⟨b w,?_⟩;rw[I7]at h;exact calls_of_wp_defers d e (h.out_ _ w w ⟨zZ,rfl⟩ g (Z_.refl w))
def Bn.seq{fn:Func}{A:Code}{fr:Fr}(h:vc P A fr H (λg H1=>Bn P fn R B g H1) [] (λk H4=>Ii P fn.results.toList k H4 λq=>R (Tu q) H4)):Bn P fn R (.seq A B) fr H:=by refine⟨λa w w0 m r p=>?_⟩;subst r;refine wp_seq (Code.wp_mono ?_ (Cv A _ _ _ _ a w m h));intro e a1 n f;cases e with|ret=>have⟨fr,b,j,d⟩:=f;show Leaves P fn a1.tmps _ a1.defers .returning n;rw[b.defers];have⟨v,t,e2⟩:=GE (fn:=fn) (ds:=[]) (R:=λv=>R v n.heap) ⟨b.tmps,b.defers⟩ d;exact⟨v,t,v,rfl,p.trans j,e2⟩|exit id=>have⟨fr,b,j,d⟩:=f;exact d.elim|goto l=>have⟨fr,b,j,d⟩:=f;exact d.elim|panic c=>exact f.elim|outgrown=>exact f.elim|normal=>have⟨g,b,j,d⟩:=f;exact d.out_ a1 n w0 b rfl (p.trans j)
def Bn.defer_{fn:Func}{C:Nat}{j o2:Oper}{m:Nat}{g:FuncId}{cap:Array z_}{fr2:Fr}(Q:jA j o2 m g cap)(S:∀(vs:Array v_) (w:y_),(callFunc g vs).run P w= .ok (.enter g vs) w)
  (h:Iy fr2 cap.toList λvs=>xS fr2 m (.func (.func g) #[] vs.toArray) λt=>yJ t m λfv=>fv= .func (.func g) #[] vs.toArray/\
    wK P [pY g vs] (λb x H4=>BX P g vs.toArray (.panicking (pe x)) (.panicking [{v:=x,recovered:=zW}]) H4 λH5=>Ii P fn.results.toList b H5 λp=>R (Tu p) H5) B t H
     (λb H4=>BX P g vs.toArray .returning .returning H4 λH5=>Ii P fn.results.toList b H5 λp=>R (Tu p) H5) []
     (λb H4=>BX P g vs.toArray .returning .returning H4 λH5=>Ii P fn.results.toList b H5 λp=>R (Tu p) H5)):
  Bn P fn R (.seq (.region C #[j,o2] zU) B) fr2 H:=by
 refine⟨λa2 q w M T y=>?_⟩;subst T;obtain⟨U,V,D,⟨W,X⟩,Y,Z⟩:=Q;rw[Jg]at h;simp only[EX,Dm]at h;have⟨m4,m5⟩:=h;have E:(execOp a2.eval j).run P q= .ok (.value (.func (.func g) #[] (cap.toList.map (yI fr2)).toArray)) q:=by{rw[M.evalF];simp only[execOp,U];simp only[<-rA,Array.toArray_toList];simp[Instr.makeFunc]};have a:=M.put j.dst (.func (.func g) #[] (cap.toList.map (yI fr2)).toArray);rw[D]at a;have F:(execOp (a2.put j.dst (.func (.func g) #[] (cap.toList.map (yI fr2)).toArray)).eval o2).run P q= .ok (.defer (pY g (cap.toList.map (yI fr2)))) q:=by{rw[D,a.evalF];simp only[execOp,X,resolve];have:yI (fr2.set m (.func (.func g) #[] (cap.toList.map (yI fr2)).toArray)) (.tmp m)= .func (.func g) #[] (cap.toList.map (yI fr2)).toArray:=m4;simp[this,Deferred.ofValue]};refine wp_seq (wp_region_lit (l:=[j,o2]) ?_);have w1:Region.wanted j (yielded #[j,o2] a2.tmps)=zW:=by simp[Region.wanted,V]
 have G:∀N,Region.wanted o2 (yielded #[j,o2] N)=zW:=λN=>by simp[Region.wanted,Y]
 unfold wpList;simp only[w1,if_true];refine .inl ?_;unfold Oper.wp;rw[E];simp only[Oper.upon];unfold wpList;simp only[G,if_true];refine .inl ?_;unfold Oper.wp;rw[F];simp only[Oper.upon,wpList,Exit.then];rw[D];have z:AtX [pY g (cap.toList.map (yI fr2))] (fr2.set m (.func (.func g) #[] (cap.toList.map (yI fr2)).toArray)) ({(a2.put (zY m) (.func (.func g) #[] (cap.toList.map (yI fr2)).toArray))with defers:=pY g (cap.toList.map (yI fr2))::(a2.put (zY m) (.func (.func g) #[] (cap.toList.map (yI fr2)).toArray)).defers}.put o2.dst undef):=by{rw[Z];exact⟨a.tmps,by show _::_=_;rw[a.defers]⟩};refine Code.wp_mono ?_ (Ca B _ _ _ _ _ q z m5);intro e A n r;have inv:∀w:y_,(invoke (.fn (.func g) (cap.toList.map (yI fr2)).toArray) #[]).run P w= .ok (.enter g (cap.toList.map (yI fr2)).toArray) w:=λw=>by{simp only[invoke];rw[Array.empty_append];exact S _ w}
 have fin:∀fr,AtX [pY g (cap.toList.map (yI fr2))] fr A->Z_ q n->(BX P g (cap.toList.map (yI fr2)).toArray .returning .returning n.heap λH5=>Ii P fn.results.toList fr H5 λp=>R (Tu p) H5)->
   Leaves P fn A.tmps (λe O=>∃v,e= .returned v/\Z_ w O/\R v O.heap) A.defers .returning n:=by
  intro fr d k f;rw[d.defers];refine leaves_cons (λh=>by cases h) (inv n) ((f.out_ n rfl).mono ?_);rintro e u I ⟨rfl,rfl,J,K⟩;have⟨v,L,e2⟩:=GE (fn:=fn) (R:=λv=>R v I.heap) d K;exact⟨v,L,v,rfl,(y.trans k).trans J,e2⟩
 cases e with|normal=>have⟨fr,d,k,f⟩:=r;exact fin fr d k f|ret=>have⟨fr,d,k,f⟩:=r;exact fin fr d k f|exit id=>have⟨fr,d,k,f⟩:=r;exact f.elim|goto l=>have⟨fr,d,k,f⟩:=r;exact f.elim|outgrown=>exact r.elim|panic c=>obtain⟨fr,d,k,x,rfl,f⟩:=r;show Leaves P fn A.tmps _ A.defers (.panicking (pe x)) n;rw[d.defers];refine leaves_cons (λh=>by cases h) (inv n) ((f.out_ n rfl).mono ?_);rintro e u I ⟨rfl,rfl,J,K⟩;have⟨v,L,e2⟩:=GE (fn:=fn) (R:=λv=>R v I.heap) d K;exact⟨v,L,v,rfl,(y.trans k).trans J,e2⟩
def iV:ResultVar->Nat | .tmp t=>t | .cell a _=>a
def PT{fr:Fr}{d t:Nat}{v:v_}(h:d≠t):rd (fr.set d v) t=rd fr t:=by unfold rd;rw[yV,yV,xX h]
def O5{P:w_}{fr:Fr}{d:Nat}{v:v_}{H:Aa}:∀{b:List ResultVar} {R:List v_->Prop},(∀r∈b,d≠iV r)->Ii P b (fr.set d v) H R->Ii P b fr H R
 | [],R,_,h=>h
 | .tmp t::b,R,hd,h=>by
   have c:yJ (fr.set d v) t (λa=>Ii P b (fr.set d v) H λvs=>R (a::vs)):=h;show yJ fr t (λa=>Ii P b fr H λvs=>R (a::vs));rw[Dm]at c ⊢;have f:d≠t:=hd _ yN;rw[PT f]at c;exact O5 (λr g=>hd r (yD _ g)) c
 | .cell x t::b,R,hd,h=>by
   have c:yJ (fr.set d v) x (λp=>uK P t p H λa=>Ii P b (fr.set d v) H λvs=>R (a::vs)):=h;show yJ fr x (λp=>uK P t p H λa=>Ii P b fr H λvs=>R (a::vs));rw[Dm]at c ⊢;have f:d≠x:=hd _ yN;rw[PT f]at c;have e:(λa=>Ii P b (fr.set d v) H λvs=>R (a::vs))=λa=>Ii P b (fr.set d v) H λvs=>R (a::vs):=rfl;revert c;unfold uK;generalize rd fr x=p;intro c;split at c
   ·have⟨a,j,e2⟩:=c.out_;exact⟨⟨a,j,O5 (λr g=>hd r (yD _ g)) e2⟩⟩
   ·exact c.elim
def JQ{g:FuncId}{vs:Array v_}{b:List ResultVar}{l:List Oper}(e:(l.all λo=>match o.dst with | none=>zW | some d=>b.all λr=> !(d==iV r))=zW):RV (λa x H4=>BX P g vs (.panicking (pe x)) (.panicking [{v:=x,recovered:=zW}]) H4 λH5=>Ii P b a H5 λf=>R (Tu f) H5) l:=by intro o j d hd fr v x H h;have c:=xJ.1 e o j;rw[hd]at c;refine BX.mk h.out_ λH' k=>O5 (λr m=>?_) k;have:=xJ.1 c r m;simpa using this
open Go.Lib
def bt(t:ByteArray)(i:Nat):Nat:=match t.data[i]? with
 | some b=>b.toNat
 | none=>256
def CY{i:Nat}(h:i<t.size):∃b,t.data[i]?=zY b/\bt t i=b.toNat/\bt t i<256:=by have a:i<t.data.size:=h;refine⟨t.data[i],tE a,?_,?_⟩;{unfold bt;rw[tE a]};unfold bt;rw[tE a];exact UInt8.toNat_lt _
def Gq{i:Nat}(h:¬i<t.size):bt t i=256:=by have a:¬i<t.data.size:=h;unfold bt;rw[Array.getElem?_eq_none zO]
def Et{i:Nat}(h:bt t i≠256):i<t.size:=by apply Classical.byContradiction;intro a;exact h (Gq a)
def L8(c:Nat):Option Nat:=if 48<=c/\c<=57 then zY (c-48)else if 97<=c/\c<=102 then zY (c-87)else zV
def KJ{v:Nat}(h:L8 c=zY v):v<16:=by unfold L8 at h;split at h;{cases h;omega};split at h;{cases h;omega};cases h
def AdZ:ByteArray:=⟨#[48,49,50,51,52,53,54,55,56,57,97,98,99,100,101,102]⟩
def UI(c:Nat)(a:c<256):indexByte AdZ.data.toList (UInt8.ofNat c)=match L8 c with | some v=>(v:Int) | none=> -1:=by
 have:∀c:Fin 256,indexByte AdZ.data.toList (UInt8.ofNat c.1)=match L8 c.1 with | some v=>(v:Int) | none=> -1:=by decide+kernel
 exact this ⟨c,a⟩
def L3(t:ByteArray)(i:Nat):Sum Nat (Nat×Nat):=if bt t i=256 then .inl i else if bt t i=110 then .inr (10,i+1)else if bt t i=114 then .inr (13,i+1)else if bt t i=116 then .inr (9,i+1)
 else if bt t i=120 then match L8 (bt t (i+1))with
  | none=>.inl (i+1)
  | some a=>match L8 (bt t (i+2))with
    | none=>.inl (i+2)
    | some b=>.inr (16*a+b,i+3)
 else if bt t i<32\/126<bt t i\/(48<=bt t i/\bt t i<=57)\/(97<=bt t i/\bt t i<=122)\/(65<=bt t i/\bt t i<=90)then .inl i else .inr (bt t i,i+1)
def EL(t s:ByteArray)(i:Nat):Sum Nat (Nat×Nat):=if bt t i=92 then L3 t (i+1)else if bt t i<32\/126<bt t i\/xQ s (bt t i)=zW then .inl i else .inr (bt t i,i+1)
def Pv(t:ByteArray)(lo j:Nat)(x:BitVec 256)(f:Nat->BitVec 256->Sum Nat (BitVec 256×Nat)):Sum Nat (BitVec 256×Nat):=if bt t j=45 then(match EL t ER (j+1)with
  | .inl e=>.inl e
  | .inr (hi,k)=>if hi<lo then .inl (j+1)else f k (x ||| AR lo hi))
 else f j (x ||| AR lo lo)
def Ie(t:ByteArray):Nat->Nat->BitVec 256->Sum Nat (BitVec 256×Nat)| 0,i,_=>.inl i | n+1,i,x=>if bt t i=93 then .inr (x,i+1)else match EL t ER i with | .inl e=>.inl e | .inr (lo,j)=>Pv t lo j x (Ie t n)
def Md(t:ByteArray)(i:Nat):Sum Nat (BitVec 256×Nat):=match Ie t (t.size+1) (if bt t i=94 then i+1 else i) 0#256 with
 | .inl e=>.inl e
 | .inr (x,k)=>.inr (if bt t i=94 then ~~~x else x,k)
def Ck(t:ByteArray)(i:Nat):Sum Nat (BitVec 256×Nat):=if bt t i=46 then .inr (~~~(AR 10 10),i+1)else if bt t i=91 then Md t (i+1)else match EL t Qf i with
 | .inl e=>.inl e
 | .inr (b,k)=>.inr (AR b b,k)
def AdJ{i:Nat}(h:L3 t i= .inr (c,j)):c<256/\i<j/\j<=t.size:=by unfold L3 at h;split at h;{cases h};rename_i f;have g:=Et f;obtain⟨b,-,-,l⟩:=CY g;split at h;{cases h;omega};split at h;{cases h;omega};split at h;{cases h;omega};split at h;{split at h;{cases h};rename_i a k;split at h;{cases h};rename_i m d;cases h;have n:=KJ k;have p:=KJ d;have q:i+2<t.size:=Et λe=>by{rw[e]at d;cases d};omega};split at h;{cases h};cases h;omega
def Gc{s:ByteArray}{i:Nat}(h:EL t s i= .inr (c,j)):c<256/\i<j/\j<=t.size:=by unfold EL at h;split at h;{have:=AdJ h;omega};split at h;{cases h};rename_i a;cases h;have d:i<t.size:=Et λe=>a (.inr (.inl zO));obtain⟨b,-,-,f⟩:=CY d;omega
def Rm{t:ByteArray}:∀{n i:Nat} {x y:BitVec 256} {k:Nat},Ie t n i x= .inr (y,k)->i<k/\k<=t.size
 | 0,i,x,y,k,h=>by cases h
 | n+1,i,x,y,k,h=>by
   unfold Ie at h;split at h
   ·rename_i d;cases h;have a:i<t.size:=Et λe=>zO
    omega
   ·split at h
    ·cases h
    ·rename_i lo j b;have:=Gc b;unfold Pv at h;split at h
     ·split at h
      ·cases h
      ·rename_i a f c;have:=Gc c;split at h
       ·cases h
       ·have:=Rm h;omega
     ·have:=Rm h;omega
def O2{i:Nat}{y:BitVec 256}{k:Nat}(h:Ck t i= .inr (y,k)):i<k/\k<=t.size:=by unfold Ck at h;split at h;{rename_i d;cases h;have f:i<t.size:=Et λe=>zO;omega};split at h;{unfold Md at h;split at h;{cases h};rename_i x c a;cases h;have:=Rm a;split at this<;>omega};split at h;{cases h};rename_i b c a;cases h;have:=Gc a;omega
def Ek:prog.underlying 9=zY .string:=rfl
abbrev oM(t:ByteArray)(i:Nat):List v_:=[.string t,B_ i]
abbrev yC(r:Nat)(t:ByteArray)(i:Nat):Pc:=pB 341 r (oM t i)
def Bx(c i:Nat):v_:=.iface 24 (.agg #[B_ c,B_ i,.string ⟨#[]⟩])
def LF{r i:Nat}(a:L_ H r 341 (oM t i)):AT prog 235 #[J_ r] H (.tuple #[.int .u8 (if bt t i=256 then 0 else(bt t i:Int)),.bool (zT (bt t i≠256))]):=by refine Am.of_vc func235 rfl (call235 _) (Ap.lex rfl zX (E_ ?_));refine C_ (a.cellE rfl) zA (E_ ?_);refine lT (a.cellE rfl) ?_;by_cases e:i<t.size;{have⟨b,f,c,g⟩:=CY e;have d:zT ((i:Int)<(t.size:Int))=zW:=Y';(conv=>whnf);rw[d];refine Ap.lex rfl zX (E_ ?_);refine C_ (a.cellE rfl) zA (E_ ?_);refine C_ (a.cellE rfl) zA (En Ek rfl f ?_);(conv=>whnf);refine⟨?_,A_.refl _ _⟩;rw[G_ zO,Y',c]};have c:=Gq e;have d:zT ((i:Int)<(t.size:Int))=zU:=j_;(conv=>whnf);rw[d];(conv=>whnf);refine⟨?_,A_.refl _ _⟩;rw[H_ c,j_]
def Dt{r:Nat}{e:Nat}:Aw prog 236 #[J_ r,B_ e] H (λ_ _=>False) (λx H'=>x=Bx 10 e/\H'=H):=by refine Aw.of_vc func236 rfl (call236 _) (Ad underlying24 rfl _ rfl [B_ 10,B_ e,.string ⟨#[]⟩] rfl ?_);(conv=>whnf);exact⟨rfl,rfl⟩
section
variable{α:Type}{ps:List α}{i:Nat}
def C6{p:α}(h:ps[i]?=zY p):ps.set i p=ps:=by refine wR λj=>?_;by_cases a:i=j;{subst a;rw[xW (P_.1 h).1,h]};rw[xX a]
def Jq{p q:α}(h:ps[i]?=zY p):(ps.set i q)[i]?=zY q:=xW (P_.1 h).1
end
def gW{B:Nat->Prop}{k r i:Nat}(y:t.size<=1152921504606846976)(m:D_ B H0 H ps)(d:ps[k]?=zY (yC r t i)):
  Aw prog 240 #[J_ r] H (λv H'=>∃c:Nat,L8 (bt t i)=zY c/\v= .int .u8 (c:Int)/\D_ B H0 H' (ps.set k (yC r t (i+1))))
   (λx H'=>L8 (bt t i)=zV/\x=Bx 10 i/\D_ B H0 H' (ps.set k (yC r t i))):=by refine Aw.of_vc func240 rfl (call240 _) (Ab.of (Af (LF (m.blk k d)) λH1 g=>?_));have st1:=m.call g;by_cases f:bt t i=256;{rw[H_ f,j_];refine Ab.of (Af (Jh AdZ 0 H1) λH2 e=>?_);have a:=st1.call e;refine Ah.run (E_ ?_);refine C_ ((a.blk k d).cellE rfl) zA (Ab.mk Dt (λ_ _ h=>h.elim) ?_);rintro _ _ ⟨rfl,rfl⟩;exact⟨by rw[f];rfl,rfl,by rw[C6 d];exact a⟩};{have n:=Et f;have⟨b,p,q,j⟩:=CY n;rw[G_ f,Y'];refine Ab.of (Af (Jh AdZ (bt t i) H1) λH2 e=>?_);have a:=st1.call e;rw[UI _ j];cases u:L8 (bt t i)with|none=>refine Ah.run (E_ ?_);refine C_ ((a.blk k d).cellE rfl) zA (Ab.mk Dt (λ_ _ h=>h.elim) ?_);rintro _ _ ⟨rfl,rfl⟩;exact⟨rfl,rfl,by rw[C6 d];exact a⟩|some c=>have z:=KJ u;have w:zT ((c:Int)<0)=zU:=j_;refine Ah.run ?_;(conv=>whnf);rw[w];refine E_ ?_;refine lT ((a.blk k d).cellE rfl) ?_;(conv=>whnf);rw[m_ (x:=(i:Int)+1) zO];refine E_ ?_;refine Bc a k d zZ rfl λH3 l=>?_;(conv=>whnf);rw[w8 (x:=(c:Int)) zO zO];(conv=>whnf);exact⟨c,rfl,rfl,l⟩}
def Ka{B:Nat->Prop}(c:DY H0)(a:B 0)(b:D_ B H0 H ps):DY H:=⟨c.1.eq (b.old _ a),b.up a⟩
def jQ{a b:Nat}(c:b<16):a*2^4 ||| b=16*a+b:=by have:=Nat.two_pow_add_eq_or_of_lt (i:=4) (b:=b) (by simpa using c) a;rw[Nat.mul_comm a,<-this]
section
variable{B:Nat->Prop}{k r i:Nat}
def Zo(hE:DY H0)(M:B 0)(ht:t.size<=1152921504606846976)(st:D_ B H0 H ps)(g:ps[k]?=zY (yC r t i)):
  Aw prog 237 #[J_ r] H (λv H'=>∃c j:Nat,L3 t i= .inr (c,j)/\v= .int .u8 (c:Int)/\D_ B H0 H' (ps.set k (yC r t j)))
   (λx H'=>∃e j:Nat,L3 t i= .inl e/\x=Bx 10 e/\D_ B H0 H' (ps.set k (yC r t j))):=by
 refine Aw.of_vc func237 rfl (call237 _) (Ab.of (Af (LF (st.blk k g)) λH1 N=>?_));have st1:=st.call N;by_cases D:bt t i=256;{rw[H_ D,j_];refine Ah.run ?_;(conv=>whnf);refine E_ ?_;refine C_ ((st1.blk k g).cellE rfl) zA (Ab.mk Dt (λ_ _ h=>h.elim) ?_);rintro _ _ ⟨rfl,rfl⟩;exact⟨i,i,by unfold L3;rw[H_ D],rfl,by rw[C6 g];exact st1⟩};have hi:=Et D;have⟨b,am,F,E⟩:=CY hi;rw[G_ D,Y'];obtain⟨c,O⟩:∃c,c=bt t i:=⟨_,rfl⟩;rw[<-O]at D E ⊢;refine Ah.run (K_ (cs:=UC) (Ka hE M st1).1 zA ?_);(conv=>whnf);refine CU.mk [22] (λn:Nat=>[B_ n]) (λn H1=>n<=3/\(∀j,j<n->(Ic j).1≠c)/\D_ B H0 H1 ps) (λn _=>3-n) ?_ ?_;{(conv=>whnf);exact⟨0,rfl,zO,λj K=>zO,st1⟩};{
 rintro n G P ⟨L,A,f⟩;refine Av.m2 (λhz=>?_) (λhz=>?_);{have Q:UC.toArray.extract (n*2) (n*2+2)= #[.int .u8 ((Ic n).1:Int),.int .u8 ((Ic n).2:Int)]:=by{have:n=0\/n=1\/n=2:=zO;rcases this with rfl | rfl | rfl<;>rfl};have R:(Ic n).1=c->L3 t i= .inr ((Ic n).2,i+1):=λe=>by{have:n=0\/n=1\/n=2:=zO;unfold L3;rw[<-O,G_ D];rcases this with rfl | rfl | rfl<;>(subst e;rfl)};have ao:(Ic n).1<256/\(Ic n).2<256:=by{have:n=0\/n=1\/n=2:=zO;rcases this with rfl | rfl | rfl<;>decide};refine lG gM zO zO ?_;rw[zG,Q];generalize hl:(Ic n).1=l at*;generalize (Ic n).2=v at*;refine Aq (.agg #[.int .u8 0,.int .u8 0]) [.int .u8 0,.int .u8 0] gT rfl ?_;intro p2 H2 S T F U;have V:=f.box S T F U;refine AB (cs:=[.int .u8 (l:Int),.int .u8 (v:Int)]) V ps.length rfl (by rw[y' (I_ _),vZ];rfl) (I_ _) rfl λH3 w=>?_;rw[List.set_append_right _ _ (I_ _),vZ,AA (by rfl)]at w;have E:L_ H3 p2 165 [.int .u8 (l:Int),.int .u8 (v:Int)]:=w.blk ps.length (by rw[y' (I_ _),vZ];rfl);have I:(ps++[pB 165 p2 [.int .u8 (l:Int),.int .u8 (v:Int)]])[k]?=zY (yC r t i):=by{rw[zE (P_.1 g).1];exact g};have J:∀{H':Aa} {q:Pc},D_ B H0 H' ((ps++[pB 165 p2 [.int .u8 (l:Int),.int .u8 (v:Int)]]).set k q)->D_ B H0 H' (ps.set k q):=λh=>by{rw[List.set_append_left _ _ (P_.1 g).1]at h;exact⟨h.old,h.lt0,h.size,λp g=>h.oks p (xU _ g),λp g=>h.rng p (xU _ g),(vW.1 h.dis).1⟩};(conv=>whnf);(try refine Ah.run ?_);refine E_ ?_;refine lT (E.cellE rfl) ?_;by_cases W:l=c;{have d:((l:Int)==(c:Int))=zW:=by{rw[W];exact beq_self_eq_true _};(conv=>whnf);rw[d];refine E_ ?_;refine lT ((w.blk k I).cellE rfl) ?_;(conv=>whnf);rw[m_ (x:=(i:Int)+1) zO];refine E_ ?_;refine Bc w k I zZ rfl λH4 m=>?_;have X:L_ H4 p2 165 [.int .u8 (l:Int),.int .u8 (v:Int)]:=m.blk ps.length (by{rw[xX (by have:=(P_.1 g).1;omega),y' (I_ _),vZ];rfl});refine E_ ?_;refine lT (X.cellE rfl) ?_;(conv=>whnf);exact⟨v,i+1,R W,rfl,J m⟩};{have d:((l:Int)==(c:Int))=zU:=beq_eq_false_iff_ne.2 zO;(conv=>whnf);rw[d];(conv=>whnf);rw[S_ n zO];refine⟨rfl,n+1,rfl,⟨zO,λj K=>?_,⟨w.old,w.lt0,w.size,λp g=>w.oks p (xU _ g),λp g=>w.rng p (xU _ g),(vW.1 w.dis).1⟩⟩,zO⟩;rcases tT (Nat.le_of_lt_succ K)with K | rfl;{exact A j K};{rw[hl];exact W}}};{
 obtain rfl:n=3:=zO
 have n0:(110:Nat)≠c:=A 0 zO;have n1:(114:Nat)≠c:=A 1 zO;have n2:(116:Nat)≠c:=A 2 zO;have u:L3 t i=(if c=120 then match L8 (bt t (i+1))with
   | none=>.inl (i+1)
   | some a=>match L8 (bt t (i+2))with
     | none=>.inl (i+2)
     | some b=>.inr (16*a+b,i+3)
  else if c<32\/126<c\/(48<=c/\c<=57)\/(97<=c/\c<=122)\/(65<=c/\c<=90)then .inl i else .inr (c,i+1)):=by
  unfold L3;rw[<-O,G_ D,G_ (Ne.symm n0),G_ (Ne.symm n1),G_ (Ne.symm n2)]
 by_cases Y:c=120;{rw[H_ Y]at u;have d:((c:Int)==(120:Int))=zW:=by{rw[Y];rfl};(conv=>whnf);(try refine Ah.run ?_);(conv=>whnf);rw[d];refine E_ ?_;refine lT ((f.blk k g).cellE rfl) ?_;(conv=>whnf);rw[m_ (x:=(i:Int)+1) zO];refine E_ ?_;refine Bc f k g zZ rfl λH4 m=>?_;have Z:(ps.set k (yC r t (i+1)))[k]?=zY (yC r t (i+1)):=Jq g;replace m:D_ B H0 H4 (ps.set k (yC r t (i+1))):=m;refine Ab.mk (gW ht m Z) ?_ ?_;{rintro _ H5 ⟨a,ha,rfl,y⟩;have ap:=KJ ha;rw[uU]at y;have a0:(ps.set k (yC r t (i+1+1)))[k]?=zY (yC r t (i+1+1)):=Jq g;refine lP (b:=4) zQ (I1 zO) (Ab.mk (gW ht y a0) ?_ ?_);{rintro _ H6 ⟨b2,C,rfl,z⟩;have a8:=KJ C;rw[uU]at z;refine rP (I1 zO) (I1 zO) ?_;rw[jQ a8];(conv=>whnf);exact⟨16*a+b2,i+3,by rw[u,ha];show(match L8 (bt t (i+1+1))with | none=>_ | some b=>_)=_;rw[C],rfl,z⟩};{rintro _ H6 ⟨L,rfl,z⟩;rw[uU]at z;exact⟨i+2,i+2,by rw[u,ha];show(match L8 (bt t (i+1+1))with | none=>_ | some b=>_)=_;rw[L],rfl,z⟩}};{rintro _ H5 ⟨L,rfl,y⟩;rw[uU]at y;exact⟨i+1,i+1,by rw[u,L],rfl,y⟩}};{rw[G_ Y]at u;have d:((c:Int)==(120:Int))=zU:=beq_eq_false_iff_ne.2 zO;(conv=>whnf);(try refine Ah.run ?_);(conv=>whnf);rw[d];clear d;refine Ah.run ?_;(conv=>whnf);by_cases a9:c<32;{skip;have d:zT ((c:Int)<32)=zW:=Y';(conv=>whnf);rw[d];clear d;(conv=>whnf);refine E_ ?_;refine C_ ((f.blk k g).cellE rfl) zA (Ab.mk Dt (λ_ _ h=>h.elim) ?_);rintro _ _ ⟨rfl,rfl⟩;exact⟨i,i,by rw[u,H_ zO],rfl,by rw[C6 g];exact f⟩};{skip;have d:zT ((c:Int)<32)=zU:=j_;(conv=>whnf);rw[d];clear d;by_cases ab:126<c;{skip;have d:zT ((c:Int)>126)=zW:=Y';(conv=>whnf);rw[d];clear d;(conv=>whnf);refine E_ ?_;refine C_ ((f.blk k g).cellE rfl) zA (Ab.mk Dt (λ_ _ h=>h.elim) ?_);rintro _ _ ⟨rfl,rfl⟩;exact⟨i,i,by rw[u,H_ zO],rfl,by rw[C6 g];exact f⟩};{skip;have d:zT ((c:Int)>126)=zU:=j_;(conv=>whnf);rw[d];clear d;by_cases ad:48<=c;{skip;have d:zT ((c:Int)>=48)=zW:=Y';(conv=>whnf);rw[d];clear d;by_cases ae:c<=57;{skip;have d:zT ((c:Int)<=57)=zW:=Y';(conv=>whnf);rw[d];clear d;(conv=>whnf);refine E_ ?_;refine C_ ((f.blk k g).cellE rfl) zA (Ab.mk Dt (λ_ _ h=>h.elim) ?_);rintro _ _ ⟨rfl,rfl⟩;exact⟨i,i,by rw[u,H_ zO],rfl,by rw[C6 g];exact f⟩};{skip;have d:zT ((c:Int)<=57)=zU:=j_;(conv=>whnf);rw[d];clear d;by_cases ah:97<=c;{skip;have d:zT ((c:Int)>=97)=zW:=Y';(conv=>whnf);rw[d];clear d;by_cases ai:c<=122;{skip;have d:zT ((c:Int)<=122)=zW:=Y';(conv=>whnf);rw[d];clear d;(conv=>whnf);refine E_ ?_;refine C_ ((f.blk k g).cellE rfl) zA (Ab.mk Dt (λ_ _ h=>h.elim) ?_);rintro _ _ ⟨rfl,rfl⟩;exact⟨i,i,by rw[u,H_ zO],rfl,by rw[C6 g];exact f⟩};{skip;have d:zT ((c:Int)<=122)=zU:=j_;(conv=>whnf);rw[d];clear d;have d:zT ((c:Int)>=65)=zW:=Y';(conv=>whnf);rw[d];clear d;have d:zT ((c:Int)<=90)=zU:=j_;(conv=>whnf);rw[d];clear d;(conv=>whnf);refine E_ ?_;refine lT ((f.blk k g).cellE rfl) ?_;(conv=>whnf);rw[m_ (x:=(i:Int)+1) zO];refine E_ ?_;refine Bc f k g zZ rfl λH4 m=>?_;(conv=>whnf);exact⟨c,i+1,by rw[u,G_ zO],rfl,m⟩}};{skip;have d:zT ((c:Int)>=97)=zU:=j_;(conv=>whnf);rw[d];clear d;by_cases aj:65<=c;{skip;have d:zT ((c:Int)>=65)=zW:=Y';(conv=>whnf);rw[d];clear d;by_cases ak:c<=90;{skip;have d:zT ((c:Int)<=90)=zW:=Y';(conv=>whnf);rw[d];clear d;(conv=>whnf);refine E_ ?_;refine C_ ((f.blk k g).cellE rfl) zA (Ab.mk Dt (λ_ _ h=>h.elim) ?_);rintro _ _ ⟨rfl,rfl⟩;exact⟨i,i,by rw[u,H_ zO],rfl,by rw[C6 g];exact f⟩};{skip;have d:zT ((c:Int)<=90)=zU:=j_;(conv=>whnf);rw[d];clear d;(conv=>whnf);refine E_ ?_;refine lT ((f.blk k g).cellE rfl) ?_;(conv=>whnf);rw[m_ (x:=(i:Int)+1) zO];refine E_ ?_;refine Bc f k g zZ rfl λH4 m=>?_;(conv=>whnf);exact⟨c,i+1,by rw[u,G_ zO],rfl,m⟩}};{skip;have d:zT ((c:Int)>=65)=zU:=j_;(conv=>whnf);rw[d];clear d;(conv=>whnf);refine E_ ?_;refine lT ((f.blk k g).cellE rfl) ?_;(conv=>whnf);rw[m_ (x:=(i:Int)+1) zO];refine E_ ?_;refine Bc f k g zZ rfl λH4 m=>?_;(conv=>whnf);exact⟨c,i+1,by rw[u,G_ zO],rfl,m⟩}}}};{skip;have d:zT ((c:Int)>=48)=zU:=j_;(conv=>whnf);rw[d];clear d;have d:zT ((c:Int)>=97)=zU:=j_;(conv=>whnf);rw[d];clear d;have d:zT ((c:Int)>=65)=zU:=j_;(conv=>whnf);rw[d];clear d;(conv=>whnf);refine E_ ?_;refine lT ((f.blk k g).cellE rfl) ?_;(conv=>whnf);rw[m_ (x:=(i:Int)+1) zO];refine E_ ?_;refine Bc f k g zZ rfl λH4 m=>?_;(conv=>whnf);exact⟨c,i+1,by rw[u,G_ zO],rfl,m⟩}}}}}}
def Nk{s:ByteArray}(J:DY H0)(w:B 0)(K:t.size<=1152921504606846976)(F:D_ B H0 H ps)(d:ps[k]?=zY (yC r t i)):
  Aw prog 229 #[J_ r,.string s] H (λv H'=>∃c j:Nat,EL t s i= .inr (c,j)/\v= .int .u8 (c:Int)/\D_ B H0 H' (ps.set k (yC r t j)))
   (λx H'=>∃e j:Nat,EL t s i= .inl e/\x=Bx 10 e/\D_ B H0 H' (ps.set k (yC r t j))):=by
 refine Aw.of_vc func229 rfl (call229 _) (Ab.of (Af (LF (F.blk k d)) λH1 y=>?_));have st1:=F.call y;by_cases q:bt t i=256;{rw[H_ q,j_];refine Ah.run ?_;(conv=>whnf);refine E_ ?_;refine C_ ((st1.blk k d).cellE rfl) zA (Ab.mk Dt (λ_ _ h=>h.elim) ?_);rintro _ _ ⟨rfl,rfl⟩;exact⟨i,i,by unfold EL;rw[q,G_ zQ,H_ (.inr (.inl zQ))],rfl,by rw[C6 d];exact st1⟩};have L:=Et q;have⟨b,M,N,z⟩:=CY L;rw[G_ q,Y'];obtain⟨c,A⟩:∃c,c=bt t i:=⟨_,rfl⟩;rw[<-A]at q z ⊢;by_cases n:c=92;{have f:((c:Int)==(92:Int))=zW:=by{rw[n];rfl};have p:EL t s i=L3 t (i+1):=by{unfold EL;rw[<-A,H_ n]};(conv=>whnf);rw[f];refine E_ ?_;refine lT ((st1.blk k d).cellE rfl) ?_;(conv=>whnf);rw[m_ (x:=(i:Int)+1) zO];refine E_ ?_;refine Bc st1 k d zZ rfl λH4 g=>?_;replace g:D_ B H0 H4 (ps.set k (yC r t (i+1))):=g;have C:(ps.set k (yC r t (i+1)))[k]?=zY (yC r t (i+1)):=Jq d;refine Ab.mk (Zo J w K g C) ?_ ?_;{rintro _ H5 ⟨a,j,D,rfl,l⟩;rw[uU]at l;(conv=>whnf);exact⟨a,j,by rw[p];exact D,rfl,l⟩};{rintro _ H5 ⟨e,j,D,rfl,l⟩;rw[uU]at l;exact⟨e,j,by rw[p];exact D,rfl,l⟩}};have O:((c:Int)==(92:Int))=zU:=beq_eq_false_iff_ne.2 zO;have p:EL t s i=if c<32\/126<c\/xQ s c=zW then .inl i else .inr (c,i+1):=by unfold EL;rw[<-A,G_ n]
 (conv=>whnf);rw[O];refine Ah.run ?_;(conv=>whnf);by_cases G:c<32;{skip;have f:zT ((c:Int)<32)=zW:=Y';(conv=>whnf);rw[f];clear f;(conv=>whnf);refine E_ ?_;refine C_ ((st1.blk k d).cellE rfl) zA (Ab.mk Dt (λ_ _ h=>h.elim) ?_);rintro _ _ ⟨rfl,rfl⟩;exact⟨i,i,by rw[p,H_ zO],rfl,by rw[C6 d];exact st1⟩};{skip;have f:zT ((c:Int)<32)=zU:=j_;(conv=>whnf);rw[f];clear f;by_cases I:126<c;{skip;have f:zT ((c:Int)>126)=zW:=Y';(conv=>whnf);rw[f];clear f;(conv=>whnf);refine E_ ?_;refine C_ ((st1.blk k d).cellE rfl) zA (Ab.mk Dt (λ_ _ h=>h.elim) ?_);rintro _ _ ⟨rfl,rfl⟩;exact⟨i,i,by rw[p,H_ zO],rfl,by rw[C6 d];exact st1⟩};{skip;have f:zT ((c:Int)>126)=zU:=j_;(conv=>whnf);rw[f];clear f;refine Ab.of (Af (Jh s c H1) λH2 E=>?_);have m:=st1.call E;(conv=>whnf);rw[WR];cases u:xQ s c with|true=>(conv=>whnf);refine E_ ?_;refine C_ ((m.blk k d).cellE rfl) zA (Ab.mk Dt (λ_ _ h=>h.elim) ?_);rintro _ _ ⟨rfl,rfl⟩;exact⟨i,i,by rw[p,H_ (.inr (.inr u))],rfl,by rw[C6 d];exact m⟩|false=>(conv=>whnf);refine E_ ?_;refine lT ((m.blk k d).cellE rfl) ?_;(conv=>whnf);rw[m_ (x:=(i:Int)+1) zO];refine E_ ?_;refine Bc m k d zZ rfl λH4 g=>?_;(conv=>whnf);exact⟨c,i+1,by rw[p,G_ (by rw[u];simp;omega)],rfl,g⟩}}
end
def CL(a:ReM):ReM:=.alt a .eps
def YU(q:Option ReM)(p:ReM):ReM:=match q with
 | none=>p
 | some q=>.cat q p
def DL(a:ReM)(m:Nat):Nat->Option ReM | 0=>zV | k+1=>zY (YU (DL a m k) (if k<m then a else CL a))
def FP(a:ReM)(m:Nat)(n:Int):ReM:=if n<0 then(if m=0 then .star a else .cat ((DL a m m).getD .eps) (.star a))else if n=0 then .eps else(DL a m n.toNat).getD .eps
structure AF where
 place:Int
 alt:Option ReM
 meet:Option ReM
 sign:Nat
 row:Option ReM
 factor:Option ReM
def AU(f:AF):AF:=match f.factor with
 | none=>f
 | some p=>{f with row:=zY (YU f.row p),factor:=zV}
def CZ(f:AF):AF:=let g:=AU f
 let r:=g.row.getD .eps
 {g with meet:=zY (match g.meet with | none=>r | some q=>if g.sign=38 then .and_ q r else .minus q r),row:=zV}
def CV(f:AF):AF:=let g:=CZ f
 let r:=g.meet.getD .eps
 {g with alt:=zY (match g.alt with | none=>r | some q=>.alt q r),meet:=zV}
def JJ(place:Int):AF:=⟨place,zV,zV,0,zV,zV⟩
def JY(t:ByteArray)(i:Nat):Bool:=zT (48<=bt t i/\bt t i<=57)
def Eb(t:ByteArray):Nat->Nat->Nat->Nat×Nat | 0,i,v=>(v,i)| k+1,i,v=>if JY t i then Eb t k (i+1) (10*v+(bt t i-48))else(v,i)
def uD(t:ByteArray)(m i:Nat):Sum (Nat×Nat) (Int×Nat):=if bt t i=44 then(if bt t (i+1)=125 then .inr (-1,i+1)else if JY t (i+1)then .inr (((Eb t 3 (i+1) 0).1:Int),(Eb t 3 (i+1) 0).2)else .inl (20,i+1))else .inr ((m:Int),i)
def NI(t:ByteArray)(from_ m:Nat)(n:Int)(i:Nat):Sum (Nat×Nat) (Nat×Int×Nat):=if bt t i=125 then(if 255<m\/255<n\/(0<=n/\n<(m:Int))then .inl (22,from_)else .inr (m,n,i+1))else .inl (20,i)
def DB(t:ByteArray)(from_:Nat):Sum (Nat×Nat) (Nat×Int×Nat):=if JY t (from_+1)then(match uD t (Eb t 3 (from_+1) 0).1 (Eb t 3 (from_+1) 0).2 with
  | .inl e=>.inl e
  | .inr (n,i)=>NI t from_ (Eb t 3 (from_+1) 0).1 n i)
 else .inl (20,from_+1)
def Gb{t:ByteArray}:∀(k i v:Nat),i<=(Eb t k i v).2/\(Eb t k i v).2<=i+k/\(i<=t.size->(Eb t k i v).2<=t.size)
 | 0,i,v=>⟨I_ _,I_ _,λh=>h⟩
 | k+1,i,v=>by
   unfold Eb;split
   ·rename_i h;have⟨b,c,a⟩:=Gb (t:=t) k (i+1) (10*v+(bt t i-48));unfold JY at h;have h:=of_decide_eq_true h;have d:i<t.size:=Et zO;exact⟨zO,zO,λ_=>a zO⟩
   ·exact⟨I_ _,zO,λh=>h⟩
def Nj{t:ByteArray}:∀(k i v:Nat),(Eb t k i v).1<(v+1)*10^k
 | 0,i,v=>by unfold Eb;simp
 | k+1,i,v=>by
   unfold Eb;split
   ·rename_i h;unfold JY at h;have h:=of_decide_eq_true h;have a:=Nj (t:=t) k (i+1) (10*v+(bt t i-48));refine Nat.lt_of_lt_of_le a ?_;rw[Nat.pow_succ,Nat.mul_comm (10^k) 10,<-Nat.mul_assoc];exact Nat.mul_le_mul_right _ zO
   ·show v<(v+1)*10^(k+1);have:1<=10^(k+1):=Nat.one_le_pow _ _ zO;have:=Nat.mul_le_mul (I_ (v+1)) this;omega
def N9{m:Nat}{n:Int}(h:DB t p= .inr (m,n,j)):p<j/\j<=t.size/\m<=255/\n<=255/\(0<=n->(m:Int)<=n)/\ -1<=n:=by unfold DB at h;split at h;{obtain⟨a1,a2,-⟩:=Gb (t:=t) 3 (p+1) 0;generalize Eb t 3 (p+1) 0=q at h a1 a2;split at h;{cases h};rename_i e c a;have b:q.2<=c/\ -1<=e:=by{unfold uD at a;split at a;{split at a;{cases a;exact⟨zO,zO⟩};split at a;{obtain⟨f,g,-⟩:=Gb (t:=t) 3 (q.2+1) 0;cases a;exact⟨zO,zO⟩};cases a};cases a;exact⟨I_ _,zO⟩};unfold NI at h;split at h;{rename_i d;split at h;{cases h};rename_i k;cases h;have:c<t.size:=Et zO;refine⟨zO,zO,?_,?_,?_,b.2⟩<;>omega};cases h};cases h
def HX(c:Nat):Bool:=c==42|| c==43|| c==63|| c==123
def GW(t:ByteArray)(i:Nat):Sum (Nat×Nat) (Nat×Int×Nat):=if bt t i=42 then .inr (0,-1,i+1)else if bt t i=43 then .inr (1,-1,i+1)else if bt t i=63 then .inr (0,1,i+1)else DB t i
structure RdS where
 i:Nat
 f:AF
 fs:List AF
def Ci(t:ByteArray)(s:RdS):Sum (Nat×Nat) RdS:=if HX (bt t s.i)then(match s.f.factor with
  | none=>.inl (20,s.i)
  | some a=>match GW t s.i with
    | .inl e=>.inl e
    | .inr (m,n,k)=>.inr ⟨k,{s.f with factor:=zY (FP a m n)},s.fs⟩)
 else if bt t s.i=124 then .inr ⟨s.i+1,CV s.f,s.fs⟩
 else if bt t s.i=38\/bt t s.i=45 then .inr ⟨s.i+1,{CZ s.f with sign:=bt t s.i},s.fs⟩
 else if bt t s.i=41 then(match s.fs with
  | []=>.inl (20,s.i)
  | g::r=>.inr ⟨s.i+1,{g with factor:=(CV s.f).alt},r⟩)
 else if bt t s.i=40 then(if 1000<=s.fs.length then .inl (23,s.i)else .inr ⟨s.i+1,JJ s.i,AU s.f::s.fs⟩)
 else match Ck t s.i with
  | .inl e=>.inl (10,e)
  | .inr (x,k)=>.inr ⟨k,{AU s.f with factor:=zY (.cls x)},s.fs⟩
def Tn{s c:RdS}(h:Ci t s= .inr c)(b:s.i<t.size):s.i<c.i/\c.i<=t.size:=by unfold Ci at h;split at h;{rename_i e;split at h;{cases h};split at h;{cases h};rename_i m n k a;cases h;unfold GW at a;split at a;{cases a;exact⟨tG _,b⟩};split at a;{cases a;exact⟨tG _,b⟩};split at a;{cases a;exact⟨tG _,b⟩};have:=N9 a;exact⟨this.1,this.2.1⟩};split at h;{cases h;exact⟨tG _,b⟩};split at h;{cases h;exact⟨tG _,b⟩};split at h;{split at h;{cases h};cases h;exact⟨tG _,b⟩};split at h;{split at h;{cases h};cases h;exact⟨tG _,b⟩};split at h;{cases h};rename_i x k d;cases h;exact O2 d
def qP(s:RdS):Sum (Nat×Int) ReM:=match s.fs with
 | []=>let r:=(CV s.f).alt.getD .eps;if 2000<r.nodes then .inl (24,0)else .inr r
 | _::_=>.inl (21,s.f.place)
def fE(e:Nat×Nat):Nat×Int:=(e.1,(e.2:Int))
def GX(t:ByteArray):Nat->RdS->Sum (Nat×Int) ReM | 0,s=>qP s | n+1,s=>if s.i<t.size then(match Ci t s with | .inl e=>.inl (fE e)| .inr s'=>GX t n s')else qP s
def Cr(t:ByteArray)(s:RdS):Sum (Nat×Int) ReM:=GX t (t.size-s.i) s
def Fi{t:ByteArray}:∀(n m:Nat) (s:RdS),t.size-s.i<=n->t.size-s.i<=m->GX t n s=GX t m s
 | 0,0,s,_,_=>rfl
 | 0,m+1,s,h,_=>by unfold GX;rw[G_ (by omega)]
 | n+1,0,s,_,h=>by unfold GX;rw[G_ (by omega)]
 | n+1,m+1,s,h1,h2=>by
   unfold GX;by_cases a:s.i<t.size
   ·rw[H_ a,H_ a];cases hs:Ci t s with
    | inl e=>rfl
    | inr b=>
      have:=Tn hs a;exact Fi n m b zO zO
   ·rw[G_ a,G_ a]
def E5{s a:RdS}(b:s.i<t.size)(h:Ci t s= .inr a):Cr t s=Cr t a:=by have c:=Tn h b;have e:Cr t s=GX t (t.size-s.i-1+1) s:=Fi _ _ _ (I_ _) zO;rw[e,GX,H_ b,h];exact Fi _ _ _ zO (I_ _)
def EN{s:RdS}{e:Nat×Nat}(a:s.i<t.size)(h:Ci t s= .inl e):Cr t s= .inl (fE e):=by have b:Cr t s=GX t (t.size-s.i-1+1) s:=Fi _ _ _ (I_ _) zO;rw[b,GX,H_ a,h]
def Tj{s:RdS}(a:¬s.i<t.size):Cr t s=qP s:=by unfold Cr;rw[(zO:t.size-s.i=0)];rfl
def GD(t:ByteArray):Sum (Nat×Int) ReM:=if 1048576<t.size then .inl (1,0)else Cr t ⟨0,JJ (-1),[]⟩
end Go.Proofs.YtjbnocjgdmnkoaaGreatDoor
