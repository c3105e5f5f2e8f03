import Derived.Test.YtjbnocjgdmnkoaaGreatDoorKBy7
import Derived.Test.YtjbnocjgdmnkoaaGreatDoorRows
import Derived.Lib.LaidTab
import Derived.OpenShut
import Derived.ChangeSame
import Derived.Deep.DeepHandedRow
import Derived.ProofKit
import Derived.JoinedCond
import Derived.WideKeyArgs
set_option maxHeartbeats 100000000
open List renaming cons -> AkY
open Option renaming some -> Al1
set_option maxRecDepth 100000
open Go.Proofs.Tryz
open Go renaming Program -> w_, TypeId -> x_, Value -> v_, World -> y_, Operand -> z_
open Option renaming some -> zY, none -> zV
open Bool renaming true -> zW, false -> zU
open Decidable renaming decide -> zT
set_option linter.unusedVariables false
set_option linter.unusedSimpArgs false
set_option linter.defProp false
namespace Go.Proofs.YtjbnocjgdmnkoaaGreatDoor
variable{P:w_}{p c a n g c':Nat}{S:Nat->Prop}{H:Aa}{K:v_->Prop}{r:ReM}{kt:x_}{b:Int}{w w' d u':ByteArray}{u:List Nat}{x y:z_}{enc:x_×v_->Unit}{sp:Nat->Bool}{cs:List v_}{W W':y_}{h:Bool}
def mE(a b:Int):Int:=if a<b then b else a
def HA(a b:Nat):mE a b=((max a b:Nat):Int):=by unfold mE;split<;>omega
def AkD{e:Array x_}{t:x_}{k f g j:IntKind}{b d:Nat}(h:K (.int k ((max (max (max a b) c) d:Nat):Int))):A8 P (Builtin.max_ e t [.int k (a:Int),.int f (b:Int),.int g (c:Int),.int j (d:Int)].toArray) S H K:=by refine A8.mk _ (λw _=>?_) h;rw[<-HA,<-HA,<-HA];simp[Builtin.max_,Builtin.max2,mE]
def AkE{f:Array x_}{t:x_}{k g j l m:IntKind}{b d e:Nat}(h:K (.int k ((max (max (max (max a b) c) d) e:Nat):Int))):A8 P (Builtin.max_ f t [.int k (a:Int),.int g (b:Int),.int j (c:Int),.int l (d:Int),.int m (e:Int)].toArray) S H K:=by refine A8.mk _ (λw _=>?_) h;rw[<-HA,<-HA,<-HA,<-HA];simp[Builtin.max_,Builtin.max2,mE]
open Go.Lib
def QuM.small:QuM->Prop | .nil=>True | .mk _ o i a b=>o.nodes<=1000000000/\i.nodes<=1000000000/\a.small/\b.small
def LnM.small:LnM->Prop | .nil=>True | .mk _ s v q a b=>s.nodes<=1000000000/\v.nodes<=1000000000/\q.small/\a.small/\b.small
def Nb{B:Nat->Prop}{v:v_}(g:r.nodes<=1000000000)(c:Eo prog H)(h:AuV B H v r):Am prog 18 #[Al r,B_ 4096] H λR H'=>A_ (F_ H) H H'/\R= .tuple #[B_ (Br r:Int),B_ 0]:=by obtain⟨A,-,j⟩:=h;obtain⟨d,m,e,-⟩:=j.ex;refine(ZI r g (b:=4096) c).mono ?_;rintro R H' ⟨a,f⟩;rw[e]at f;refine⟨a,?_⟩;unfold Br;rw[e];exact f
def QF:∀(Q:QuM) {B:Nat->Prop} {H:Aa} {v:v_},Q.small->(∀k,B k->k<H.size)->Eo prog H->QuV B H Q v->Am prog 19 #[v] H λR H'=>A_ (F_ H) H H'/\R= .int .i64 (Db Q:Int)
 | .nil,B,H,v,_,hB,_,h=>by
   obtain rfl:=h;refine Am.of_vc func19 rfl (call19 _) ?_
   repeat ((conv=>whnf);first | refine AC.run ?_ | refine Pi underlying37 ?_)
   exact⟨A_.refl _ _,rfl⟩
 | .mk t o i x y,B,H,v,hs,hB,hpow,h=>by
   obtain⟨g,vt,G,I,vx,vy,rfl,r,j,-,-,z,A,u,w⟩:=h;have⟨C,D,E,F⟩:=hs;have l:= @QF x;have m:= @QF y;refine Am.of_vc func19 rfl (call19 _) ?_
   repeat ((conv=>whnf);first | refine AC.run ?_ | refine Oo underlying37 ?_ | refine E_ ?_ | refine C_ (j.cellE rfl) zA ?_)
   refine An.mk (Nb C hpow z) ?_;rintro _ H1 ⟨a1,rfl⟩;have n:=j.agr a1 (hB g r)
   repeat ((conv=>whnf);first | refine AC.run ?_ | refine E_ ?_ | refine C_ (n.cellE rfl) zA ?_)
   refine An.mk (Nb D (hpow.agr a1) (A.up (λ_ h=>h) (a1.mono hB))) ?_;rintro _ H2 ⟨a2,rfl⟩;have a:A_ (F_ H) H H2:=a1.trans (a2.mono λk b=>Ak a1 b);have p:∀k,B k->k<H2.size:=λk b=>Ak a (hB k b);have d:=j.agr a (hB g r);obtain⟨J,rfl⟩:=u.ptr;obtain⟨K,rfl⟩:=w.ptr
   repeat (refine AC.run ?_)
   refine Ap.heldZ (F_ H2) [] (sq [0,1,2,3,4,5,7,8,9,10] (.f 6 (.f 11 (sq [12,13] .e)))) rfl zX ?_
   repeat ((conv=>whnf);first | refine E_ ?_ | refine C_ (d.cellE rfl) d.lt ?_)
   refine An.mk (l E p (hpow.agr a) (u.up (λ_ h=>h) (a.mono hB))) ?_;rintro _ H3 ⟨a3,rfl⟩;refine⟨a3,?_⟩;have c:A_ (F_ H) H H3:=a.trans (a3.mono λk b=>Ak a b);have q:∀k,B k->k<H3.size:=λk b=>Ak c (hB k b);refine An.mk (m F q (hpow.agr c) (w.up (λ_ h=>h) (c.mono hB))) ?_;rintro _ H4 ⟨a4,rfl⟩;refine⟨a3.trans (a4.mono λk b=>Ak a3 b),?_⟩;refine AkD ?_;(conv=>whnf);exact⟨c.trans (a4.mono λk b=>Ak c b),rfl⟩
def AiX{t et e:x_}{z:v_}{b:Nat}{m:Nat->Option v_}(f:D4 P t kt et z)(l:Qy P kt e)(h:Ew zD H b m)(x:Er H e a)(c:∀g v,m g=zY v->Er H e g/\S g)(y:S b)(n:S a)(k:K ((m a).getD z)):A8 P (Instr.lookup t (.map (zY b)) (zD a) zU) S H K:=by have⟨F,p,A,G,B,C⟩:=h;refine A8.mk _ (λw q=>?_) k;have d:=(q b y).trans A;rcases Kd l (w:=w) (x.agr q n) (λg v u=>(c g v u).1.agr q (c g v u).2) B C with⟨r,e2,D⟩ | ⟨j,e,r,e2,D,E⟩;{simp[Instr.lookup,run_underlying f.under,Go.MapKept.run_getObj_map d,Fp l,r,FN f.zero,e2]};simp[Instr.lookup,run_underlying f.under,Go.MapKept.run_getObj_map d,Fp l,r,E]
def ZO:D4 prog 48 29 3 (.int .i64 0):=⟨rfl,rfl⟩
def mK:Qy prog 29 39:=⟨rfl,_,rfl,zQ⟩
def Nz{B B':Nat->Prop}{H:Aa}:∀{Q Q':QuM} {v:v_},QuV B H Q v->QuV B' H Q' v->Db Q=Db Q'
 | .nil,Q',v,h,h'=>by
   have e:v= .pointer zV:=h;subst e;cases Q' with
   | nil=>rfl
   | mk=>obtain⟨g,vt,d,f,vx,vy,e,-⟩:=h';cases e
 | .mk t o i x y,Q',v,h,h'=>by
   obtain⟨g,vt,d,f,vx,vy,rfl,C,j,-,-,D,E,k,l⟩:=h;cases Q' with
   | nil=>cases h'
   | mk F G I J K=>
     obtain⟨L,m,n,p,q,r,e,u,a,-,-,w,z,b,c⟩:=h';cases e;have:=MQ j a;simp only[AkY.injEq,and_true]at this;obtain⟨-,A,e2,-,-,rfl,rfl⟩:=this;unfold Db;rw[DP A,DP e2,Nz k b,Nz l c]
def Nv{B B':Nat->Prop}{H:Aa}:∀{L L':LnM} {v:v_},LnV B H L v->LnV B' H L' v->Bq L=Bq L'
 | .nil,L',v,h,h'=>by
   have e:v= .pointer zV:=h;subst e;cases L' with
   | nil=>rfl
   | mk=>obtain⟨g,vt,vs,f,vq,vx,vy,e,-⟩:=h';cases e
 | .mk t s w q x y,L',v,h,h'=>by
   obtain⟨g,vt,vs,f,vq,vx,vy,rfl,G,j,-,-,hs,I,k,l,m⟩:=h;cases L' with
   | nil=>cases h'
   | mk J K M N O P=>
     obtain⟨Q,n,p,r,u,z,A,e,C,a,-,-,D,E,b,c,d⟩:=h';cases e;have:=MQ j a;simp only[AkY.injEq,and_true]at this;obtain⟨-,F,e2,-,-,rfl,rfl,rfl⟩:=this;unfold Bq;rw[DP F,DP e2,Nz k b,Nv l c,Nv m d]
variable{L:LnM}
def UQ{B:Nat->Prop}(h:LnV B H L (zD a)):Er H 39 a/\B a:=by cases L with|nil=>cases h|mk=>obtain⟨g,vt,vs,d,vq,vx,vy,e,b,c,-⟩:=h;cases e;exact⟨⟨_,c⟩,b⟩
def LZ(B:Nat->Prop)(H:Aa)(nb:Nat):Prop:=∃md:Nat->Option v_,Ew zD H nb md/\∀a u,md a=zY u->∃L,LnV B H L (zD a)/\u= .int .i64 (Bq L:Int)
section
variable{B:Nat->Prop}{H':Aa}{nb:Nat}
def LZ.up(h:LZ B H nb)(b:A_ B H H')(c:H'[nb]?=H[nb]?):LZ B H' nb:=by have⟨d,e,f⟩:=h;refine⟨d,e.agr (S:=λk=>k=nb) (λk g=>by rw[g];exact c) rfl,λa u j=>?_⟩;have⟨L,l,m⟩:=f a u j;exact⟨L,l.up (λ_ h=>h) b,m⟩
def LZ.old(h:LZ B H nb)(b:∀k,B k->k<H.size)(c:nb<H.size)(a:A_ (F_ H) H H'):LZ B H' nb:=h.up (a.mono b) (a nb c)
end
def Rd:∀(L:LnM) {B:Nat->Prop} {H:Aa} {v:v_} {nb:Nat},L.small->(∀k,B k->k<H.size)->¬B nb->nb<H.size->Ny B H->LZ B H nb->LnV B H L v->Am prog 11 #[v,.map (zY nb)] H λR H'=>q_ nb H H'/\LZ B H' nb/\R= .int .i64 (Bq L:Int)
 | .nil,B,H,v,nb,_,hB,_,_,_,hn,h=>by
   obtain rfl:=h;refine Am.of_vc func11 rfl (call11 _) ?_
   repeat ((conv=>whnf);first | refine AC.run ?_ | refine Pi underlying29 ?_)
   exact⟨.refl,hn,rfl⟩
 | .mk t s w q x y,B,H,v,nb,hsm,hB,hnB,hnl,hpow,hn,h=>by
   have hL:=h;obtain⟨g,vt,vs,vv,vq,vx,vy,rfl,A,C,-,-,hs,hw,hq,hx,hy⟩:=h;have⟨s1,s2,s3,s4,s5⟩:=hsm;have U:= @Rd x;have V:= @Rd y;have D:=hB g A;have m:=hn;have⟨md,W,hd⟩:=hn;refine Am.of_vc func11 rfl (call11 _) ?_
   repeat ((conv=>whnf);first | refine AC.run ?_ | refine Oo underlying29 ?_)
   refine ST ZO mK W ⟨_,C⟩ (λa u j=>by obtain⟨L,l,-⟩:=hd a u j;exact⟨(UQ l).1,trivial⟩) zA zA ?_;cases X:md g with
   | some u=>
     obtain⟨L',l,rfl⟩:=hd g u X
     repeat (refine AC.run ?_)
     (conv=>whnf);exact⟨.refl,m,by rw[Nv hL l];rfl⟩
   | none=>
     repeat ((conv=>whnf);first | refine AC.run ?_ | refine E_ ?_ | refine C_ (C.cellE rfl) zA ?_)
     refine An.mk (Nb s1 hpow.1 hs) ?_;rintro _ H1 ⟨a1,rfl⟩;have Y:=C.agr a1 D
     repeat ((conv=>whnf);first | refine AC.run ?_ | refine E_ ?_ | refine C_ (Y.cellE rfl) zA ?_)
     refine An.mk (Nb s2 (hpow.1.agr a1) (hw.up (λ_ h=>h) (a1.mono hB))) ?_;rintro _ H2 ⟨a2,rfl⟩;have c:A_ (F_ H) H H2:=a1.trans (a2.mono λk b=>Ak a1 b);have E:∀k,B k->k<H2.size:=λk b=>Ak c (hB k b);have F:=C.agr c D;have n2:=m.old hB hnl c;have Z:=c.mono hB;have ab:g≠nb:=λe=>hnB (by rw[<-e];exact A);obtain⟨pq,rfl⟩:=hq.ptr;obtain⟨px,rfl⟩:=hx.ptr;obtain⟨py,rfl⟩:=hy.ptr
     repeat (refine AC.run ?_)
     refine Ap.heldZ (λk=>k=g) [22] (sq [0,1,2,3,4,5,6,7,9,10,11,12,13,15,16,17,18,19] (.f 8 (.f 14 (.f 20 (sq [21] (.f 22 .e)))))) rfl zX ?_
     repeat ((conv=>whnf);first | refine E_ ?_ | refine C_ (F.cellE rfl) rfl ?_)
     refine An.mk (QF q s3 E (hpow.1.agr c) (hq.up (λ_ h=>h) Z)) ?_;rintro _ H3 ⟨a3,rfl⟩;refine⟨a3.mono λk b=>by rw[b];exact F.lt,?_⟩;have d:A_ (F_ H) H H3:=c.trans (a3.mono λk b=>Ak c b);have n:∀k,B k->k<H3.size:=λk b=>Ak d (hB k b);have p:=d.mono hB;refine An.mk (U s4 n hnB (Ak d hnl) (hpow.up (λ_ h=>h) p) (m.old hB hnl d) (hx.up (λ_ h=>h) p)) ?_;rintro _ H4 ⟨T,n4,rfl⟩;have r:A_ B H3 H4:=T.to n hnB;have G:A_ B H2 H3:=a3.mono E;refine⟨(G.trans r).mono λk b=>by rw[b];exact A,?_⟩;have z:A_ B H H4:=p.trans r;have I:∀k,B k->k<H4.size:=λk b=>yQ (n k b) T.sz;have l4:nb<H4.size:=yQ (Ak d hnl) T.sz;refine An.mk (V s5 I hnB l4 (hpow.up (λ_ h=>h) z) n4 (hy.up (λ_ h=>h) z)) ?_;rintro _ H5 ⟨x5,n5,rfl⟩;have J:A_ B H4 H5:=x5.to I hnB;refine⟨((G.trans r).trans J).mono λk b=>by rw[b];exact A,?_⟩;have K:A_ B H H5:=z.trans J;refine AkE ?_;have⟨a0,a8,M⟩:=n5;refine ZT ZO mK a8 ⟨_,C.agr K A⟩ (λa u j=>by obtain⟨L,l,-⟩:=M a u j;exact(UQ l).1) ?_;intro H6 N a6 z6;have O:A_ B H5 H6:=a6.mono λk b e=>hnB (by rw[<-e];exact b);have P:A_ B H H6:=K.trans O;have a9:=hL.up (λ_ h=>h) P;have Q:∀a u,put a0 g (zY (.int .i64 ((max (max (max (max (Br s) (Br w)) (Db q)) (Bq x)) (Bq y):Nat):Int))) a=zY u->∃L,LnV B H6 L (zD a)/\u= .int .i64 (Bq L:Int):=λa u j=>by
      by_cases S:a=g
      ·subst S;rw[BU]at j;cases j;exact⟨_,a9,rfl⟩
      ·rw[D3 S]at j;have⟨L,l,k2⟩:=M a u j;exact⟨L,l.up (λ_ h=>h) O,k2⟩
     refine AiX ZO mK N ⟨_,C.agr P A⟩ (λa u j=>by obtain⟨L,l,-⟩:=Q a u j;exact⟨(UQ l).1,trivial⟩) zA zA ?_;rw[BU];(conv=>whnf);exact⟨(q_.old d).trans (T.trans (x5.trans ⟨a6.mono λk b=>b.2,zO⟩)),⟨_,N,Q⟩,rfl⟩
def QH{B:Nat->Prop}{v:v_}(hs:L.small)(d:∀k,B k->k<H.size)(c:Ny B H)(h:LnV B H L v):Am prog 7 #[v] H λR H'=>A_ (F_ H) H H'/\R= .int .i64 (Bq L:Int):=by refine Am.of_vc func7 rfl (call7 _) (SU (enc:=zD) ?_);intro nb H1 e f g j;have a1:=j.new e;refine An.mk (Rd L hs (λk b=>Ak a1 (d k b)) (λb=>by have:=d nb b;omega) zO (c.up (λ_ h=>h) (a1.mono d)) ⟨_,g,λa u h=>by cases h⟩ (h.up (λ_ h=>h) (a1.mono d))) ?_;rintro _ H2 ⟨l,-,rfl⟩;(conv=>whnf);exact⟨a1.trans (l.ag.mono λk b=>⟨Ak a1 b,by unfold F_ at b;omega⟩),rfl⟩
def JU:∀{t:Tm} {b:Nat} {Q:QuM},t.wf=zW->t.sz<=1000000000->D5 b t= .inr Q->Q.small | .txt ..,b,Q,_,_,h | .rx ..,b,Q,_,_,h | .le ..,b,Q,_,_,h | .nil,b,Q,_,_,h=>by cases h;trivial | .ca p op n to back x y,b,Q,hw,hz,h=>by have hs:=FW hw rfl h;simp only[D5]at h;have⟨A,d,h⟩:=Ax h;have⟨C,e,h⟩:=Ax h;have⟨r,j,h⟩:=Ax h;obtain⟨_,-,h⟩:=Ax h;obtain⟨_,-,h⟩:=Ax h;obtain⟨_,-,h⟩:=Ax h;cases h;unfold Tm.wf at hw;simp only[o_]at hw;obtain⟨⟨f,a⟩,c⟩:=hw;rw[Me]at hz;have g:r.1.nodes<=(Tm.ca p op n to back x y).sz:=hs.1;have e2:r.2.nodes<=(Tm.ca p op n to back x y).sz:=hs.2;rw[Me]at g e2;exact⟨zO,zO,JU a zO d,JU c zO e⟩
variable{t:Tm}
def PQ{x:Bool}{b:Nat}{Q:QuM}(a:t.wf=zW)(c:t.sz<=1000000000)(h:uC b x t= .inr Q):Q.small:=by cases x;{cases h;trivial};exact JU a c h
def JT:∀{t:Tm} {b:Nat} {L:LnM},t.wf=zW->t.sz<=1000000000->Dg b t= .inr L->L.small
 | .txt ..,b,L,_,_,h | .rx ..,b,L,_,_,h | .ca ..,b,L,_,_,h | .nil,b,L,_,_,h=>by cases h;trivial
 | .le p op n w q x y,b,L,hw,hz,h=>by
   have hs:=Jd hw rfl h;simp only[Dg]at h;have⟨Q1,e,h⟩:=Ax h;have⟨A,f,h⟩:=Ax h;have⟨C,g,h⟩:=Ax h;have⟨Q2,j,h⟩:=Ax h;have⟨r,m,h⟩:=Ax h;cases h;unfold Tm.wf at hw;simp only[o_]at hw;obtain⟨⟨⟨k,a⟩,c⟩,d⟩:=hw;rw[Mp]at hz;have l:r.1.nodes<=(Tm.le p op n w q x y).sz:=hs.1;have e2:r.2.nodes<=(Tm.le p op n w q x y).sz:=hs.2;rw[Mp]at l e2;refine⟨zO,zO,?_,JT c zO f,JT d zO g⟩;split
   ·exact PQ a zO e
   ·exact PQ a zO j
def Ae7{x:v_}(p:b<1\/4096<b):Am prog 9 #[x,B_ b] H λR H'=>A_ (F_ H) H H'/\R= .tuple #[.pointer zV,tY 2 0 nx]:=by
 refine Am.of_rest func9 rfl (call9 _) (Bn.seq (Aq (.pointer zV) [.pointer zV] rfl rfl ?_));intro q H1 h j e k;have st1:=(St.nil H).box h j e k;refine Aq (Bb 0 0) (Ae 0 0) BY rfl ?_;intro r H2 l m f n;have g:D_ (F_ H) H H2 (Mr q r (.pointer zV) (t_ 0 0 nx)):=st1.box l m f n;refine Bn.seq ?_;by_cases c:b<1;have c:=a_ c;repeat ((conv=>whnf);first | rw[c] | refine AC.run ?_ | refine Ad underlying24 rfl _ rfl (t_ 2 0 nx) rfl ?_)
 rotate_left
 have t:=a_ (p.resolve_left c);have c:=b_ c;repeat ((conv=>whnf);first | rw[c] | rw[t] | refine AC.run ?_ | refine Ad underlying24 rfl _ rfl (t_ 2 0 nx) rfl ?_)
 all_goals refine Bc g 0 rfl zZ rfl λH3 d=>(AB (cs:=t_ 2 0 nx) d 1 rfl rfl (I_ _) rfl λH4 a=>?_);(conv=>whnf);refine C_ ((a.blk 0 rfl).cellE rfl) zA (K_ (cs:=t_ 2 0 nx) (FZ (a.blk 1 rfl)) zA ?_);exact⟨a.old,rfl⟩
def AlS(x:v_)(w:y_):(callMethod (.iface 132 x) "Place" #[]).run prog w= .ok (.enter 279 #[x]) w:=zX
def AmB{s:ByteArray}:AT prog 279 #[.agg #[B_ p,.string s]] H (.int .i64 (p:Int)):=by refine Am.of_vc func279 rfl (call279 _) (BF [B_ p,.string s] rfl ?_);intro q H1 d b a c;have e:=(St.nil H).box d b a c;refine E_ ?_;refine lT (a.cellE rfl) ?_;(conv=>whnf);exact⟨rfl,e.old⟩
def AlQ(x:v_)(w:y_):(callMethod (.iface 103 x) "Place" #[]).run prog w= .ok (.enter 275 #[x]) w:=zX
def Am9{l:List v_}(a:L_ H g 191 (.int .i64 (p:Int)::l)):AT prog 275 #[J_ g] H (.int .i64 (p:Int)):=by refine Am.of_vc func275 rfl (call275 _) (E_ ?_);refine lT (a.cellE rfl) ?_;(conv=>whnf);exact⟨rfl,A_.refl _ _⟩
def AlR(x:v_)(w:y_):(callMethod (.iface 137 x) "Place" #[]).run prog w= .ok (.enter 282 #[x]) w:=zX
def AmA:AT prog 282 #[.agg #[B_ p,Al r]] H (.int .i64 (p:Int)):=by have⟨T,y,e⟩:=AN r;rw[e];refine Am.of_vc func282 rfl (call282 _) (BF [B_ p,.iface T y] rfl ?_);intro q H1 d b a c;have f:=(St.nil H).box d b a c;refine E_ ?_;refine lT (a.cellE rfl) ?_;(conv=>whnf);exact⟨rfl,f.old⟩
def ZG{T:x_}{v:v_}(h:T≠33):AT prog 14 #[.iface T v] H (.tuple #[.pointer zV,.bool zU]):=by refine Am.of_vc func14 rfl (call14 _) (nE ?_ h);(conv=>whnf);exact⟨rfl,A_.refl _ _⟩
def Tm.plc:Tm->Nat | .ca p .. | .txt p _ | .rx p _=>p | _=>0
def j'(c:t.isLe=zU)(d:t≠ .nil){v:v_}(h:Z' (F_ H) H t v):∃T y,uO t v= .iface T y/\T≠33/\∀(G:Aa),A_ (F_ H) H G->∀K:v_->Aa->Prop,(∀H',A_ (F_ G) G H'->K (.int .i64 (t.plc:Int)) H')->Fb prog T y "Place" #[] G K:=by cases t with|nil=>exact absurd rfl d|le=>cases c|txt p s=>exact⟨_,_,rfl,zQ,λG a K k=>Fb.mk _ _ (AlS _) AmB λv H' h=>by rw[h.1];exact k H' h.2⟩|rx p r=>exact⟨_,_,rfl,zQ,λG a K k=>Fb.mk _ _ (AlR _) AmA λv H' h=>by rw[h.1];exact k H' h.2⟩|ca p op n to b x y=>obtain⟨g,va,vb,rfl,e,f,-⟩:=h;exact⟨_,_,rfl,zQ,λG a K k=>Fb.mk _ _ (AlQ _) (Am9 (f.agr a e)) λv H' h=>by rw[h.1];exact k H' h.2⟩
def ZJ(r:1<=b)(u:b<=4096)(w:t.isLe=zU)(x:t≠ .nil){v:v_}(z:Z' (F_ H) H t v):Am prog 9 #[uO t v,B_ b] H λR H'=>A_ (F_ H) H H'/\R= .tuple #[.pointer zV,tY 72 t.plc nx]:=by
 have⟨T,y,e,A,B⟩:=j' w x z;rw[e];refine Am.of_rest func9 rfl (call9 _) (Bn.seq (Aq (.pointer zV) [.pointer zV] rfl rfl ?_));intro C H1 g h c j;have st1:=(St.nil H).box g h c j;refine Aq (Bb 0 0) (Ae 0 0) BY rfl ?_;intro D H2 k l d m;have n:D_ (F_ H) H H2 (Mr C D (.pointer zV) (t_ 0 0 nx)):=st1.box k l d m;refine Bn.seq ?_;have E:zT (b<1)=zU:=j_;have F:zT ((4096:Int)<b)=zU:=j_;repeat ((conv=>whnf);first | rw[E] | rw[F] | refine AC.run ?_ | refine X4 underlying42 ?_)
 refine Bn.seq (Af (ZG A) λH3 a3=>?_);have f:=n.call a3;refine Bn.seq ?_;repeat (refine AC.run ?_)
 refine B H3 f.old _ λH4 a4=>?_;have p:=f.call a4;refine Ad underlying24 rfl _ rfl (t_ 72 t.plc nx) rfl (Bc p 0 rfl zZ rfl λH5 q=>(AB (cs:=t_ 72 t.plc nx) q 1 rfl rfl (I_ _) rfl λH6 a=>?_));(conv=>whnf);refine C_ ((a.blk 0 rfl).cellE rfl) zA (K_ (cs:=t_ 72 t.plc nx) (FZ (a.blk 1 rfl)) zA ?_);exact⟨a.old,rfl⟩
structure Tm.fit(t:Tm):Prop where
 nn:t≠ .nil
 pl:t.plc<=1048576
 wf:t.isLe=zW->t.wf=zW
 sz:t.isLe=zW->t.sz<=2000
 mx:t.isLe=zW->t.maxT
def AeA(c:t.fit){B:Nat->Prop}{x:v_}(g:∀k,B k->k<H.size)(d:Ny B H)(l:TmI B H t x):Am prog 9 #[x,B_ b] H λR H'=>A_ (F_ H) H H'/\gB B H R H' (Gt b t):=by obtain⟨v,j,rfl⟩:=l;by_cases f:b<1\/4096<b;{refine(Ae7 f).mono λR H' h=>⟨h.1,?_⟩;unfold Gt;rw[H_ f];exact⟨h.2,Hu zQ zQ zQ⟩};obtain⟨n,rfl⟩:∃n:Nat,b=n:=⟨b.toNat,zO⟩;cases a:t.isLe;{refine(ZJ zO zO a c.nn (j.up (λk m=>g k m) (A_.refl _ _))).mono λR H' h=>⟨h.1,?_⟩;have p:=c.pl;have q:=c.nn;unfold Gt;rw[G_ f];cases t<;>first | (cases a;done) | exact absurd rfl q | exact⟨h.2,Hu zQ zQ p⟩};have h:=X8 (b:=n) zO zO (c.wf a) a (c.sz a) (c.mx a) g d j;have e:Gt (n:Int) t=Dg n t:=by{unfold Gt;rw[G_ f];cases t<;>first | (cases a;done) | rfl};rw[e];cases t<;>first | (cases a;done) | exact h
def Tm.txL:Tm->Prop | .txt _ s=>s.size<=4096 | _=>True
structure Tm.okW(t:Tm):Prop where
 wf:t.wf=zW
 mx:t.maxT
 pl:t.plc<=4096
 tx:t.txL
def Tm.okT(t:Tm):Prop:=t.okW/\(t.isLe=zW->t.sz<=2000)
def EtB(e:FT):Prop:=0<e.1/\e.1<=100/\e.2<=1048576
def tO{α:Type}(P:α->Prop):FT ⊕ α->Prop | .inl e=>EtB e | .inr a=>P a
def HC:Tm.nil.okT:=⟨⟨rfl,trivial,V_ _,trivial⟩,nofun⟩
def EtB.of(h:p<=4096)(a:0<c:=by decide)(h2:c<=100:=by decide):EtB (c,p):=⟨a,h2,V' h zQ⟩
variable{l:List Tm}
def Km(h:∀t∈l,t.okT):(wC l).okT:=by cases l with|nil=>exact HC|cons t l=>exact h t (yN ..)
def AeY(h:∀t∈l,t.okT)(i:Nat):(l.getD i .nil).okT:=by by_cases a:i<l.length;{rw[yV,List.getElem?_eq_getElem a];exact h _ (List.getElem_mem a)};rw[yV,List.getElem?_eq_none zO];exact HC
def Oe(a:p<=4096):p<=1048576:=V' a zQ
def Ve(a:p<=4096):(Tm.rx p r).okW:=⟨rfl,trivial,a,trivial⟩
def Oj{a b:Tm}{op:CO}{n:Option ReM}{x y:ByteArray}(c:p<=4096)(f:x.size<=4096)(g:y.size<=4096)(d:a.okW)(e:b.okW)(h:(match op with | .id | .fold | .norm=>n.isSome | .star=>a.isCa | _=>a.isCa&&b.isCa)=zW):(Tm.ca p op n x y a b).okW:=⟨by unfold Tm.wf;rw[d.wf,e.wf,pL,pL];exact h,⟨Oe c,⟨Oe f,Oe g⟩,d.mx,e.mx⟩,c,trivial⟩
def Eh{a b:Tm}{op:LO}{n:Option ReM}{x:ByteArray}{q:Tm}(f:p<=4096)(g:x.size<=4096)(c:q.okW)(d:a.okW)(e:b.okW)(h:(match op with | .copy | .key | .del=>n.isSome | .ins=>zW | .left | .right=>q.isCa&&a.isLe | .default_ | .star | .keyed=>a.isLe | _=>a.isLe&&b.isLe)=zW):(Tm.le p op n x q a b).okW:=⟨by unfold Tm.wf;rw[c.wf,d.wf,e.wf,pL,pL,pL];exact h,⟨Oe f,Oe g,c.mx,d.mx,e.mx⟩,V_ _,trivial⟩
def DQ:nx.size<=4096:=zQ
def Ak5{s:ByteArray}(h:t.okW)(b:p<=4096):tO Tm.okW (wJ p s t):=by have a:=HC.1;unfold wJ;split;{exact Ve b};split;{split;{exact Oj b DQ DQ h a rfl};exact .of b};{show Tm.okW _;split;{exact Eh b DQ a h a rfl};split;{exact Eh b DQ a h (Eh b DQ a h a rfl) rfl};exact Eh b DQ a h (Eh b DQ a a a rfl) rfl};exact .of b
def AhV{p:Nat}{s:ByteArray}{a b:Tm}(d:a.okW)(e:b.okW)(c:p<=4096):tO Tm.okW (vI p s a b):=by
 have f:=HC.1;unfold vI;split
 ·split
  ·exact Ve c
  ·exact .of c
 ·split
  ·split
   ·rename_i o h;have:o= .alt\/o= .cat\/o= .swap\/o= .chain:=by
     unfold SH at h
     repeat' split at h
     all_goals first | (cases h;done) | (cases h;simp)
    exact Eh c DQ f d e (by rcases this with rfl | rfl | rfl | rfl<;>rfl)
   ·exact .of c
  ·split
   ·rename_i o h;have:o= .alt\/o= .cat:=by
     unfold Su at h
     repeat' split at h
     all_goals first | (cases h;done) | (cases h;simp)
    exact Oj c DQ DQ d e (by rcases this with rfl | rfl<;>rfl)
   ·exact .of c
  ·exact .of c
def K8{x:FT ⊕ Tm}(a:p<=4096)(h:tO Tm.okW x):tO (λts=>(∀t∈ts,t.okT)/\1<=ts.length) (Hj p x):=by cases x with|inl e=>exact h|inr t=>unfold Hj;simp only;split;{exact .of a};exact⟨λu b=>by cases Q_.1 b;exact⟨h,λ_=>zO⟩,I_ _⟩
def place_le{e:Ex}(h:xC 4096 e):e.place<=4096:=by induction e with|cons a l b c=>exact b h.1|nil=>exact V_ _|_=>exact h.1
def Si:∀{b:List AK} {ts:List Tm} {l:Ex},DF b ts l=zV->l.len=b.length->b.length<=ts.length->∀(i:Nat) (k:AK),b[i]?=zY k->k.ok (ts.getD i .nil)=zW
 | k::b,t::ts,l,h,hn,ht,i,k',hk=>by
   cases l<;>first | (simp only[Ex.len,U_]at hn;omega) | skip
   rename_i a l;unfold DF at h;split at h
   ·cases i with
    | zero=>cases hk;assumption
    | succ i=>exact Si (l:=l) h (by simp only[Ex.len,U_]at hn;omega) (by simp only[U_]at ht;omega) i k' hk
   ·cases h
 | k::b,[],l,h,hn,ht,i,k',hk=>absurd ht (by simp)
 | [],ts,l,h,hn,ht,i,k',hk=>by cases hk
def Sj:∀{b:List AK} {ts:List Tm} {l:Ex} {q:Nat},DF b ts l=zY q->xC 4096 l->q<=4096
 | k::b,t::ts,.cons a l,q,h,hb=>by
   unfold DF at h;split at h
   ·exact Sj h hb.2
   ·cases h;exact place_le hb.1
 | [],_,_,_,h,_=>by cases h
 | _::_,[],_,_,h,_=>by cases h
 | _::_,_::_,.nil,_,h,_ | _::_,_::_,.nm ..,_,h,_ | _::_,_::_,.tx ..,_,h,_ | _::_,_::_,.re ..,_,h,_ | _::_,_::_,.kd ..,_,h,_ | _::_,_::_,.un ..,_,h,_ | _::_,_::_,.bi ..,_,h,_ | _::_,_::_,.cl ..,_,h,_=>by cases h
def Gy{a:List AK}{ts:List Tm}{l:Ex}{r:Tm}(c:xC 4096 l)(d:l.len=a.length)(e:a.length<=ts.length)(h:(∀(i:Nat) (k:AK),a[i]?=zY k->k.ok (ts.getD i .nil)=zW)->r.okW):tO Tm.okW (yE l ts a r):=by unfold yE;split;{rename_i q b;exact .of (Sj b c)};rename_i b;exact h (Si b d e)
def Lh(h:t.okT):(Kv t).size<=4096:=by cases t<;>first | exact h.1.tx | exact DQ
def mJ(h:AK.lens.ok t=zW):t.isLe=zW:=by cases t<;>first | rfl | cases h
def fK(h:AK.canon.ok t=zW):t.isCa=zW:=by cases t<;>first | rfl | cases h
def Ai5{l:Ex}{ts:List Tm}(d:p<=4096)(e:xC 4096 l)(j:0<zL w)(c:l.len=(zL w).toNat)(k:∀t∈ts,t.okT)(f:l.len<=ts.length):tO Tm.okW (xE p w l ts):=by have b:=HC.1;have g:=AeY k;have a:(zL w).toNat<=ts.length:=c ▸ f;rcases Kz j with rfl | rfl | rfl | rfl | rfl | rfl | rfl | rfl | rfl | rfl;{rw[YZ];exact Gy e c a λh=>Oj d DQ DQ b b (h 0 _ rfl)};{rw[QK];exact Gy e c a λh=>Oj d DQ DQ b b (h 0 _ rfl)};{rw[QM];exact Gy e c a λh=>Oj d (Lh (g 1)) (Lh (g 2)) b b (h 0 _ rfl)};{rw[Uw];exact Gy e c a λh=>Eh d (Lh (g 1)) b b b (h 0 _ rfl)};{rw[Ux];exact Gy e c a λh=>Eh d (Lh (g 0)) b b b rfl};{rw[QJ];exact Gy e c a λh=>Eh d DQ b b b (h 0 _ rfl)};{rw[Uy];exact Gy e c a λh=>Eh d DQ b b b (h 0 _ rfl)};{rw[QL];exact Gy e c a λh=>Eh d DQ (g 0).1 (g 1).1 b (by simp only[fK (h 0 _ rfl),mJ (h 1 _ rfl),nV])};{rw[NC];exact Gy e c a λh=>Eh d DQ (g 1).1 (g 0).1 b (by simp only[fK (h 1 _ rfl),mJ (h 0 _ rfl),nV])};rw[It];exact Gy e c a λh=>Eh d (Lh (g 1)) b (g 0).1 b (mJ (h 0 _ rfl))
def qU(env:ByteArray->Option Tm):Prop:=∀s t,env s=zY t->t.okT
def Hz{env:ByteArray->Option Tm}(n:qU env):∀{e:Ex},xC 4096 e->tO (λts=>(∀t∈ts,t.okT)/\e.len<=ts.length) (p_ env e)
 | .nm p s,hb=>by
   unfold p_;cases hs:env s with
   | none=>exact .of hb.1
   | some u=>exact⟨λt j=>by cases Q_.1 j;exact n s u hs,V_ _⟩
 | .tx p s,hb=>⟨λt j=>by cases Q_.1 j;exact⟨⟨rfl,trivial,hb.1,hb.2⟩,nofun⟩,V_ _⟩
 | .re p s,hb=>by
   unfold p_;have q:=LE s;cases hs:GD s with
   | inl e=>
     rw[hs]at q;obtain⟨z,A,B,C⟩:mU s e.1 e.2:=q;have D:=hb.1;have E:=hb.2;exact⟨by show 0<e.1;omega,by show e.1<=100;omega,by show((p:Int)+1+e.2).toNat<=1048576;omega⟩
   | inr r=>exact⟨λt j=>by cases Q_.1 j;exact⟨Ve hb.1,nofun⟩,V_ _⟩
 | .kd p a,hb=>by
   have d:=Hz n hb.2;unfold p_;cases f:p_ env a with
   | inl e=>rw[f]at d;exact d
   | inr l=>
     rw[f]at d;simp only;have hd:=Km d.1;split
     ·rename_i h;have:=K8 (p:=p) (x:=.inr (.le p .keyed zV nx .nil (wC l) .nil)) hb.1 (Eh hb.1 DQ HC.1 hd.1 HC.1 (by show(wC l).isLe=zW;rw[h];rfl));revert this;cases Hj p (.inr (.le p .keyed zV nx .nil (wC l) .nil))with
      | inl e=>exact id
      | inr ts=>exact λh=>⟨h.1,V_ _⟩
     ·exact .of hb.1
 | .un p s a,hb=>by
   have d:=Hz n hb.2;unfold p_;cases f:p_ env a with
   | inl e=>rw[f]at d;exact d
   | inr l=>
     rw[f]at d;simp only;have:=K8 hb.1 (Ak5 (p:=p) (s:=s) (Km d.1).1 hb.1);revert this;cases Hj p (wJ p s (wC l))with
     | inl e=>exact id
     | inr ts=>exact λh=>⟨h.1,V_ _⟩
 | .bi p s a b,hb=>by
   have c:=Hz n hb.2.1;have k:=Hz n hb.2.2;unfold p_;cases f:p_ env a with
   | inl e=>rw[f]at c;exact c
   | inr l=>
     rw[f]at c;simp only;cases w:p_ env b with
     | inl e=>rw[w]at k;exact k
     | inr m=>
       rw[w]at k;simp only;have:=K8 hb.1 (AhV (p:=p) (s:=s) (Km c.1).1 (Km k.1).1 hb.1);revert this;cases Hj p (vI p s (wC l) (wC m))with
       | inl e=>exact id
       | inr ts=>exact λh=>⟨h.1,V_ _⟩
 | .cl p s l,hb=>by
   have d:=Hz n hb.2.1;unfold p_;cases f:p_ env l with
   | inl e=>rw[f]at d;exact d
   | inr ts=>
     rw[f]at d;simp only;have:=K8 hb.1 (Ai5 (p:=p) hb.1 hb.2.1 hb.2.2.1 hb.2.2.2 d.1 d.2);revert this;cases Hj p (xE p s l ts)with
     | inl e=>exact id
     | inr ts=>exact λh=>⟨h.1,V_ _⟩
 | .nil,_=>⟨nofun,V_ _⟩
 | .cons a l,hb=>by
   have c:=Hz n hb.1;have g:=Hz n hb.2;unfold p_;cases f:p_ env a with
   | inl e=>rw[f]at c;exact c
   | inr F=>
     rw[f]at c;simp only;cases y:p_ env l with
     | inl e=>rw[y]at g;exact g
     | inr vs=>
       rw[y]at g;refine⟨λt j=>?_,?_⟩
       ·rcases List.mem_cons.1 j with rfl | j
        ·exact Km c.1
        ·exact g.1 t j
       ·show l.len+1<=vs.length+1;exact Nat.succ_le_succ g.2
def Zl:∀{ds:List Df} {env:ByteArray->Option Tm} {e:Ex},qU env->mA 4096 ds->xC 4096 e->tO Tm.okT (uV env ds e)
 | [],env,e,hv,_,hb=>by
   have:=Hz hv hb;unfold uV;cases h:p_ env e with
   | inl x=>rw[h]at this;exact this
   | inr l=>rw[h]at this;exact Km this.1
 | d::ds,env,e,hv,hd,hb=>by
   have b:=hd d (yN ..);have:=Hz hv b.2;unfold uV;split
   ·exact .of b.1
   ·cases h:p_ env d.a with
    | inl x=>rw[h]at this;exact this
    | inr l=>
      rw[h]at this;refine Zl (λs t hs=>?_) (λc f=>hd c (yD _ f)) hb;split at hs
      ·cases hs;exact Km this.1
      ·exact hv s t hs
def Tt(t:ByteArray):tO Tm.okT (HY t):=by have:=PL t;unfold HY;cases h:I9 t with|inl e=>rw[h]at this;exact⟨this.1,V' this.2.1 zQ,V' this.2.2 zQ⟩|inr x=>rw[h]at this;exact Zl nofun this.1 this.2
def AiI(h:t.okT)(a:t≠ .nil):t.fit:=⟨a,V' h.1.pl zQ,λ_=>h.1.wf,h.2,λ_=>h.1.mx⟩
def AjE(h:Eo prog H)(b:prog.globalNamed Th=zY g)(w:y_):g<H.size:=by have a:=h {w with heap:=H} rfl;unfold TabIs World.var? at a;rw[b]at a;simp only[xI]at a;apply Classical.byContradiction;intro c;rw[rB zO]at a;simp at a
def RdL(H':Aa)(R:v_):F3 ⊕ LnM->Prop | .inl (c,p,w)=>R= .tuple #[.pointer zV,tY c p (bA w)]/\FtW c p w | .inr L=>∃v,R= .tuple #[v,tY 0 0 nx]/\LnV (λk=>k<H'.size) H' L v
structure Mc(H:Aa):Prop where
 rank:Mb H
 esc:DY H
 pow:Eo prog H
 glt:∀g,prog.globalNamed Th=zY g->g<H.size
def Mc.agr{H':Aa}(h:Mc H)(a:A_ (F_ H) H H'):Mc H':=⟨h.rank.agr a,h.esc.agr a,h.pow.agr a,λg b=>Ak a (h.glt g b)⟩
section
variable{t:ByteArray}
def AmD(K:Mc H):Am prog 5 #[.string t,B_ b] H λR H'=>A_ (F_ H) H H'/\RdL H' R (CI t b):=by refine Am.of_vc func5 rfl (call5 _) (Aq (Bb 0 0) (Ae 0 0) BY rfl ?_);intro y H1 A B C D;have P:=(St.nil H).box A B C D;refine An.mk (AjH (K.rank.agr P.old) (K.esc.agr P.old)) ?_;rintro v H2 ⟨a2,d⟩;have M:=P.call a2;have j:=Tt t;unfold CI;cases W:HY t with|inl er=>{have⟨c,z⟩:=er;rw[W]at d j;have⟨X,Y,Z⟩:=j;simp only at X Y Z;obtain rfl:v= .tuple #[.nilIface,Bb c z]:=d;refine Aq (Bb 0 0) (Ae 0 0) BY rfl ?_;intro q5 H3 n q r m;have Q:=M.box n q r m;refine AB (cs:=Ae c z) Q 1 rfl rfl (I_ _) rfl λH4 u=>?_;(repeat ((conv=>whnf);first | refine AC.run ?_ | refine K_ (cs:=Ae c z) (AY (u.blk 1 rfl)) zA ?_ | refine Ad underlying24 rfl _ rfl (Ae 0 0) rfl ?_));refine Ht (c:=c) (e:=z) (c':=0) (e':=0) zO zO zQ zQ ?_;rw[j_];refine Ap.heldZ (λk=>k=q5) [2] (sq [0,1] (.f 2 .e)) rfl zX (K_ (cs:=Ae c z) (AY (u.blk 1 rfl)) rfl (AB (cs:=Ae c z) u 0 rfl rfl (I_ _) rfl λH5 E=>(K_ (cs:=Ae c z) (AY (E.blk 0 rfl)) zA ?_)));exact⟨E.old,rfl,Hu X Y Z⟩}|inr S=>{rw[W]at d j;obtain⟨N,x,rfl,F⟩:=d;have hn:S≠ .nil:=by{rintro rfl;exact N.1.elim};obtain⟨T0,x0,rfl⟩:=F.ifc N.1;refine Aq (Bb 0 0) (Ae 0 0) BY rfl ?_;intro q5 H3 n q r m;have Q:=M.box n q r m;have b1:=M.blk 0 rfl;refine Bd (cs:=Ae 0 0) Q 1 rfl rfl (I_ _) rfl λH4 u j4 n4=>?_;(repeat ((conv=>whnf);first | refine AC.run ?_ | refine K_ (cs:=Ae 0 0) (AY (u.blk 1 rfl)) zA ?_ | refine Ad underlying24 rfl _ rfl (Ae 0 0) rfl ?_));refine Ht (c:=0) (e:=0) (c':=0) (e':=0) zQ zQ zQ zQ ?_;have G:A_ (F_ H2) H2 H4:=(m.mono λk a=>by unfold F_ at a;omega).trans (j4.mono λk a=>by unfold F_ at a;omega);have z2:=Ay M.old;have a0:=Ay G;have hB:∀k,(k<H2.size/\k≠y)->k<H4.size:=λk a=>zO;have T:TmI (λk=>k<H2.size/\k≠y) H4 S (.iface T0 x0):=F.upT (B':=λk=>k<H2.size/\k≠y) (λk ty l U a hb=>⟨a,by{rintro rfl;have:=Al1.inj (b1.symm.trans hb);injection this with _ this;rcases U with rfl | rfl<;>cases this}⟩) (G.mono λk a=>a.1);have I:Ny (λk=>k<H2.size/\k≠y) H4:=⟨K.pow.agr u.old,λg N=>by have:=K.glt g N;omega⟩;(repeat (refine AC.run ?_));refine An.mk (AeA (b:=b) (AiI j hn) hB I T) ?_;rintro R H5 ⟨a5,O⟩;have E:=u.call a5;simp only;cases hL:Gt b S with|inl er=>have⟨c,p,w⟩:=er;rw[hL]at O;obtain⟨rfl,V⟩:=O;refine AB (cs:=t_ c p (bA w)) E 0 rfl rfl (I_ _) rfl λH6 J=>(K_ (cs:=t_ c p (bA w)) (FZ (J.blk 0 rfl)) zA ?_);exact⟨J.old,rfl,V⟩|inr L=>{rw[hL]at O;obtain⟨v,rfl,hv⟩:=O;obtain⟨pv,rfl⟩:=hv.ptr;refine Bd (cs:=t_ 0 0 nx) E 0 rfl rfl (I_ _) rfl λH6 J j6 n6=>(K_ (cs:=t_ 0 0 nx) (FZ (J.blk 0 rfl)) zA ?_);have z5:=Ay a5;refine⟨J.old,_,rfl,?_⟩;refine(hv.up (B':=λk=>k<H6.size/\k≠y) (λk a=>?_) (A_.refl _ _)).up (λk a=>a.1) (j6.mono λk a=>a.2);rcases a with h | h;{exact⟨zO,h.2⟩};exact⟨zO,zO⟩}}
def bK{x:Tm}(a:HY t= .inr x)(h:b<1\/4096<b):CI t b= .inl (2,0,[]):=by unfold CI;rw[a];exact H_ h
def Yq{c:Int}(f:1<=b)(h:b<=c)(g:c<=4096)(a:∀p w,CI t b≠ .inl (40,p,w)):CI t c=CI t b:=by unfold CI at a ⊢;cases d:HY t with|inl e=>rfl|inr x=>{rw[d]at a;simp only at a ⊢;unfold Gt at a ⊢;rw[G_ zO]at a;rw[G_ zO,G_ zO];cases x<;>first | rfl | exact Lw _ _ _ zO a}
def Le(h:CI t b= .inr L):∃x,HY t= .inr x/\x.okT/\1<=b/\b<=4096/\Dg b.toNat x= .inr L/\x.isLe=zW:=by have a:=Tt t;unfold CI at h;cases c:HY t with|inl e=>rw[c]at h;cases h|inr x=>{rw[c]at h a;simp only at h;unfold Gt at h;split at h;{cases h};refine⟨x,rfl,a,zO,zO,?_⟩;cases x<;>first | (cases h;done) | exact⟨h,rfl⟩}
def WW{c:Int}{x:Tm}(a:HY t= .inr x)(d:1<=c)(e:c<=4096)(b:x.isLe=zW):CI t c=Dg c.toNat x:=by unfold CI;rw[a];simp only;unfold Gt;rw[G_ zO];cases x<;>first | (cases b;done) | rfl
def Hc(h:CI t b= .inr L):1<=(Bq L:Int)/\(Bq L:Int)<=b/\∀c:Int,(Bq L:Int)<=c->c<=4096->CI t c= .inr L:=by have⟨x,f,g,k,l,a,e⟩:=Le h;have⟨m,j⟩:=Lx g.1.wf a;obtain⟨s,v,q,A,C,rfl⟩:=Jc a e;have n:=(Rs (.mk x s v q A C) nofun).1;have p:=XH (LnM.mk x s v q A C).s;refine⟨zO,zO,λc a d=>?_⟩;rw[WW f zO d e];exact j _ zO
def Yp(h:CI t b= .inr L){c:Int}(g:c<(Bq L:Int)):∃e,CI t c= .inl e:=by cases a:CI t c with|inl e=>exact⟨e,rfl⟩|inr L'=>have j:=Hc h;have d:=Hc a;have f:b<=4096:=(Le h).choose_spec.2.2.2.1;have:=d.2.2 b zO f;rw[h]at this;cases this;omega
def Ag0(h:CI t b= .inr L):L.s.nodes<=2000/\L.v.nodes<=2000/\L.small/\Bq L<=4096:=by have⟨x,g,a,j,k,c,d⟩:=Le h;have e:=a.2 d;have f:=Jd a.1.wf d c;have l:=Hc h;exact⟨V' f.1 e,V' f.2 e,JT a.1.wf zO c,zO⟩
end
def qF:ByteArray:=⟨#[99,111,112,121,40,47,97,98,47,41]⟩
def WJ:HY qF= .inr (.le 0 .copy (zY (AH [97,98])) nx .nil .nil .nil):=by kernel_rfl
def Rt:Br (AH [97,98])=4:=by have hd:=Yr (l:=[97,98]) zQ zQ (b:=4096) zQ zQ;rw[H_ zQ]at hd;obtain⟨F,a,c,-⟩:=hd;have d:F5 4096 (Cq (AH [97,98]))= .ok (uM (B0 (Cq (AH [97,98]))) (λX=>zT ((Cq (AH [97,98])).fin∈X)) F):=by{unfold F5;rw[a]};obtain⟨A,e,f,g⟩:∃A,Bi 4096 (AH [97,98]) 0 0=(0,.ok A)/\A.u=4/\(⟨A.u,A.p,A.q,A.es⟩:O_)=Cq (AH [97,98]):=⟨pW ⟨0,1,2,[Du 0 1 (FE 97)]⟩ ⟨2,3,2,[Du 2 3 (FE 98)]⟩,zX,zX,zX⟩;unfold Br Cg BN;rw[G_ zQ,G_ zQ,e];unfold ED Bm;simp only;rw[G_ (by rw[f];decide),g,d];simp only;show max 0 F.length=4;rw[c];rfl
def AfZ:CI qF 4= .inr (.mk (.le 0 .copy (zY (AH [97,98])) nx .nil .nil .nil) (AH [97,98]) (AH [97,98]) .nil .nil .nil):=by rw[WW WJ zQ zQ rfl];have h:typ 4 0 (AH [97,98]) (AH [97,98])= .inr (AH [97,98],AH [97,98]):=RO (by rw[Rt];decide) (by rw[Rt];decide);have e:(Int.toNat 4)=4:=rfl;rw[e];simp only[Dg,zR,uC,nO,LO.isLeft,LO.isRight,Bool.false_eq_true,if_false,Option.getD_some,Cd h];rfl
def ZW:Bq (.mk (.le 0 .copy (zY (AH [97,98])) nx .nil .nil .nil) (AH [97,98]) (AH [97,98]) .nil .nil .nil)=4:=by simp only[Bq,Db,Rt];rfl
def CH:ReM->Nat | .eps=>4 | .cls _=>4 | .cat _ _=>2 | .alt _ _=>0 | .star _=>3 | .and_ _ _=>1 | .minus _ _=>1
def EP(k need:Nat)(l:List Nat):List Nat:=if k<need then [40]++l++[41]else l
def Be:ReM->List Nat | .eps=>[40,41]| .cls s=>M0 s | .alt a b=>EP (CH a) 0 (Be a)++[124]++EP (CH b) 1 (Be b)| .and_ a b=>EP (CH a) 1 (Be a)++[38]++EP (CH b) 2 (Be b)| .minus a b=>EP (CH a) 1 (Be a)++[45]++EP (CH b) 2 (Be b)| .cat a b=>EP (CH a) 2 (Be a)++EP (CH b) 3 (Be b)| .star a=>EP (CH a) 3 (Be a)++[42]
def Cb(k n:Nat)(l:List Nat):(EP k n l).length<=l.length+2:=by unfold EP;split;{simp only[M_,U_,i_];omega};omega
def IY:∀r:ReM,(Be r).length+4<=2410*r.nodes:=by intro r;induction r with|eps=>simp only[Be,ReM.nodes,U_,i_];omega|cls s=>have:=TG s;simp only[Be,ReM.nodes];omega|cat a b c d=>have:=Cb (CH a) 2 (Be a);have:=Cb (CH b) 3 (Be b);simp only[Be,ReM.nodes,M_];omega|alt a b c d=>have:=Cb (CH a) 0 (Be a);have:=Cb (CH b) 1 (Be b);simp only[Be,ReM.nodes,M_,U_,i_];omega|star a c=>have:=Cb (CH a) 3 (Be a);simp only[Be,ReM.nodes,M_,U_,i_];omega|and_ a b c d | minus a b c d=>have:=Cb (CH a) 1 (Be a);have:=Cb (CH b) 2 (Be b);simp only[Be,ReM.nodes,M_,U_,i_];omega
def aY{v:List Nat}(h:u.length+v.length<=10000000000):(bA u).size+(bA v).size<=maxLen:=by rw[nZ,nZ];unfold maxLen;omega
def bZ{k:Nat}{l:List Nat}(h:k<n):EP k n l=[40]++l++[41]:=H_ h
def Xf{k:Nat}{l:List Nat}(h:¬k<n):EP k n l=l:=G_ h
section
variable{t:x_}{v:List Nat}
def mO(h:u.length+v.length<=10000000000)(k:K (.string (bA (u++v)))):A8 P (do eqGuard .add t x y (.string (bA u)) (.string (bA v));binOp .add t (.string (bA u)) (.string (bA v))) S H K:=JD (aY h) (by rw[EQ];exact k)
def AmS(c:UInt8)(h:v.length<=9000000000)(k:K (.string (bA ([c.toNat]++v)))):A8 P (do eqGuard .add t x y (.string ⟨#[c]⟩) (.string (bA v));binOp .add t (.string ⟨#[c]⟩) (.string (bA v))) S H K:=by rw[show(⟨#[c]⟩:ByteArray)=bA [c.toNat] by simp[bA]];exact mO (by simp;omega) k
def mP(c:UInt8)(h:v.length<=9000000000)(k:K (.string (bA (v++[c.toNat])))):A8 P (do eqGuard .add t x y (.string (bA v)) (.string ⟨#[c]⟩);binOp .add t (.string (bA v)) (.string ⟨#[c]⟩)) S H K:=by rw[show(⟨#[c]⟩:ByteArray)=bA [c.toNat] by simp[bA]];exact mO (by simp;omega) k
end
def AfN:∀(r:ReM) {k:Nat} (c:Nat) {H:Aa},k=CH r->DY H->r.nodes<=1000000->AT prog 10 #[Al r,B_ c] H (.string (bA (EP k c (Be r)))):=λr=>by
 induction r
 all_goals
  intro k c H l q A;refine Am.of_vc func10 rfl (call10 _) ?_
  repeat ((conv=>whnf);first | refine AC.run ?_ | refine iH zQ ?_)
  simp only[ReM.nodes]at A
 all_goals try
  rename_i a b m t;have la:=IY a;have C:=IY b;have D:=Cb (CH a) 0 (Be a);have E:=Cb (CH a) 1 (Be a);have F:=Cb (CH a) 2 (Be a);have G:=Cb (CH b) 1 (Be b);have I:=Cb (CH b) 2 (Be b);have J:=Cb (CH b) 3 (Be b);refine BO (St.nil H) (.agg #[.nilIface,.nilIface]) [.nilIface,.nilIface] zX rfl λx H1 st1=>(AB (cs:=[Al a,Al b]) st1 0 rfl rfl (I_ _) (by simp[AV]) λH2 d=>?_);rw[AA (show([Al a,Al b]).length=([.nilIface,.nilIface]:List v_).length from rfl)]at d;have w:x<H2.size:=(d.in_ 0 rfl rfl).2;(conv=>whnf);first | (have K:k=2:=l;refine Ap.heldZ (λk=>k=x) [] (sq [0,1,3,4] (.f 2 (.f 5 (sq [6,7,8] .e)))) rfl zX ?_) | refine Ap.heldZ (λk=>k=x) [] (sq [0,1,4,5] (.f 2 (sq [3] (.f 6 (sq [7,8,9] .e))))) rfl zX ?_
  repeat ((conv=>whnf);first | refine C_ ((d.blk 0 rfl).cellE rfl) rfl ?_ | refine fa ?_)
  first | refine Af (m 0 rfl (q.agr d.old) zO) λH3 g=>?_ | refine Af (m 1 rfl (q.agr d.old) zO) λH3 g=>?_ | refine Af (m 2 rfl (q.agr d.old) zO) λH3 g=>?_
  have n:=d.call g;have y:A_ (λk=>k=x) H2 H3:=g.mono λk u=>by rw[show k=x from u];exact w
  refine⟨y,?_⟩;(conv=>whnf);try refine mP _ zO ?_
  (conv=>whnf);first | refine Af (t 1 rfl (q.agr n.old) zO) λH4 h=>?_ | refine Af (t 2 rfl (q.agr n.old) zO) λH4 h=>?_ | refine Af (t 3 rfl (q.agr n.old) zO) λH4 h=>?_
  have p:=n.call h;refine⟨y.trans (h.mono λk u=>by rw[show k=x from u];exact(n.in_ 0 rfl rfl).2),?_⟩;refine mO (by(try simp only[M_,U_,i_]);omega) ?_;(conv=>whnf);try refine AC.run ?_
 refine BO (St.nil H) (.agg #[]) [] rfl rfl λx H1 st1=>(AB (cs:=[]) st1 0 rfl rfl (I_ _) rfl λH2 p=>?_);have z:(Be .eps).length<=8000000000:=zQ
 (conv=>whnf);try refine AC.run ?_
 rw[show(⟨#[40,41]⟩:ByteArray)=bA (Be .eps)from rfl]
 rotate_left
 rename_i s;have L:=TG s;refine BO (St.nil H) _ [.int .u64 0,.int .u64 0,.int .u64 0,.int .u64 0] Fg rfl λx H1 st1=>(AB (cs:=Ag s) st1 0 rfl rfl (I_ _) rfl λH2 d=>?_);rw[AA (show(Ag s).length=4 from rfl)]at d;refine fa ?_;refine K_ (cs:=Ag s) ((d.blk 0 rfl).cells λj v B=>by simpa using B) zA (Af (AjP (q.agr d.old)) λH4 h=>?_);have p:=d.call h;have z:(Be (.cls s)).length<=8000000000:=by show(M0 s).length<=_;omega
 (conv=>whnf);try refine AC.run ?_
 rw[show M0 s=Be (.cls s)from rfl]
 rotate_left
 rotate_left
 rotate_left
 rename_i a m;have la:=IY a;have w0:=Cb (CH a) 3 (Be a);refine BO (St.nil H) _ [.nilIface] Ni rfl λx H1 st1=>(AB (cs:=[Al a]) st1 0 rfl rfl (I_ _) (by simp[AV]) λH2 d=>?_);rw[AA (show([Al a]).length=([.nilIface]:List v_).length from rfl)]at d;refine fa ?_;refine C_ ((d.blk 0 rfl).cellE rfl) zA (Af (m 3 rfl (q.agr d.old) zO) λH3 g=>?_);have p:=d.call g;refine mP 42 zO ?_;have z:(Be (.star a)).length<=8000000000:=by
  show(EP (CH a) 3 (Be a)++[42]).length<=_;simp only[M_,U_,i_];omega
 (conv=>whnf);try refine AC.run ?_
 rw[show EP (CH a) 3 (Be a)++[(42:UInt8).toNat]=Be (.star a)from rfl]
 rotate_left
 all_goals
  rcases Nat.lt_or_ge k c with u | u
  ·first | rw[a_ (show(4:Int)<(c:Int) by have:k=4:=l;omega)] | rw[a_ (show(3:Int)<(c:Int) by have:k=3:=l;omega)] | rw[a_ (show(2:Int)<(c:Int) by have:k=2:=l;omega)] | rw[a_ (show(1:Int)<(c:Int) by have:k=1:=l;omega)] | rw[a_ (show(0:Int)<(c:Int) by have:k=0:=l;omega)]
   refine AmS 40 (by(try simp only[M_,U_,i_]);omega) ?_;refine mP 41 (by(try simp only[M_,U_,i_]);omega) ?_;(conv=>whnf);exact⟨by rw[bZ u]<;>rfl,p.old⟩
  ·first | rw[b_ (show¬(4:Int)<(c:Int) by have:k=4:=l;omega)] | rw[b_ (show¬(3:Int)<(c:Int) by have:k=3:=l;omega)] | rw[b_ (show¬(2:Int)<(c:Int) by have:k=2:=l;omega)] | rw[b_ (show¬(1:Int)<(c:Int) by have:k=1:=l;omega)] | rw[b_ (show¬(0:Int)<(c:Int) by have:k=0:=l;omega)]
   (conv=>whnf);exact⟨by rw[Xf (Nat.not_lt.2 u)]<;>rfl,p.old⟩
def AfM(r:ReM)(a:Nat)(b:DY H)(c:r.nodes<=1000000):AT prog 10 #[Al r,B_ a] H (.string (bA (EP (CH r) a (Be r)))):=AfN r a rfl b c
def WG(b:DY H)(c:r.nodes<=1000000):AT prog 6 #[Al r] H (.string (bA (Be r))):=by refine Am.of_vc func6 rfl (call6 _) (Af (AfM r 0 b c) λH1 a=>?_);(conv=>whnf);exact⟨by rw[Xf (Nat.not_lt_zero _)],a⟩
abbrev zJ(c p:Nat)(w s v:ByteArray)(n:Nat):List v_:=[B_ c,B_ p,.string w,.string s,.string v,B_ n]
abbrev rpA(c p:Nat)(w s v:ByteArray)(n:Nat):v_:=.agg #[B_ c,B_ p,.string w,.string s,.string v,B_ n]
def PU:(prog.info? 26).bind (·.zero)=zY (rpA 0 0 nx nx nx 0):=zX
def Mo{b:Nat}{s v:ByteArray}(h:L_ H b 26 (zJ c p w s v n)):AO H b 0 (zJ c p w s v n):=h.cells (λj v a=>by rw[N_];exact a)
noncomputable def cD:F3 ⊕ LnM->List v_ | .inl (c,p,w)=>zJ c p (bA w) nx nx 0 | .inr L=>zJ 0 0 nx (bA (Be L.s)) (bA (Be L.v)) (Bq L)
noncomputable def rpV(x:F3 ⊕ LnM):v_:=.agg (cD x).toArray
def qV:F3 ⊕ LnM->Prop | .inl (c,p,w)=>FtW c p w | .inr L=>L.s.nodes<=2000/\L.v.nodes<=2000/\Bq L<=4096
def LS{t:ByteArray}(I:Mc H):Am prog 4 #[.string t,B_ b] H λR H'=>(R=rpV (CI t b)/\qV (CI t b))/\A_ (F_ H) H H':=by
 refine Am.of_vc func4 rfl (call4 _) (BO (St.nil H) (rpA 0 0 nx nx nx 0) (zJ 0 0 nx nx nx 0) PU rfl λq3 H1 U=>(An.mk (AmD (t:=t) (b:=b) (I.agr U.old)) ?_));rintro v H2 ⟨a2,j⟩;have P:=U.call a2;cases N:CI t b with|inl er=>{have⟨c,z,w⟩:=er;rw[N]at j;obtain⟨rfl,d⟩:=j;have h1:=d.c0;have h2:=d.c1;have h3:=d.p1;refine Aq (Bb 0 0) (Ae 0 0) BY rfl ?_;intro q5 H3 r D E l;have Q:=P.box r D E l;refine AB (cs:=t_ c z (bA w)) Q 1 rfl rfl (I_ _) rfl λH4 F=>?_;(repeat ((conv=>whnf);first | refine AC.run ?_ | refine K_ (cs:=t_ c z (bA w)) (FZ (F.blk 1 rfl)) zA ?_ | refine Ad underlying24 rfl _ rfl (Ae 0 0) rfl ?_));refine KH (c:=c) (e:=z) (u:=bA w) (c':=0) (e':=0) (u':=nx) zO zO (Q7 d) zQ zQ (V_ _) ?_;rw[j_];(repeat ((conv=>whnf);first | refine AC.run ?_ | refine K_ (cs:=t_ c z (bA w)) (FZ (F.blk 1 rfl)) zA ?_));refine Ad underlying26 rfl _ rfl (zJ c z (bA w) nx nx 0) zX (AB (cs:=zJ c z (bA w) nx nx 0) F 0 rfl rfl (I_ _) rfl λH5 J=>(K_ (cs:=zJ c z (bA w) nx nx 0) (Mo (J.blk 0 rfl)) zA ?_));exact⟨⟨rfl,d⟩,J.old⟩}|inr L=>{
 rw[N]at j;obtain⟨v,rfl,V⟩:=j;have⟨W,X,z3,z4⟩:=Ag0 N;have K:L≠ .nil:=by{rintro rfl;obtain⟨x,-,-,-,-,hc,hl⟩:=Le N;have⟨s,v,q,A,C,e⟩:=Jc hc hl;cases e};obtain⟨G,s,w,q,x,y,rfl⟩:∃G s w q x y,L= .mk G s w q x y:=by{cases L with|nil=>exact absurd rfl K|mk G s w q x y=>exact⟨_,_,_,_,_,_,rfl⟩};have hV:=V;obtain⟨g,vt,vs,vv,vq,vx,vy,rfl,S,hb,-⟩:=V;refine Aq (Bb 0 0) (Ae 0 0) BY rfl ?_;intro q5 H3 r D E l;have Q:=P.box r D E l;refine Bd (cs:=Ae 0 0) Q 1 rfl rfl (I_ _) rfl λH4 F j4 n4=>?_;repeat ((conv=>whnf);first | refine AC.run ?_ | refine K_ (cs:=Ae 0 0) (AY (F.blk 1 rfl)) zA ?_ | refine Ad underlying24 rfl _ rfl (Ae 0 0) rfl ?_)
 refine Ht (c:=0) (e:=0) (c':=0) (e':=0) zQ zQ zQ zQ ?_;have m:A_ (F_ H2) H2 H4:=(l.mono λk a=>by unfold F_ at a;omega).trans (j4.mono λk a=>by unfold F_ at a;omega);have a0:=Ay m;have k2:=Ay P.old;have n:=hb.agr m S;repeat (refine AC.run ?_)
 refine Ap.heldZ (λk=>k=g) [13] (sq [0,1,2,3,5,6,7,8,10] (.f 4 (.f 9 (.f 11 (sq [12] (.f 13 .e)))))) rfl zX ?_;repeat ((conv=>whnf);first | refine E_ ?_ | refine C_ (n.cellE rfl) rfl ?_)
 refine Af (WG (I.esc.agr F.old) (by have:s.nodes<=2000:=W;omega)) λH5 O=>?_;have J:=F.call O;refine⟨O.mono λk a=>by rw[a];exact n.lt,?_⟩;refine Af (WG (I.esc.agr J.old) (by have:w.nodes<=2000:=X;omega)) λH6 Y=>?_;have Z:=J.call Y;have p:A_ (F_ H4) H4 H6:=O.trans (Y.mono λk a=>Ak O a);refine⟨p.mono λk a=>by rw[a];exact n.lt,?_⟩;have M:A_ (F_ H2) H2 H6:=m.trans (p.mono λk a=>Ak m a);have T:=Ay M;refine An.mk (QH (L:=.mk G s w q x y) (B:=λk=>k<H2.size) z3 (λk a=>yQ a T) ⟨I.pow.agr Z.old,λg S=>yQ (I.glt g S) k2⟩ (hV.up (λ_ h=>h) M)) ?_;rintro _ H7 ⟨a7,rfl⟩;have s7:=Z.call a7;refine⟨(p.trans (a7.mono λk a=>Ak p a)).mono λk a=>by rw[a];exact n.lt,?_⟩;refine Ad underlying26 rfl _ rfl (zJ 0 0 nx (bA (Be s)) (bA (Be w)) (Bq (.mk G s w q x y))) zX (AB (cs:=zJ 0 0 nx (bA (Be s)) (bA (Be w)) (Bq (.mk G s w q x y))) s7 0 rfl rfl (I_ _) rfl λH8 s8=>(K_ (cs:=zJ 0 0 nx (bA (Be s)) (bA (Be w)) (Bq (.mk G s w q x y))) (Mo (s8.blk 0 rfl)) zA ?_));exact⟨⟨rfl,W,X,z4⟩,s8.old⟩}
structure RpB(c p:Nat)(w s v:ByteArray)(n:Nat):Prop where
 c1:c<9223372036854775808
 p1:p<9223372036854775808
 w1:w.size<=maxLen
 s1:s.size<=maxLen
 v1:v.size<=maxLen
 n1:n<=4096
def LI(c p:Nat)(w s v:ByteArray)(n:Nat):List Lit:=[.int .i64 (c:Int),.int .i64 (p:Int),.string w.data.toList,.string s.data.toList,.string v.data.toList,.int .i64 (n:Int)]
section
variable{s v:ByteArray}
def Nn(h:RpB c p w s v n):prog.keyLits 4 26 (zJ c p w s v n)=zY (LI c p w s v n):=by
 have a:prog.cellsOf 24=3:=zX;have b:prog.cellsOf 22=1:=zX;have d:prog.cellsOf 3=1:=zX;have e:prog.cellsOf 9=1:=zX;have f:prog.cellsOf 26=6:=zX;have g:n<9223372036854775808:=by have:=h.n1;omega
 simp[Program.keyLits,underlying26,underlying24,underlying22,underlying3,underlying9,a,b,d,e,f,zJ,LI,h.w1,h.s1,h.v1,Fe (CF h.c1),Fe (CF h.p1),Fe (CF g)];rw[H_ zQ]<;>rfl
def iT(h:RpB c p w s v n){p':Nat}{b:ByteArray}(e:c=c'/\p=p'/\w=w'/\s=b/\v=d/\n=a)(k:K (.bool zU)):A8 prog (do eqGuard .neq 26 x y (.agg (zJ c p w s v n).toArray) (.agg (zJ c' p' w' b d a).toArray);binOp .neq 26 (.agg (zJ c p w s v n).toArray) (.agg (zJ c' p' w' b d a).toArray)) S H K:=by obtain⟨rfl,rfl,rfl,rfl,rfl,rfl⟩:=e;exact qS (m:=4) (r:=zW) (la:=LI c p w s v n) (lb:=LI c p w s v n) zX zQ (eqGuardType26) rfl rfl (Nn h) (Nn h) ⟨λ_=>rfl,λ_=>rfl⟩ k
def AjK(h:RpB c p w s v n){p':Nat}{b:ByteArray}(e:c=c'/\p=p'/\w=w'/\s=b/\v=d/\n=a)(k:K (.bool zW)):A8 prog (do eqGuard .eql 26 x y (.agg (zJ c p w s v n).toArray) (.agg (zJ c' p' w' b d a).toArray);binOp .eql 26 (.agg (zJ c p w s v n).toArray) (.agg (zJ c' p' w' b d a).toArray)) S H K:=by obtain⟨rfl,rfl,rfl,rfl,rfl,rfl⟩:=e;exact cG (m:=4) (r:=zW) (la:=LI c p w s v n) (lb:=LI c p w s v n) zX zQ (eqGuardType26) rfl rfl (Nn h) (Nn h) ⟨λ_=>rfl,λ_=>rfl⟩ k
end
def Wk{e e':Nat}{u:ByteArray}(f:c<9223372036854775808)(g:e<9223372036854775808)(h:u.size<=maxLen)(a:c'<9223372036854775808)(b:e'<9223372036854775808)(d:u'.size<=maxLen)(k:K (.bool (zT (c=c'/\e=e'/\u=u')))):A8 prog (do eqGuard .eql 24 x y (.agg (t_ c e u).toArray) (.agg (t_ c' e' u').toArray);binOp .eql 24 (.agg (t_ c e u).toArray) (.agg (t_ c' e' u').toArray)) S H K:=cG (m:=3) (la:=Fd c e u) (lb:=Fd c' e' u') zX zQ (eqGuardType24) rfl rfl (KG f g h) (KG a b d) Ml k
def jC{s f off:Nat}{cs l:Array v_} [ht:FieldT P s f off a n] [hc:AggT P a n](e:cs.extract off (off+n)=l)(k:K (.agg l)):A8 P (Instr.field s (.agg cs) f) S H K:=jD (by rw[e];exact k)
structure Rp(X:F3 ⊕ LnM)(c p:Nat)(w s v:ByteArray)(n:Nat):Prop where
 e:rpV X=rpA c p w s v n
 b:RpB c p w s v n
 ok:c=0->∃L,X= .inr L/\n=Bq L
 no:∀L,X= .inr L->c=0/\p=0/\w=nx
 er:∀p w,X= .inl (40,p,w)->c=40
def Pq(h:r.nodes<=2000):(bA (Be r)).size<=maxLen:=by have:=IY r;rw[Ef];unfold maxLen;omega
def mM:∀{X:F3 ⊕ LnM},qV X->∃c p w s v n,Rp X c p w s v n
 | .inl (c,p,w),h=>by
   have a:=h.c0;have b:=h.c1;have d:=h.p1;exact⟨c,p,bA w,nx,nx,0,rfl,⟨zO,zO,Q7 h,V_ _,V_ _,V_ _⟩,λe=>zO,λ_ e=>(by cases e),λ_ _ e=>(by cases e;rfl)⟩
 | .inr L,h=>⟨0,0,nx,bA (Be L.s),bA (Be L.v),Bq L,rfl,⟨zQ,zQ,V_ _,Pq h.1,Pq h.2.1,h.2.2⟩,λ_=>⟨L,rfl,rfl⟩,λ_ _=>⟨rfl,rfl,rfl⟩,λ_ _ e=>(by cases e)⟩
def Rf{b:Nat}{s v:ByteArray}(h:L_ H b 26 (zJ c p w s v n)):AO H b 0 (t_ c p w):=h.cells (λj v a=>by
 rw[N_]
 match j,a with
 | 0,a=>exact a
 | 1,a=>exact a
 | 2,a=>exact a)
def AjL{p':Nat}{s v b:ByteArray}(e:rpA c p w s v n=rpA c' p' w' b d a):c=c'/\p=p'/\w=w'/\s=b/\v=d/\n=a:=by simp only[Value.agg.injEq,Array.mk.injEq,AkY.injEq,Value.int.injEq,Value.string.injEq,true_and,and_true]at e;have⟨j,k,f,g,h,l⟩:=e;exact⟨zO,zO,f,g,h,zO⟩
def RM(t:ByteArray)(n j:Int)(H:Aa)(I:Mc H):AT prog 3 #[.string t,B_ n,B_ j] H (.bool zW):=by
 refine Am.of_vc func3 rfl (call3 _) (An.mk (LS (t:=qF) (b:=4) I) ?_);rintro _ H1 ⟨⟨rfl,am⟩,a1⟩;obtain⟨S,hS⟩:∃S,rpV (CI qF 4)=rpA 0 0 nx S S 4:=⟨bA (Be (AH [97,98])),by rw[AfZ];unfold rpV cD;simp only;rw[ZW];rfl⟩;rw[hS];refine BO (((St.nil H).call a1)) (rpA 0 0 nx nx nx 0) (zJ 0 0 nx nx nx 0) PU rfl λq1 H2 s2=>(AB (cs:=zJ 0 0 nx S S 4) s2 0 rfl rfl (I_ _) rfl λH3 M=>?_);repeat ((conv=>whnf);first | refine AC.run ?_ | refine E_ ?_ | refine K_ (cs:=t_ 0 0 nx) (Rf (M.blk 0 rfl)) zA ?_ | refine C_ ((M.blk 0 rfl).cellE rfl) zA ?_ | refine Ad underlying24 rfl _ rfl (Ae 0 0) rfl ?_ | refine Ht (c:=0) (e:=0) (c':=0) (e':=0) zQ zQ zQ zQ ?_)
 (conv=>whnf);by_cases hr:n<1\/4096<n;{
 have e4:rpV (CI qF n)=rpA 2 0 nx nx nx 0:=by rw[bK WJ hr];rfl
 rcases Classical.em (n<1)with J | J;rw[a_ J];repeat (refine AC.run ?_)
 rotate_left
 rw[b_ J];(conv=>whnf);rw[a_ (hr.resolve_left J)];repeat (refine AC.run ?_)
 (all_goals refine An.mk (LS (t:=qF) (b:=n) (I.agr M.old)) ?_;rintro _ H4 ⟨⟨rfl,ao⟩,a4⟩;rw[e4];refine jC (l:=(t_ 2 0 nx).toArray) rfl (Ad underlying24 rfl _ rfl (t_ 2 0 nx) rfl (Wk (c:=2) (e:=0) (u:=nx) (c':=2) (e':=0) (u':=nx) zQ zQ (V_ _) zQ zQ (V_ _) ?_));rw[show zT ((2:Nat)=2/\(0:Nat)=0/\nx=nx)=zW from a_ ⟨rfl,rfl,rfl⟩];(conv=>whnf);exact⟨rfl,(M.call a4).old⟩)};have J:zT (n<1)=zU:=j_;have d2:zT ((4096:Int)<n)=zU:=j_;rw[J];(conv=>whnf);rw[d2];refine AC.cut (α:=Int) [2] (λm=>[B_ m]) (λm H'=>(n<=m/\m<=4096)/\A_ (F_ H3) H3 H') ?_ ?_;{by_cases c1:j<n;{have d3:=a_ c1;(conv=>whnf);rw[d3];(conv=>whnf);exact⟨rfl,n,rfl,⟨rL _,zO⟩,A_.refl _ _⟩};have d3:=b_ c1;(conv=>whnf);rw[d3];by_cases c2:(4096:Int)<j;{have d4:=a_ c2;(conv=>whnf);rw[d4];(conv=>whnf);exact⟨rfl,n,rfl,⟨rL _,zO⟩,A_.refl _ _⟩};have d4:=b_ c2;(conv=>whnf);rw[d4];(conv=>whnf);exact⟨rfl,j,rfl,⟨zO,zO⟩,A_.refl _ _⟩};rintro m H4 a0 ⟨⟨a8,N⟩,a4⟩;have s4:=M.call a4;refine An.mk (LS (t:=t) (b:=n) (I.agr s4.old)) ?_;rintro _ H5 ⟨⟨rfl,a9⟩,a5⟩;have O:=s4.call a5;have⟨c,p,w,s,v,k,B⟩:=mM a9;rw[B.e];refine An.mk (LS (t:=t) (b:=m) (I.agr O.old)) ?_;rintro _ H6 ⟨⟨rfl,ab⟩,a6⟩;have s6:=O.call a6;have⟨c',d,f,r,y,P,C⟩:=mM ab;rw[C.e];refine BO s6 (rpA 0 0 nx nx nx 0) (zJ 0 0 nx nx nx 0) PU rfl λq2 H7 s7=>(BO s7 (rpA 0 0 nx nx nx 0) (zJ 0 0 nx nx nx 0) PU rfl λq3 H8 s8=>(AB (cs:=zJ c p w s v k) s8 1 rfl rfl (I_ _) rfl λH9 s9=>(AB (cs:=zJ c' d f r y P) s9 2 rfl rfl (I_ _) rfl λH10 g=>?_)));have Q:c≠40\/n=m->c=c'/\p=d/\w=f/\s=r/\v=y/\k=P:=λh=>by{have e:CI t m=CI t n:=by{rcases h with h | rfl;{exact Yq zO a8 N λp w e=>h (B.er p w e)};rfl};have:=C.e;rw[e,B.e]at this;exact AjL this};have lx:∀{G:Aa},A_ (F_ H10) H10 G->L_ G q2 26 (zJ c p w s v k):=λa=>(g.blk 1 rfl).agr a (g.blk 1 rfl).lt;have ly:∀{G:Aa},A_ (F_ H10) H10 G->L_ G q3 26 (zJ c' d f r y P):=λa=>(g.blk 2 rfl).agr a (g.blk 2 rfl).lt;have z:=lx (A_.refl _ _);have D:=ly (A_.refl _ _);repeat ((conv=>whnf);first | refine E_ ?_ | refine C_ (z.cellE rfl) zA ?_)
 (conv=>whnf);rcases Classical.em (c≠40)with hc | hc;rw[show((c:Int) != 40)=zW by simp;omega];repeat ((conv=>whnf);first | refine K_ (cs:=zJ c p w s v k) (Mo z) zA ?_ | refine K_ (cs:=zJ c' d f r y P) (Mo D) zA ?_)
 refine iT B.b (Q (.inl hc)) ?_;repeat ((conv=>whnf);first | refine E_ ?_ | refine C_ (z.cellE rfl) zA ?_)
 (conv=>whnf);rw[show((c:Int)==40)=zU by simp;omega];rotate_left
 rw[show((c:Int) != 40)=zU by simp;omega];repeat ((conv=>whnf);first | refine E_ ?_ | refine C_ (z.cellE rfl) zA ?_)
 (conv=>whnf);rw[show((c:Int)==40)=zW by simp;omega];(conv=>whnf);rcases Classical.em (n=m)with hn | hn;rw[show(n==m)=zW by simp[hn]];repeat ((conv=>whnf);first | refine K_ (cs:=zJ c p w s v k) (Mo z) zA ?_ | refine K_ (cs:=zJ c' d f r y P) (Mo D) zA ?_)
 refine iT B.b (Q (.inr hn)) ?_;rotate_left
 rw[show(n==m)=zU by simp[hn]];(all_goals
 repeat ((conv=>whnf);first | refine AC.run ?_ | refine E_ ?_ | refine K_ (cs:=t_ c' d f) (Rf D) zA ?_ | refine Ad underlying24 rfl _ rfl (Ae 0 0) rfl ?_)
 refine KH (c:=c') (e:=d) (u:=f) (c':=0) (e':=0) (u':=nx) C.b.c1 C.b.p1 C.b.w1 zQ zQ (V_ _) ?_;rcases Classical.em (c'=0)with h0 | h0;rotate_left
 {rw[show zT (c'=0/\d=0/\f=nx)=zU from b_ λh=>h0 h.1];(conv=>whnf);exact⟨rfl,g.old⟩};obtain⟨L,R,rfl⟩:=C.ok h0;obtain⟨-,e0,ew⟩:=C.no L R;rw[show zT (c'=0/\d=0/\f=nx)=zW from a_ ⟨h0,e0,ew⟩];have⟨k1,k2,k3⟩:=Hc R;have k4:=C.b.n1;repeat ((conv=>whnf);first | refine AC.run ?_ | refine E_ ?_ | refine C_ (D.cellE rfl) zA ?_)
 refine An.mk (LS (t:=t) (b:=(Bq L:Int)) (I.agr g.old)) ?_;rintro _ H11 ⟨⟨rfl,-⟩,ad⟩;rw[show rpV (CI t (Bq L:Int))=rpA c' d f r y (Bq L) by rw[k3 _ (rL _) zO,<-R];exact C.e];have ae:=g.call ad;refine BO ae (rpA 0 0 nx nx nx 0) (zJ 0 0 nx nx nx 0) PU rfl λq4 H12 ah=>(AB (cs:=zJ c' d f r y (Bq L)) ah 3 rfl rfl (I_ _) rfl λH13 F=>?_);repeat ((conv=>whnf);first | refine AC.run ?_ | refine E_ ?_ | refine C_ ((F.blk 2 rfl).cellE rfl) zA ?_)
 (conv=>whnf);rw[m_ (x:=(Bq L:Int)-1) zO];refine An.mk (LS (t:=t) (b:=(Bq L:Int)-1) (I.agr F.old)) ?_;rintro _ H14 ⟨⟨rfl,T⟩,ai⟩;have aj:=F.call ai;have⟨K,U,V,O,v5,n5,W⟩:=mM T;have h5:K≠0:=λh=>by{obtain⟨L',E,-⟩:=W.ok h;have⟨e,he⟩:=Yp R (c:=(Bq L:Int)-1) zO;rw[he]at E;cases E};rw[W.e];refine BO aj (rpA 0 0 nx nx nx 0) (zJ 0 0 nx nx nx 0) PU rfl λq5 H15 ak=>(AB (cs:=zJ K U V O v5 n5) ak 4 rfl rfl (I_ _) rfl λH16 A=>?_);have X:L_ H16 q2 26 (zJ c p w s v k):=A.blk 1 rfl;have q:L_ H16 q3 26 (zJ c' d f r y (Bq L)):=A.blk 2 rfl;have Y:L_ H16 q4 26 (zJ c' d f r y (Bq L)):=A.blk 3 rfl;have Z:L_ H16 q5 26 (zJ K U V O v5 n5):=A.blk 4 rfl;have hq:zT (c=0/\p=0/\w=nx)=zT ((Bq L:Int)<=n):=by{rw[Bool.eq_iff_iff,yL,yL];constructor;{rintro⟨h,-⟩;obtain⟨L',E,-⟩:=B.ok h;have⟨j1,j2,j3⟩:=Hc E;have:=j3 m zO N;rw[R]at this;cases this;exact j2};intro h;exact B.no L (k3 n h zO)};repeat (refine AC.run ?_)
 refine Ap.quiet (F_ H16) rfl zX ?_;repeat ((conv=>whnf);first | refine E_ ?_ | refine C_ (q.cellE rfl) q.lt ?_)
 (conv=>whnf);rw[show zT ((Bq L:Int)<=m)=zW from a_ k2];repeat ((conv=>whnf);first | refine K_ (cs:=zJ c' d f r y (Bq L)) (Mo Y) Y.lt ?_ | refine K_ (cs:=zJ c' d f r y (Bq L)) (Mo q) q.lt ?_)
 refine AjK C.b ⟨rfl,rfl,rfl,rfl,rfl,rfl⟩ ?_;repeat ((conv=>whnf);first | refine E_ ?_ | refine K_ (cs:=t_ K U V) (Rf Z) Z.lt ?_ | refine Ad underlying24 rfl _ rfl (Ae 0 0) rfl ?_)
 refine KH (c:=K) (e:=U) (u:=V) (c':=0) (e':=0) (u':=nx) W.b.c1 W.b.p1 W.b.w1 zQ zQ (V_ _) ?_;rw[show zT (K=0/\U=0/\V=nx)=zU from b_ λh=>h5 h.1];repeat ((conv=>whnf);first | refine E_ ?_ | refine K_ (cs:=t_ c p w) (Rf X) X.lt ?_ | refine Ad underlying24 rfl _ rfl (Ae 0 0) rfl ?_)
 refine Wk (c:=c) (e:=p) (u:=w) (c':=0) (e':=0) (u':=nx) B.b.c1 B.b.p1 B.b.w1 zQ zQ (V_ _) ?_;rw[hq];repeat ((conv=>whnf);first | refine E_ ?_ | refine C_ (q.cellE rfl) q.lt ?_)
 refine AkW underlying4 ?_;rw[beq_self_eq_true];(conv=>whnf);exact λH' a=>⟨rfl,(A.call a).old⟩)
def RN(t:ByteArray)(n a:Int)(S:Nat->Prop)(H:Aa)(hs:t.size<=1048576)(b:Mc H):AT prog 3 #[.string t,B_ n,B_ a] H (.bool zW):=RM t n a H b
def Am8:prog.globalNamed Th=zY 3:=zX
def AjD:(prog.globals[3]?).map (·.type)=zY 358:=zX
def Am7:prog.cellsOf 358=20:=zX
def AjC:prog.cellsOf 63=1:=zX
def cM:(Rows.laid_internal_strconv_uint64pow10:DataW Unit)=tabData .u64 pow10Tab:=zX
def AmQ:List Int:=[0,1,28,2,29,14,24,3,30,22,20,15,25,17,4,8,31,27,13,23,21,19,16,7,26,12,18,6,11,5,10,9]
def AjY:Array v_:=(AmQ.map (Value.int .u8)).toArray
def AmR:List Int:=[0,1,56,2,57,49,28,3,61,58,42,50,38,29,17,4,62,47,59,36,45,43,51,22,53,39,33,30,24,18,12,5,63,55,48,27,60,41,37,16,46,35,44,21,52,32,23,11,54,26,40,15,34,20,31,10,25,14,19,9,13,8,7,6]
def AjZ:Array v_:=(AmR.map (Value.int .u8)).toArray
def Ak0:List Int:=[1,10,100,1000,10000,100000,1000000,10000000,100000000,1000000000,10000000000,100000000000,1000000000000,10000000000000,100000000000000,1000000000000000,10000000000000000,100000000000000000,1000000000000000000,10000000000000000000]
def AfY:Array v_:=(Ak0.map (Value.int .u64)).toArray
def Ow(vs:Array v_):Obj->Obj | .cells _ t frozen=>.cells vs t frozen | o=>o
noncomputable def fB(os:Os):y_:={World.holding prog os ⟨#[], #[],[]⟩with heap:=(((World.holding prog os ⟨#[], #[],[]⟩).heap.modify 4 (Ow AjY)).modify 5 (Ow AjZ)).modify 3 (Ow AfY)}
section
open Go.ChangeShapes Go.WideShapes Go.ChangeAt Go.RowKit
def AgQ:prog.globalNamed "loupe/class.escapes" =zY 0:=zX
def AiG:(prog.globals[0]?).map (·.type)=zY 166:=zX
def Al2:prog.cellsOf 166=6:=zX
def Zm:prog.cellsOf 165=2:=zX
def Al3:prog.underlying 166=zY (.array 3 165):=zX
section
variable{w:y_}{base:Nat}{held:Bool}
def R0{a:Int}{p:List MemPlace}(h:DataW.trod enc prog w base sp held c 165 cs=zY (.agg [.lit (.int .u8 a),.lit (.int .u8 b)],p)):cs=[.int .u8 a,.int .u8 b]:=by have⟨t,u,m,e,g,j,k⟩:=trod_struct2 underlying165 h;obtain⟨l,d,n,-⟩:=DataW.trod_int underlying5 j;obtain⟨q,f,r,-⟩:=DataW.trod_int underlying5 k;subst n;subst r;injection e with e2 e3;injection e2 with e2;simp only[AkY.injEq,DataW.lit.injEq,Lit.int.injEq,true_and,and_true]at e2;rw[Zm]at g;match cs,g with|[x,y],_=>{have d:[x]=[Value.int .u8 l]:=d;have f:[y]=[Value.int .u8 q]:=f;injection d with d;injection f with f;rw[d,f,<-e2.1,<-e2.2]}
def Xx{j:Nat}{p:List MemPlace}(h:DataW.trod enc prog w base sp held j 166 cs=zY (Rows.laid_loupe_class_escapes,p)):cs=UC:=by obtain⟨xs,m,-,e,r,y,q⟩:=DataW.trod_array Al3 h;rw[Al2]at r;injection e with g e2;have g:(Rows.laid_loupe_class_escapes:DataW Unit)= .agg (xs.map (·.1)):=g;unfold Rows.laid_loupe_class_escapes at g;injection g with g;match xs,y with|[x0,x1,x2],_=>{simp only[xY,List.map_nil,AkY.injEq,and_true]at g;have⟨z,A,B⟩:=g;have t:=q 0 zQ;have u:=q 1 zQ;have x:=q 2 zQ;rw[Zm]at t u x;have k:=R0 (p:=x0.2) (t.trans (by rw[z];rfl));have l:=R0 (p:=x1.2) (u.trans (by rw[A];rfl));have n:=R0 (p:=x2.2) (x.trans (by rw[B];rfl));match cs,r with|[a,b,c,d,e,f],_=>have k:[a,b]=_:=k;have l:[c,d]=_:=l;have n:[e,f]=_:=n;simp only[AkY.injEq,and_true]at k l n;obtain⟨rfl,rfl⟩:=k;obtain⟨rfl,rfl⟩:=l;obtain⟨rfl,rfl⟩:=n;rfl}
end
def rk_g:prog.globalNamed "loupe/syntax.ranks" =zY 1:=zX
def AmG:(prog.globals[1]?).map (·.type)=zY 193:=zX
def jV:prog.cellsOf 193=5:=zX
def AmE:prog.cellsOf 9=1:=zX
def jW:prog.underlying 193=zY (.array 5 9):=zX
section
variable{w:y_}{base:Nat}{held:Bool}
def IM{l:List UInt8}{p:List MemPlace}(h:DataW.trod enc prog w base sp held a 9 cs=zY (.lit (.string l),p)):cs=[.string ⟨l.toArray⟩]:=by obtain⟨s,e,x,-⟩:=DataW.trod_string underlying9 h;simp only[Prod.mk.injEq,DataW.lit.injEq,Lit.string.injEq]at x;obtain⟨rfl,-⟩:=x;rw[e]
def cT{p:List MemPlace}(h:DataW.trod enc prog w base sp held g 193 cs=zY (Rows.laid_loupe_syntax_ranks,p)):cs=PR:=by obtain⟨xs,m,-,e,t,B,j⟩:=DataW.trod_array jW h;rw[jV]at t;injection e with f e2;have f:(Rows.laid_loupe_syntax_ranks:DataW Unit)= .agg (xs.map (·.1)):=f;unfold Rows.laid_loupe_syntax_ranks at f;injection f with f;match xs,B with|[x0,x1,x2,x3,x4],_=>{simp only[xY,List.map_nil,AkY.injEq,and_true]at f;have⟨C,D,E,F,G⟩:=f;have u:=j 0 zQ;have x:=j 1 zQ;have y:=j 2 zQ;have z:=j 3 zQ;have A:=j 4 zQ;rw[AmE]at u x y z A;have k:=IM (p:=x0.2) (u.trans (by rw[C];rfl));have l:=IM (p:=x1.2) (x.trans (by rw[D];rfl));have n:=IM (p:=x2.2) (y.trans (by rw[E];rfl));have q:=IM (p:=x3.2) (z.trans (by rw[F];rfl));have r:=IM (p:=x4.2) (A.trans (by rw[G];rfl));match cs,t with|[a,b,c,d,e],_=>have k:[a]=_:=k;have l:[b]=_:=l;have n:[c]=_:=n;have q:[d]=_:=q;have r:[e]=_:=r;rw[(AkY.inj k).1,(AkY.inj l).1,(AkY.inj n).1,(AkY.inj q).1,(AkY.inj r).1];rfl}
end
def iY{n:String}{cs:Array v_}{l:List v_}(b:prog.globalNamed n=zY g)(a:W.var? prog n=zY cs)(c:cs.toList=l):AO W.heap g 0 l/\g<W.heap.size:=by refine⟨λj v d=>?_,?_⟩;{have:=World.var?_cell b a j;rw[N_];have e:cs[j]?=zY v:=by{rw[<-Array.getElem?_toList,c];exact d};rw[e]at this;exact this};unfold World.var? at a;rw[b]at a;apply Classical.byContradiction;intro f;simp only[xI]at a;rw[rB zO]at a;simp at a
def RL(h:laidMetH prog Rows.topBudgetsUptoRow.laid W):Mc W.heap:=by obtain⟨ps,⟨L,M,t,N,O,P,u,x,y,z,⟨g1,Q,A,R,p1,S,B,C,D,E,⟨g2,T,F,U,p2,V,c,d,e,b,⟨X,Y,G,Z,p3,q3,f,j,l,m,⟨g4,t4,H,f4,p4,q4,n,p,q,r,-,-⟩,-⟩,-⟩,-⟩,-⟩,-⟩:=h;have a:Eo prog W.heap:=by{have I:TabIs prog W Th .u64 pow10Tab:=by{obtain rfl:=Al1.inj (Am8.symm.trans c);obtain rfl:=Al1.inj (AjD.symm.trans d);rw[cM]at b;unfold TabIs;rw[e,<-cells_of_tab underlying358 underlying63 AjC Am7 b]};intro w J;exact Xb I λk _=>by rw[J]};obtain rfl:=Al1.inj (AgQ.symm.trans f);obtain rfl:=Al1.inj (AiG.symm.trans j);obtain rfl:=Al1.inj (rk_g.symm.trans n);obtain rfl:=Al1.inj (AmG.symm.trans p);exact⟨iY rk_g q (cT r),iY AgQ l (Xx m),a,λg K=>AjE a K W⟩
noncomputable def UN(os:Os):y_:={fB os with heap:=((fB os).heap.modify 0 (Ow UC.toArray)).modify 1 (Ow PR.toArray)}
end
section
open Go.Proofs.YtjbnocjgdmnkoaaGreatDoor.Rows (uptoBulk uptoBulkAll)
def InW(W:y_)(k:Nat):Prop:=k<W.heap.size
end
section
open Go
end
section
open Go.ChangeShapes Go.WideShapes Go.ChangeAt Go.RowKit
def S9{a:MemPlace->Prop}(b:Z_ W W')(h:A_ (F_ W.heap) W.heap W'.heap):W.keptBut W' a:=by refine⟨b.os,b.output,λi c=>?_⟩;rw[h i c];split<;>simp_all
def Pe(h:A_ (F_ W.heap) W.heap W'.heap)(a:Addr)(b:a.block<W.heap.size):W'.frozen? a=W.frozen? a:=by unfold World.frozen?;rw[h a.block b]
def Pk(h:A_ (F_ W.heap) W.heap W'.heap):∀p:MemPlace,p.block<W.heap.size->W.sameAt W' p | .cell b o,hb=>by show W'.cell? ⟨b,o,zV⟩=W.cell? ⟨b,o,zV⟩;rw[F0,F0];exact MU (h b hb)| .map b,hb=>h b hb
def Sa{H:Type}{enc:x_×v_->H}{P:w_}{W W':y_}{sp:Nat->Bool}(c:laidOutB P=zW)(e:A_ (F_ W.heap) W.heap W'.heap):∀{ts:List x_} {vs:List v_} {ds:List (DataW H)} {ps:List MemPlace},(∀t∈ts,P.readableRec t=zW/\t<P.types.size)->
  DataW.TrodAll enc P W 0 (λ_=>zW) zW ts vs ds ps->(∀p∈ps,p.block<W.heap.size)->(∀p∈ps,sp p.block=zW)->DataW.TrodAll enc P W' 0 sp zW ts vs ds ps
 | [],vs,ds,ps,_,h,_,_=>by
   obtain⟨rfl,rfl,rfl⟩:=trodAll_nil h;exact trodAll_mk0
 | t::ts,vs,ds,ps,ht,h,hlt,hsp=>by
   obtain⟨v,f,d,g,p,q,rfl,rfl,rfl,j,k⟩:=trodAll_cons h;have b:=ht t yN;exact trodAll_cons_mk (WideElems.Trod_stays c b.1 b.2 j (λx a=>Pk e x (hlt x (xU _ a))) λx a=>hsp x (xU _ a))
    (Sa c e (λx a=>ht x (yD _ a)) k (λx a=>hlt x (uI _ a)) λx a=>hsp x (uI _ a))
section
variable{H:Type}{enc:x_×v_->H}
def Ak3{w:y_}{base:Nat}{hd:Bool}{t:x_}{b:Bool}(h:P.underlying t=zY .bool):DataW.Trod enc P w base sp hd t (.bool b) (.lit (.bool b)) []:=⟨1,by simp[DataW.trod,Value.cells,h]⟩
def XQ{f:Func}{s:ChangeSpec}{apart c k:Bool}{d:Array v_}{ds gs:List (DataW H)}{a:List MemPlace}{bt:x_}(z:DataW.Whole enc P f.params.toList s.vars apart W d.toList ds gs a) (I:s.vars=[]) (A:(s.fn H (ds++gs)).results=[.lit (.bool zW)]/\(s.fn H (ds++gs)).args=ds/\(s.fn H (ds++gs)).vars=[])(M:laidOutB P=zW) (e:f.params.toList.all (λt=>P.readableRec t&&zT (t<P.types.size))=zW) (J:f.resultTypes= #[bt]) (K:P.underlying bt=zY .bool)(N:Z_ W W') (B:A_ (F_ W.heap) W.heap W'.heap):s.post enc P f apart h c k W d (.bool zW) W':=by have l:=z.lt;have C:=z;have⟨pa,U,O,L,q,Q,R⟩:=z;rw[I]at L;obtain⟨rfl,rfl⟩:=trodVars_none L;rw[xZ]at q;subst q;have⟨u,m,n⟩:=A;have S:W.keptBut W' (λ_=>False):=S9 N B;have D:∀t∈f.params.toList,P.readableRec t=zW/\t<P.types.size:=λt T=>by{have:=List.all_eq_true.1 e t T;simpa using this};have w:∀g:Nat->Bool,(∀p∈a,g p.block=zW)->DataW.TrodAll enc P W' 0 g zW f.params.toList d.toList (s.fn H (ds++[])).args a:=λg E=>by{rw[m];exact Sa M B D O l E};have x:∀(b:Nat) (g:Nat->Bool) (hd:Bool),DataW.TrodAll enc P W' b g hd f.resultTypes.toList ((Value.bool zW).resultList f.resultTypes.size) (s.fn H (ds++[])).results []:=λb g hd=>by{rw[u,J];exact trodAll_mk1 (Ak3 K)};have y:∀g:Nat->Bool,DataW.TrodVars enc P W' g s.vars (s.fn H (ds++[])).vars []:=λg=>by{rw[n,I];rfl};have F:∀(j:Nat) (t:x_) (r:v_),f.resultTypes[j]?=zY t->((Value.bool zW).resultList f.resultTypes.size)[j]?=zY r->Value.okWide P W' .any 0 t r:=ok_one J rfl (okWide_bool_mk K zW);refine⟨ds,[],a,[],a,[],C,x _ _ _,w _ (λp e=>a_ (l p e)),y _,World.keptBut_mono (λp e=>e.elim) S,λ_=>?_⟩;refine⟨F,_,_,([]++a)++[],⟨[]++a,[],trodAll_append (w _ (λ_ _=>rfl)) (x _ _ _),y _,rfl,?_,?_⟩,?_⟩;{intro b off e;simp only[List.nil_append,xZ]at e;rw[Pe B _ (l _ e)];exact Q b off e};{intro G;have:=R G;simpa using this};intro p e _;simpa using e
end
end
def jR:ownKnob prog.godebug=zV:=zX
def AlD:laidOutB prog=zW:=zX
def bE{H:Type}{ds:List (DataW H)}(h:Rows.uptoSmall H ds=zW):Rows.uptoBulkAll ds<=1048576:=by simpa [Rows.uptoSmall]using h
end Go.Proofs.YtjbnocjgdmnkoaaGreatDoor
